/- A word's number and value. -/
import Derived.Test.YtgmkehbebpljjaaGreatDoorTextEH
import Derived.Laws.RangeAny
namespace Go.Fx.Tryz
open Go Go.Fx
set_option linter.unusedSimpArgs false
set_option linter.unusedVariables false

/-- A word's number; whether it is one. -/
def numP (s : List UInt8) : Int × Bool := match Lib.parseIntB 64 s with
  | .ok v => (v, decide (Lib.itoa v = s))
  | .range => (Lib.intSat 64 s, false)
  | _ => (0, false)
theorem parse_i64 {s : List UInt8} {v : Int} (h : Lib.parseIntB 64 s = .ok v) : I64 v := by
  unfold Lib.parseIntB at h
  split at h
  · cases h
  · split at h
    · cases h
    · cases h
    · rename_i c r _ u _
      simp only at h
      split at h
      · cases h
      · rename_i h1
        split at h
        · cases h
        · rename_i h2
          cases h
          by_cases hn : c.toNat = 45
          · rw [if_pos hn]
            have : ¬ (2 ^ (64 - 1) < u) := fun hh => h2 ⟨hn, hh⟩
            exact ⟨by omega, by omega⟩
          · rw [if_neg hn]
            have : ¬ (2 ^ (64 - 1) ≤ u) := fun hh => h1 ⟨hn, hh⟩
            exact ⟨by omega, by omega⟩
theorem numP_i64 (s : List UInt8) : I64 (numP s).1 := by
  unfold numP
  split
  · rename_i h; exact parse_i64 h
  · unfold Lib.intSat
    split
    · exact ⟨by decide, by decide⟩
    · exact ⟨by decide, by decide⟩
  · exact ⟨by decide, by decide⟩

theorem parse_ok {m : Mem} (hg : Globs m) {s : List UInt8} (hs : s.length ≤ 2 ^ 40) : W (Call S1 tab 66 [str s, .int .i64 10, .int .i64 64] m) fun r m' => (∃ e, r = .tuple #[.int .i64 (numP s).1, e] ∧ ((∃ v, Lib.parseIntB 64 s = .ok v ∧ v = (numP s).1 ∧ e = .nilIface) ∨ (∃ t p, e = .iface t p ∧ (numP s).2 = false))) ∧ Upd [] m m' := by
  have h6 : (⟨s.toArray⟩ : ByteArray).size = s.length := by simp [ByteArray.size]
  have key : Call S1 tab 66 [str s, .int .i64 10, .int .i64 64] m = (match Lib.parseIntB 64 s with
      | .ok v => some (.tuple #[.int .i64 v, .nilIface], m)
      | .range => some (.tuple #[.int .i64 (Lib.intSat 64 s), .iface tNumErr (.pointer (some ⟨m.next, 0, none⟩))], m.add ⟨.cells [] 0, true, none⟩)
      | _ => some (.tuple #[.int .i64 0, .iface tNumErr (.pointer (some ⟨m.next, 0, none⟩))], m.add ⟨.cells [] 0, true, none⟩)) := by
    have hS : S1 66 [str s, .int .i64 10, .int .i64 64] m = (match Lib.parseIntB 64 s with
      | .ok v => some (.tuple #[.int .i64 v, .nilIface], m)
      | .range => some (.tuple #[.int .i64 (Lib.intSat 64 s), .iface tNumErr (.pointer (some ⟨m.next, 0, none⟩))], m.add ⟨.cells [] 0, true, none⟩)
      | _ => some (.tuple #[.int .i64 0, .iface tNumErr (.pointer (some ⟨m.next, 0, none⟩))], m.add ⟨.cells [] 0, true, none⟩)) := by
      unfold S1
      rw [if_neg (by decide), if_neg (by decide), if_pos rfl]
      unfold aParse
      simp only [str]
      rw [if_pos ⟨hg, by rw [h6]; omega⟩]
      split <;> simp_all
    rcases hp : Lib.parseIntB 64 s with v | _ | _
    · rw [hp] at hS; exact Call_hook hS
    · rw [hp] at hS; exact Call_hook hS
    · rw [hp] at hS; exact Call_hook hS
  rw [key]
  unfold numP
  rcases hp : Lib.parseIntB 64 s with v | _ | _
  · exact W_some.2 ⟨⟨_, rfl, .inl ⟨v, rfl, rfl, rfl⟩⟩, Upd.refl _ _⟩
  · exact W_some.2 ⟨⟨_, rfl, .inr ⟨_, _, rfl, rfl⟩⟩, Upd.add _ _ _⟩
  · exact W_some.2 ⟨⟨_, rfl, .inr ⟨_, _, rfl, rfl⟩⟩, Upd.add _ _ _⟩

/-- text.number. -/
theorem number_ok {m : Mem} (hg : Globs m) {s : List UInt8} (hs : s.length ≤ 2 ^ 40) : W (Call S1 tab 44 [str s] m) fun r m' => r = .tuple #[.int .i64 (numP s).1, .bool (numP s).2] ∧ Upd [] m m' := by
  rw [C44]
  refine W.bind (parse_ok hg hs) fun r m1 ⟨⟨e, hr, he⟩, hu⟩ => ?_
  subst hr
  have e0 : runExtract 0 (.tuple #[.int .i64 (numP s).1, e]) = some (.int .i64 (numP s).1) := rfl
  have e1 : runExtract 1 (.tuple #[.int .i64 (numP s).1, e]) = some e := rfl
  rcases he with ⟨v, hv, hv', rfl⟩ | ⟨t, p, rfl, hf⟩
  · have e2 : runEqIface false .nilIface .nilIface = some (.bool true) := rfl
    have h2 : (numP s).2 = decide (Lib.itoa (numP s).1 = s) := by unfold numP; rw [hv]
    simp -implicitDefEqProofs only [st0, newVal, reduceIte, e0, e1, e2, fmt_ok (hg.upd0 hu) (numP_i64 s), eql_str, ← h2]
    exact ⟨by trivial, hu⟩
  · have e2 : runEqIface false (.iface t p) .nilIface = some (.bool false) := rfl
    simp -implicitDefEqProofs only [st0, newVal, reduceIte, e0, e1, e2, hf]
    exact ⟨by trivial, hu⟩

/- strings.CutPrefix of a quote -/
def cutP : List UInt8 → List UInt8 × Bool
  | 39 :: r => (r, true)
  | s => (s, false)
theorem cutP_cons (c : UInt8) (r : List UInt8) : cutP (c :: r) = if c = 39 then (r, true) else (c :: r, false) := by
  by_cases h : c = 39
  · subst h; rfl
  · rw [if_neg h]
    unfold cutP
    split
    · rename_i e; cases e; exact absurd rfl h
    · rfl
theorem cut_ok (m : Mem) (s : List UInt8) : Call S1 tab 64 [str s, .string ⟨#[39]⟩] m = some (.tuple #[str (cutP s).1, .bool (cutP s).2], m) := by
  rw [C64, C77, C91]
  have l1 : runLenStr (.string ⟨#[39]⟩) = some (.int .i64 1) := rfl
  cases s with
  | nil =>
    have e0 : runExtract 0 (.tuple #[str [], .bool false]) = some (str []) := rfl
    have e1 : runExtract 1 (.tuple #[str [], .bool false]) = some (.bool false) := rfl
    simp -implicitDefEqProofs only [st0, newVal, reduceIte, len_str, l1, List.length_nil, show ¬ ((1 : Int) ≤ ((0 : Nat) : Int)) by decide, e0, e1]
    rfl
  | cons c r =>
    have h1 : (1 : Int) ≤ ((c :: r).length : Int) := by simp only [List.length_cons]; omega
    have e2 : runSliceStr (str (c :: r)) none (some (.int .i64 1)) = some (str [c]) := slice_str_upto (l := c :: r) (b := 1) (by simp) .i64
    have e3 : arith .eql (str [c]) (.string ⟨#[39]⟩) = some (.bool (decide ([c] = [39]))) := eql_str [c] [39]
    have e5 : runSliceStr (str (c :: r)) (some (.int .i64 1)) none = some (str r) := slice_str_from (l := c :: r) (a := 1) (by simp) .i64
    rw [cutP_cons]
    by_cases hc : c = 39
    · have hd : ([c] = [39]) = True := by simp [hc]
      have e0 : runExtract 0 (.tuple #[str r, .bool true]) = some (str r) := rfl
      have e1 : runExtract 1 (.tuple #[str r, .bool true]) = some (.bool true) := rfl
      rw [if_pos hc]
      simp -implicitDefEqProofs only [st0, newVal, reduceIte, len_str, l1, h1, e2, e3, hd, e5, e0, e1]
    · have hd : ([c] = [39]) = False := by simp [hc]
      have e0 : runExtract 0 (.tuple #[str (c :: r), .bool false]) = some (str (c :: r)) := rfl
      have e1 : runExtract 1 (.tuple #[str (c :: r), .bool false]) = some (.bool false) := rfl
      rw [if_neg hc]
      simp -implicitDefEqProofs only [st0, newVal, reduceIte, len_str, l1, h1, e2, e3, hd, e5, e0, e1]

/- strings.IndexByte of a digit -/
def hexi (c : UInt8) : Int := Lib.indexByte hexTab c
theorem hexi_ok (m : Mem) (c : UInt8) : Call S1 tab 65 [.string ⟨#[48, 49, 50, 51, 52, 53, 54, 55, 56, 57, 97, 98, 99, 100, 101, 102]⟩, .int .u8 (c.toNat : Int)] m = some (.int .i64 (hexi c), m) := by
  rw [C65, C78]
  have : runIdxByte (.string ⟨#[48, 49, 50, 51, 52, 53, 54, 55, 56, 57, 97, 98, 99, 100, 101, 102]⟩) (.int .u8 (c.toNat : Int)) = some (.int .i64 (hexi c)) := by
    simp only [runIdxByte, hexi]
    congr 3
    simp
  simp -implicitDefEqProofs only [st0, newVal, reduceIte, this]
theorem hexi_bounds (c : UInt8) : -1 ≤ hexi c ∧ hexi c < 16 := by
  have : ∀ k : Fin 256, -1 ≤ hexi (UInt8.ofNat k.val) ∧ hexi (UInt8.ofNat k.val) < 16 := by decide +kernel
  have h := this ⟨c.toNat, c.toNat_lt⟩
  simpa using h

theorem nib_ok {a b : Int} (ha : 0 ≤ a) (ha' : a < 16) (hb : 0 ≤ b) (hb' : b < 16) : ∃ x, arith .shl (.int .i64 a) (.int .u64 4) = some x ∧ ∃ y, arith .or x (.int .i64 b) = some y ∧ runConv .u8 y = some (.int .u8 ((UInt8.ofNat (16 * a.toNat + b.toNat)).toNat : Int)) := by
  obtain ⟨a, rfl⟩ := Int.eq_ofNat_of_zero_le ha
  obtain ⟨b, rfl⟩ := Int.eq_ofNat_of_zero_le hb
  refine ⟨.int .i64 ((a * 16 : Nat) : Int), ?_, ?_⟩
  · have h1 : ¬ ((4 : Int) < 0) := by omega
    have h2 : min (4 : Int).toNat IntKind.i64.bits = 4 := rfl
    simp only [arith, if_neg h1, h2]
    rw [wrap64 (by omega) (by omega)]
    congr 2
  · have h : ∀ a b : Fin 16, ibits .or .i64 ((a.val * 16 : Nat) : Int) ((b.val : Nat) : Int) = some ((16 * a.val + b.val : Nat) : Int) := by decide +kernel
    refine ⟨.int .i64 ((16 * a + b : Nat) : Int), ?_, ?_⟩
    · show (ibits .or .i64 ((a * 16 : Nat) : Int) (b : Int)).map (Value.int .i64) = _
      rw [h ⟨a, by omega⟩ ⟨b, by omega⟩]; rfl
    · simp only [runConv, IntKind.wrap, Int.toNat_natCast]
      simp [IntKind.signed, IntKind.bits]

/-- The bytes of a word of digits, two a byte; none: there is another byte among them; what is left over. -/
def unhexP : List UInt8 → Option (List UInt8 × List UInt8)
  | a :: b :: r => if hexi a < 0 ∨ hexi b < 0 then none else (unhexP r).map fun p => (UInt8.ofNat (16 * (hexi a).toNat + (hexi b).toNat) :: p.1, p.2)
  | l => some ([], l)
def valueP (s : List UInt8) : Va × Bool :=
  if (cutP s).2 = true then (match unhexP (cutP s).1 with | none => (zeroVa, false) | some (b, l) => (⟨2, 0, b⟩, decide (l = [])))
  else (⟨1, (numP s).1, []⟩, (numP s).2)

theorem afill_v : afill [.int .i64 0, .int .i64 0, .string ⟨#[]⟩] [] = some (encVa.cells zeroVa) := rfl

theorem hex_loop {vp : Nat} : ∀ (d : Nat) (h : List UInt8) (m : Mem) (v : Value) (l : List UInt8) (c0 : List Value), h.length ≤ d → m.get vp = some ⟨.cells c0 35, false, none⟩ → c0.length = 3 → vp < m.next → vp ∉ blkOf v → TAp encB 5 m v l → l.length + h.length ≤ 2 ^ 40 →
    W (P43_0 (.pointer (some ⟨vp, 0, none⟩)) (str h) v m) fun r m' => (r = .tuple #[.agg (encVa.cells (match unhexP h with | none => zeroVa | some p => ⟨2, 0, l ++ p.1⟩)).toArray, .bool (match unhexP h with | none => false | some p => decide (p.2 = []))]) ∧ Upd (vp :: blkOf v) m m' := by
  have fin : ∀ (h : List UInt8) (m : Mem) (v : Value) (l : List UInt8) (c0 : List Value), unhexP h = some ([], h) → m.get vp = some ⟨.cells c0 35, false, none⟩ → c0.length = 3 → TAp encB 5 m v l →
      W (P43_1 (.pointer (some ⟨vp, 0, none⟩)) (str h) v m) fun r m' => (r = .tuple #[.agg (encVa.cells (match unhexP h with | none => zeroVa | some p => ⟨2, 0, l ++ p.1⟩)).toArray, .bool (match unhexP h with | none => false | some p => decide (p.2 = []))]) ∧ Upd (vp :: blkOf v) m m' := by
    intro h m v l c0 hu hg hc hT
    have ef : afill [.int .i64 0, .int .i64 0, .string ⟨#[]⟩] [(0, 1, .int .i64 2), (2, 1, str l)] = some (encVa.cells ⟨2, 0, l⟩) := by rfl
    have ee : arith .eql (str h) (.string ⟨#[]⟩) = some (.bool (decide (h = []))) := eql_str h []
    rw [P43_1_eq]
    simp -implicitDefEqProofs only [st0, newVal, reduceIte, b2s_ok hT.tsl, ef, ee]
    refine W.bindO (store_whole (n := 3) hg hc rfl rfl) ?_
    rw [cells_agg]
    refine W.bindO (load_whole (n := 3) (Mem.get_put_self _ _ _) rfl) (W_some.2 ⟨?_, Upd.put _ _ (List.mem_cons_self ..)⟩)
    rw [hu]; simp
  intro d
  induction d with
  | zero =>
    intro h m v l c0 hd hg hc hlt hv hT hl
    obtain rfl : h = [] := List.length_eq_zero_iff.1 (by omega)
    rw [P43_0_eq]
    simp -implicitDefEqProofs only [st0, newVal, reduceIte, len_str, List.length_nil, show ¬ ((1 : Int) < ((0 : Nat) : Int)) by decide]
    exact fin [] m v l c0 rfl hg hc hT
  | succ d ih =>
    intro h m v l c0 hd hg hc hlt hv hT hl
    match h, hd, hl with
    | [], _, _ =>
      rw [P43_0_eq]
      simp -implicitDefEqProofs only [st0, newVal, reduceIte, len_str, List.length_nil, show ¬ ((1 : Int) < ((0 : Nat) : Int)) by decide]
      exact fin [] m v l c0 rfl hg hc hT
    | [a], _, _ =>
      rw [P43_0_eq]
      simp -implicitDefEqProofs only [st0, newVal, reduceIte, len_str, List.length_cons, List.length_nil, show ¬ ((1 : Int) < ((0 + 1 : Nat) : Int)) by decide]
      exact fin [a] m v l c0 rfl hg hc hT
    | a :: b :: r, hd, hl =>
      have h1 : (1 : Int) < ((a :: b :: r).length : Int) := by simp only [List.length_cons]; omega
      have i0 : runIndexStr (str (a :: b :: r)) (.int .i64 0) = some (.int .u8 (a.toNat : Int)) := idx_str (l := a :: b :: r) (i := 0) rfl
      have i1 : runIndexStr (str (a :: b :: r)) (.int .i64 1) = some (.int .u8 (b.toNat : Int)) := idx_str (l := a :: b :: r) (i := 1) rfl
      have ha := hexi_bounds a
      have hb := hexi_bounds b
      rw [P43_0_eq]
      by_cases hna : hexi a < 0
      · have hu : unhexP (a :: b :: r) = none := by rw [unhexP, if_pos (.inl hna)]
        simp -implicitDefEqProofs only [st0, newVal, reduceIte, len_str, h1, i0, i1, hexi_ok, hna, afill_v]
        refine W.bindO (store_whole (n := 3) hg hc rfl rfl) ?_
        rw [cells_agg]
        refine W.bindO (load_whole (n := 3) (Mem.get_put_self _ _ _) rfl) (W_some.2 ⟨?_, Upd.put _ _ (List.mem_cons_self ..)⟩)
        rw [hu]
      · by_cases hnb : hexi b < 0
        · have hu : unhexP (a :: b :: r) = none := by rw [unhexP, if_pos (.inr hnb)]
          simp -implicitDefEqProofs only [st0, newVal, reduceIte, len_str, h1, i0, i1, hexi_ok, hna, hnb, afill_v]
          refine W.bindO (store_whole (n := 3) hg hc rfl rfl) ?_
          rw [cells_agg]
          refine W.bindO (load_whole (n := 3) (Mem.get_put_self _ _ _) rfl) (W_some.2 ⟨?_, Upd.put _ _ (List.mem_cons_self ..)⟩)
          rw [hu]
        · obtain ⟨x, n1, y, n2, n3⟩ := nib_ok (a := hexi a) (b := hexi b) (by omega) ha.2 (by omega) hb.2
          have i2 : runSliceStr (str (a :: b :: r)) (some (.int .i64 2)) none = some (str r) := slice_str_from (l := a :: b :: r) (a := 2) (by simp) .i64
          simp -implicitDefEqProofs only [st0, newVal, reduceIte, len_str, h1, i0, i1, hexi_ok, hna, hnb, n1, n2, n3, afill_b]
          refine app_new (E := encB) [UInt8.ofNat (16 * (hexi a).toNat + (hexi b).toNat)] (by decide) hT (by simp only [List.length_cons, List.length_nil] at hl ⊢; omega) fun v' m' g1 g2 g3 => ?_
          simp -implicitDefEqProofs only [st0, newVal, reduceIte, i2]
          have hv' : vp ∉ blkOf v' := fun hm => by
            rcases g3 _ hm with q | q
            · exact hv q
            · omega
          refine (ih r m' v' _ c0 (by simp only [List.length_cons] at hd; omega) (by rw [g2.same _ hlt hv]; exact hg) hc (Nat.lt_of_lt_of_le hlt g2.next) hv' g1 (by simp only [List.length_append, List.length_cons, List.length_nil] at hl ⊢; omega)).mono fun q m2 ⟨q1, q2⟩ => ⟨?_, ?_⟩
          · rw [q1, unhexP, if_neg (by omega)]
            cases unhexP r with
            | none => rfl
            | some p => simp
          · have hg2 : Upd (vp :: blkOf v) m m' := g2.mono (fun b hb _ => List.mem_cons_of_mem _ hb)
            refine hg2.then' q2 (fun b hb => ?_)
            rcases List.mem_cons.1 hb with rfl | hb
            · exact .inl (List.mem_cons_self ..)
            · rcases g3 b hb with q | q
              · exact .inl (List.mem_cons_of_mem _ q)
              · exact .inr q

/-- text.value. -/
theorem value_ok {m : Mem} (hg : Globs m) {s : List UInt8} (hs : s.length ≤ 2 ^ 39) : W (Call S1 tab 43 [str s] m) fun r m' => r = .tuple #[.agg (encVa.cells (valueP s).1).toArray, .bool (valueP s).2] ∧ Upd [] m m' := by
  rw [C43]
  refine W_nw.2 ?_
  have hg1 := Mem.get_add_self m ⟨.cells [.int .i64 0, .int .i64 0, .string ⟨#[]⟩] 35, false, none⟩
  have hu1 : Upd [] m (m.add ⟨.cells [.int .i64 0, .int .i64 0, .string ⟨#[]⟩] 35, false, none⟩) := Upd.add _ _ _
  have hn1 : (m.add ⟨.cells [.int .i64 0, .int .i64 0, .string ⟨#[]⟩] 35, false, none⟩).next = m.next + 1 := rfl
  generalize m.add ⟨.cells [.int .i64 0, .int .i64 0, .string ⟨#[]⟩] 35, false, none⟩ = m1 at hg1 hu1 hn1
  have e0 : runExtract 0 (.tuple #[str (cutP s).1, .bool (cutP s).2]) = some (str (cutP s).1) := rfl
  have e1 : runExtract 1 (.tuple #[str (cutP s).1, .bool (cutP s).2]) = some (.bool (cutP s).2) := rfl
  unfold valueP
  cases hc : (cutP s).2 with
  | false =>
    rw [hc] at e0 e1
    simp -implicitDefEqProofs only [st0, newVal, reduceIte, cut_ok, hc, e0, e1]
    refine W.bind (number_ok (hg.upd0 hu1) (by omega)) fun r m2 ⟨hr, hu2⟩ => ?_
    subst hr
    have f0 : runExtract 0 (.tuple #[.int .i64 (numP s).1, .bool (numP s).2]) = some (.int .i64 (numP s).1) := rfl
    have f1 : runExtract 1 (.tuple #[.int .i64 (numP s).1, .bool (numP s).2]) = some (.bool (numP s).2) := rfl
    have ef : afill [.int .i64 0, .int .i64 0, .string ⟨#[]⟩] [(0, 1, .int .i64 1), (1, 1, .int .i64 (numP s).1)] = some (encVa.cells ⟨1, (numP s).1, []⟩) := by rfl
    simp -implicitDefEqProofs only [st0, newVal, reduceIte, f0, f1, ef]
    have hg2 := (hu2.same m.next (by omega) (by simp)).trans hg1
    refine W.bindO (store_whole (n := 3) hg2 rfl rfl rfl) ?_
    rw [cells_agg]
    exact W.bindO (load_whole (n := 3) (Mem.get_put_self _ _ _) rfl) (W_some.2 ⟨rfl, (hu1.then0 hu2).put' _ (.inr (Nat.le_refl _))⟩)
  | true =>
    rw [hc] at e0 e1
    simp -implicitDefEqProofs only [st0, newVal, reduceIte, cut_ok, hc, e0, e1]
    have hlen : (cutP s).1.length ≤ s.length := by
      cases s with
      | nil => simp [cutP]
      | cons c r => rw [cutP_cons]; split <;> simp
    refine (hex_loop (vp := m.next) (cutP s).1.length (cutP s).1 m1 (.slice none 0 0) [] _ (Nat.le_refl _) hg1 rfl (by omega) (by simp [blkOf]) (TAp.nil _) (by simp only [List.length_nil]; omega)).mono fun r m2 ⟨q1, q2⟩ => ⟨?_, hu1.then' q2 (fun b hb => ?_)⟩
    · rw [q1]
      cases unhexP (cutP s).1 with
      | none => rfl
      | some p => rfl
    · simp [blkOf] at hb; exact .inr (by omega)
theorem unhexP_len : ∀ (d : Nat) (h : List UInt8) (p : List UInt8 × List UInt8), h.length ≤ d → unhexP h = some p → p.1.length ≤ h.length := by
  intro d
  induction d with
  | zero => intro h p hd hp; obtain rfl : h = [] := List.length_eq_zero_iff.1 (by omega); simp [unhexP] at hp; subst hp; simp
  | succ d ih =>
    intro h p hd hp
    match h, hd, hp with
    | [], _, hp => simp [unhexP] at hp; subst hp; simp
    | [a], _, hp => simp [unhexP] at hp; subst hp; simp
    | a :: b :: r, hd, hp =>
      rw [unhexP] at hp
      split at hp
      · cases hp
      · simp only [Option.map_eq_some_iff] at hp
        obtain ⟨q, hq, rfl⟩ := hp
        have := ih r q (by simp only [List.length_cons] at hd; omega) hq
        simp only [List.length_cons]; omega
theorem valueP_ok (s : List UInt8) : I64 (valueP s).1.k ∧ I64 (valueP s).1.n ∧ (valueP s).1.s.length ≤ s.length := by
  unfold valueP
  have z : I64 0 := ⟨by decide, by decide⟩
  have z1 : I64 1 := ⟨by decide, by decide⟩
  have z2 : I64 2 := ⟨by decide, by decide⟩
  split
  · split
    · exact ⟨z, z, by simp [zeroVa]⟩
    · rename_i b l hp
      have h1 := unhexP_len _ _ _ (Nat.le_refl _) hp
      have hlen : (cutP s).1.length ≤ s.length := by
        cases s with
        | nil => simp [cutP]
        | cons c r => rw [cutP_cons]; split <;> simp
      exact ⟨z2, z, Nat.le_trans h1 hlen⟩
  · exact ⟨z1, numP_i64 s, by simp⟩
end Go.Fx.Tryz
/- A line's words. -/
namespace Go.Fx.Tryz
open Go Go.Fx
set_option linter.unusedSimpArgs false
set_option linter.unusedVariables false

/-- The words, between blanks. -/
def wgo (cur : List UInt8) : List UInt8 → List (List UInt8)
  | [] => if cur = [] then [] else [cur]
  | c :: r => if c = 32 then (if cur = [] then wgo [] r else cur :: wgo [] r) else wgo (cur ++ [c]) r
def fieldsW (l : List UInt8) : List (List UInt8) := wgo [] l

theorem wgo_run : ∀ (a cur r : List UInt8), (∀ c ∈ a, c ≠ 32) → wgo cur (a ++ r) = wgo (cur ++ a) r
  | [], cur, r, _ => by simp
  | c :: a, cur, r, h => by
    rw [List.cons_append, wgo, if_neg (h c (List.mem_cons_self ..)), wgo_run a (cur ++ [c]) r (fun x hx => h x (List.mem_cons_of_mem _ hx))]
    simp

theorem wgo_len : ∀ (l cur : List UInt8), (wgo cur l).length ≤ l.length + 1 ∧ ∀ x ∈ wgo cur l, x.length ≤ cur.length + l.length
  | [], cur => by
    unfold wgo
    split <;> simp
  | c :: r, cur => by
    unfold wgo
    split
    · split
      · have := wgo_len r []
        refine ⟨by simp; omega, fun x hx => ?_⟩
        have := this.2 x hx
        simp at this ⊢; omega
      · have := wgo_len r []
        refine ⟨by simp; omega, fun x hx => ?_⟩
        rcases List.mem_cons.1 hx with rfl | hx
        · omega
        · have := this.2 x hx
          simp at this ⊢; omega
    · have := wgo_len r (cur ++ [c])
      refine ⟨by simp at this ⊢; omega, fun x hx => ?_⟩
      have := this.2 x hx
      simp at this ⊢; omega
theorem fieldsW_len (l : List UInt8) : (fieldsW l).length ≤ l.length + 1 ∧ ∀ x ∈ fieldsW l, x.length ≤ l.length := by
  have := wgo_len l []
  simpa [fieldsW] using this
theorem get_bang (l : List UInt8) {i : Nat} (h : i < l.length) : (⟨l.toArray⟩ : ByteArray).get! i = l[i] := by
  simp [ByteArray.get!, h]
/-- A step of the iterator: a blank, or bytes none of which is one. -/
theorem decode_step {l : List UInt8} {i : Nat} (h : i < l.length) :
    (l[i] = 32 ∧ Utf8.decode ⟨l.toArray⟩ i = (32, 1)) ∨ ((Utf8.decode ⟨l.toArray⟩ i).1 ≠ 32 ∧ 1 ≤ (Utf8.decode ⟨l.toArray⟩ i).2 ∧ i + (Utf8.decode ⟨l.toArray⟩ i).2 ≤ l.length ∧ ∀ c ∈ (l.drop i).take (Utf8.decode ⟨l.toArray⟩ i).2, c ≠ 32) := by
  have hd : l.drop i = l[i] :: l.drop (i + 1) := List.drop_eq_getElem_cons h
  have hsz : (⟨l.toArray⟩ : ByteArray).size = l.length := by simp [ByteArray.size]
  have n32 : ∀ {c : UInt8}, c.toNat ≠ 32 → c ≠ 32 := fun hc e => hc (by rw [e]; rfl)
  have more : ∀ (k : Nat), i + k < l.length → ((⟨l.toArray⟩ : ByteArray).get! (i + k)).toNat / 64 = 2 → ∀ {hk : i + k < l.length}, l[i + k] ≠ 32 := fun k hk h2 hk' => by
    rw [get_bang l hk] at h2
    exact n32 (fun e => by rw [e] at h2; simp at h2)
  have g0 : (⟨l.toArray⟩ : ByteArray).get! (i + 0) = l[i] := by rw [Nat.add_zero]; exact get_bang l h
  by_cases h32 : l[i] = 32
  · left
    refine ⟨h32, ?_⟩
    unfold Utf8.decode
    simp only [g0, h32]
    rfl
  · right
    have h0 : l[i].toNat ≠ 32 := fun e => h32 (UInt8.toNat_inj.1 (by rw [e]; rfl))
    have one : ∀ c ∈ (l.drop i).take 1, c ≠ 32 := by rw [hd]; intro c hc; simp only [List.take_succ_cons, List.take_zero, List.mem_cons, List.not_mem_nil, or_false] at hc; subst hc; exact h32
    have lo : 128 ≤ l[i].toNat ∨ l[i].toNat < 128 := by omega
    unfold Utf8.decode
    simp only [g0, hsz]
    split
    · exact ⟨by simpa using h0, by simp, by simp; omega, one⟩
    · split
      · rename_i h1 h2
        simp only [Bool.and_eq_true, decide_eq_true_eq, beq_iff_eq] at h2
        obtain ⟨h2, h3, h4⟩ := h2
        split
        · rename_i h5
          refine ⟨by simp only; omega, by simp, by simp only; omega, ?_⟩
          rw [hd, List.drop_eq_getElem_cons h3]
          intro c hc
          simp only [List.take_succ_cons, List.take_zero, List.mem_cons, List.not_mem_nil, or_false] at hc
          rcases hc with rfl | rfl
          · exact h32
          · exact more 1 h3 h4
        · exact ⟨by simp [Utf8.runeError], by simp, by simp only; omega, one⟩
      · split
        · rename_i h1 _ h2
          simp only [Bool.and_eq_true, decide_eq_true_eq, beq_iff_eq] at h2
          obtain ⟨⟨h2, h3, h4⟩, h5, h6⟩ := h2
          split
          · rename_i h7
            simp only [Bool.and_eq_true, decide_eq_true_eq, ge_iff_le] at h7
            refine ⟨by simp only; omega, by simp, by simp only; omega, ?_⟩
            rw [hd, List.drop_eq_getElem_cons h3, List.drop_eq_getElem_cons h5]
            intro c hc
            simp only [List.take_succ_cons, List.take_zero, List.mem_cons, List.not_mem_nil, or_false] at hc
            rcases hc with rfl | rfl | rfl
            · exact h32
            · exact more 1 h3 h4
            · exact more 2 h5 h6
          · exact ⟨by simp [Utf8.runeError], by simp, by simp only; omega, one⟩
        · split
          · rename_i h1 _ _ h2
            simp only [Bool.and_eq_true, decide_eq_true_eq, beq_iff_eq] at h2
            obtain ⟨⟨⟨h2, h3, h4⟩, h5, h6⟩, h7, h8⟩ := h2
            split
            · rename_i h9
              simp only [Bool.and_eq_true, decide_eq_true_eq, ge_iff_le] at h9
              refine ⟨by simp only; omega, by simp, by simp only; omega, ?_⟩
              rw [hd, List.drop_eq_getElem_cons h3, List.drop_eq_getElem_cons h5, List.drop_eq_getElem_cons h7]
              intro c hc
              simp only [List.take_succ_cons, List.take_zero, List.mem_cons, List.not_mem_nil, or_false] at hc
              rcases hc with rfl | rfl | rfl | rfl
              · exact h32
              · exact more 1 h3 h4
              · exact more 2 h5 h6
              · exact more 3 h7 h8
            · exact ⟨by simp [Utf8.runeError], by simp, by simp only; omega, one⟩
          · exact ⟨by simp [Utf8.runeError], by simp, by simp only; omega, one⟩

def encP : Enc (Nat × Nat) := ⟨2, fun p => [.int .i64 (p.1 : Int), .int .i64 (p.2 : Int)], fun _ => rfl, fun _ => rfl⟩
def pieceP (l : List UInt8) (p : Nat × Nat) : List UInt8 := (l.drop p.1).take (p.2 - p.1)

theorem un_xor {a : Nat} (h : a < 2 ^ 62) : runUn .xor (.int .i64 (a : Int)) = some (.int .i64 (-(a : Int) - 1)) := by
  have e : ibits .xor .i64 (-1) (a : Int) = some (-(a : Int) - 1) := by
    have hx : (BitVec.ofInt 64 (-1) ^^^ BitVec.ofInt 64 (a : Int)).toNat = 2 ^ 64 - 1 - a := by
      have h1 : BitVec.ofInt 64 (-1) = BitVec.allOnes 64 := by decide
      have h2 : BitVec.ofInt 64 (a : Int) = BitVec.ofNat 64 a := by simp
      rw [h1, h2, BitVec.allOnes_xor, BitVec.toNat_not, BitVec.toNat_ofNat, Nat.mod_eq_of_lt (by omega)]
    show some (IntKind.i64.wrap ((BitVec.ofInt 64 (-1) ^^^ BitVec.ofInt 64 (a : Int)).toNat : Int)) = _
    rw [hx]
    have h3 : ((2 ^ 64 - 1 - a : Nat) : Int) = 18446744073709551615 - (a : Int) := by omega
    rw [h3]
    congr 1
    have h4 : (18446744073709551615 - (a : Int)) % 2 ^ IntKind.i64.bits = 18446744073709551615 - (a : Int) := Int.emod_eq_of_lt (by omega) (by show _ < (2 : Int) ^ 64; omega)
    have h5 : (2 : Int) ^ (IntKind.i64.bits - 1) = 9223372036854775808 := by decide
    have h6 : (2 : Int) ^ IntKind.i64.bits = 18446744073709551616 := by decide
    unfold IntKind.wrap
    simp only [h4, h5, h6]
    rw [if_pos (by simp [IntKind.signed]; omega)]
    omega
  show (ibits .xor .i64 (-1) (a : Int)).map (Value.int .i64) = _
  rw [e]; rfl

theorem words1_ok (m : Mem) (r : Int) : Call S1 tab 41 [.int .i32 r] m = some (.bool (decide (r = 32)), m) := by
  rw [C41]
  simp -implicitDefEqProofs only [st0, newVal, reduceIte]

theorem afill_sp (a b : Nat) : afill [.int .i64 0, .int .i64 0] [(0, 1, .int .i64 (a : Int)), (1, 1, .int .i64 (b : Int))] = some (encP.cells (a, b)) := by rfl
theorem afill_sp2 (p : Nat × Nat) : afill [.int .i64 0, .int .i64 0] [(0, 2, Value.agg (encP.cells p).toArray)] = some (encP.flat [p]) := by rfl

abbrev TSp : TypeId := (98 : TypeId)
/-- Where a word begins, if one has. -/
def OpenAt (l : List UInt8) (pos : Nat) (x : Int) (cur : List UInt8) : Prop := (x < 0 ∧ cur = []) ∨ ∃ a : Nat, x = (a : Int) ∧ a < pos ∧ cur = pieceP l (a, pos)
theorem piece_ne {l : List UInt8} {a b : Nat} (h : a < b) (hb : b ≤ l.length) : pieceP l (a, b) ≠ [] := by
  intro e
  have := congrArg List.length e
  simp [pieceP] at this
  omega
theorem piece_more {l : List UInt8} {a b w : Nat} (h : a ≤ b) : pieceP l (a, b + w) = pieceP l (a, b) ++ (l.drop b).take w := by
  unfold pieceP
  have h1 : b + w - a = (b - a) + w := by omega
  have h2 : l.drop b = (l.drop a).drop (b - a) := by rw [List.drop_drop]; congr 1; omega
  simp only [h1, h2, List.take_add]

theorem fields_loop {l : List UInt8} (hl : l.length ≤ 2 ^ 40) {it : Nat} : ∀ (d pos : Nat) (m : Mem) (v : Value) (sp : List (Nat × Nat)) (x : Int) (cur : List UInt8), l.length - pos ≤ d → pos ≤ l.length → m.get it = some ⟨.siter ⟨l.toArray⟩ pos, false, none⟩ → it < m.next → it ∉ blkOf v → TAp encP TSp m v sp → sp.length ≤ pos →
    (∀ p ∈ sp, p.1 ≤ p.2 ∧ p.2 ≤ l.length) → OpenAt l pos x cur →
    ∀ {Q : Value → Mem → Prop}, (∀ v' m' sp', TAp encP TSp m' v' sp' → sp'.length ≤ l.length + 1 → (∀ p ∈ sp', p.1 ≤ p.2 ∧ p.2 ≤ l.length) → sp'.map (pieceP l) = sp.map (pieceP l) ++ wgo cur (l.drop pos) → Upd (it :: blkOf v) m m' → (∀ b ∈ blkOf v', b ∈ blkOf v ∨ m.next ≤ b) → W (P40_2 (str l) v' m') Q) →
    W (P40_0 (str l) (.func (.func 41) #[] #[]) v (.int .i64 x) (.pointer (some ⟨it, 0, none⟩)) m) Q := by
  have hsz : (⟨l.toArray⟩ : ByteArray).size = l.length := by simp [ByteArray.size]
  have hcap : capsOf (.func (.func 41) #[] #[]) = some (41, [], []) := by rfl
  intro d
  induction d with
  | zero =>
    intro pos m v sp x cur hd hp hg hlt hv hT hsp hall hop Q hK
    obtain rfl : pos = l.length := by omega
    have hn : runNextS (.pointer (some ⟨it, 0, none⟩)) m = some (.tuple #[.bool false], m) := by
      simp only [runNextS, Mem.iterAt, hg, Option.bind_some, hsz]
      rw [if_neg (by omega)]
    have e0 : runExtract 0 (.tuple #[.bool false]) = some (.bool false) := rfl
    rw [P40_0_eq]
    simp -implicitDefEqProofs only [st0, newVal, reduceIte, hn, e0]
    rw [P40_1_eq]
    rcases hop with ⟨hx, rfl⟩ | ⟨a, rfl, ha, rfl⟩
    · have h0 : ¬ (0 ≤ x) := by omega
      simp -implicitDefEqProofs only [st0, newVal, reduceIte, h0]
      exact hK v m sp hT (by omega) hall (by simp [wgo]) (Upd.refl _ _) (fun b hb => .inl hb)
    · have h0 : (0 : Int) ≤ (a : Int) := by omega
      simp -implicitDefEqProofs only [st0, newVal, reduceIte, h0, len_str, afill_sp, afill_sp2]
      refine app_new (E := encP) [(a, l.length)] (by decide) hT (by simp; omega) fun v' m' g1 g2 g3 => ?_
      refine hK v' m' _ g1 (by simp; omega) (fun p hp => ?_) ?_ (g2.mono (fun b hb _ => List.mem_cons_of_mem _ hb)) g3
      · rcases List.mem_append.1 hp with h | h
        · exact hall p h
        · simp at h; subst h; exact ⟨by simp only; omega, by simp⟩
      · rw [List.map_append, List.drop_length]
        have : pieceP l (a, l.length) ≠ [] := piece_ne ha (Nat.le_refl _)
        simp [wgo, this]
  | succ d ih =>
    intro pos m v sp x cur hd hp hg hlt hv hT hsp hall hop Q hK
    by_cases hpos : pos < l.length
    · have hn : runNextS (.pointer (some ⟨it, 0, none⟩)) m = some (.tuple #[.bool true, .int .i64 (pos : Int), .int .i32 ((Utf8.decode ⟨l.toArray⟩ pos).1 : Int)], m.put it ⟨.siter ⟨l.toArray⟩ (pos + (Utf8.decode ⟨l.toArray⟩ pos).2), false, none⟩) := by
        simp only [runNextS, Mem.iterAt, hg, Option.bind_some, hsz]
        rw [if_pos hpos]
      have hst := decode_step hpos
      generalize hrw : Utf8.decode ⟨l.toArray⟩ pos = rw' at hn hst
      obtain ⟨r, w⟩ := rw'
      simp only at hn hst
      have e0 : ∀ r : Int, runExtract 0 (.tuple #[.bool true, .int .i64 (pos : Int), .int .i32 r]) = some (.bool true) := fun _ => rfl
      have e1 : ∀ r : Int, runExtract 1 (.tuple #[.bool true, .int .i64 (pos : Int), .int .i32 r]) = some (.int .i64 (pos : Int)) := fun _ => rfl
      have e2 : ∀ r : Int, runExtract 2 (.tuple #[.bool true, .int .i64 (pos : Int), .int .i32 r]) = some (.int .i32 r) := fun _ => rfl
      have hu1 : Upd (it :: blkOf v) m (m.put it ⟨.siter ⟨l.toArray⟩ (pos + w), false, none⟩) := Upd.put _ _ (List.mem_cons_self ..)
      have hT1 : TAp encP TSp (m.put it ⟨.siter ⟨l.toArray⟩ (pos + w), false, none⟩) v sp := hT.upd (Upd.put (fp := [it]) _ _ (by simp)) (fun b hb hm => by simp at hm; subst hm; exact hv hb)
      have hg1 : (m.put it ⟨.siter ⟨l.toArray⟩ (pos + w), false, none⟩).get it = some ⟨.siter ⟨l.toArray⟩ (pos + w), false, none⟩ := Mem.get_put_self ..
      have hn1 : (m.put it ⟨.siter ⟨l.toArray⟩ (pos + w), false, none⟩).next = m.next := rfl
      generalize m.put it ⟨.siter ⟨l.toArray⟩ (pos + w), false, none⟩ = m1 at hn hu1 hT1 hg1 hn1
      have hdr : l.drop pos = l[pos] :: l.drop (pos + 1) := List.drop_eq_getElem_cons hpos
      rw [P40_0_eq]
      rcases hst with ⟨h32, hrw32⟩ | ⟨hne, hw1, hwl, hno⟩
      · cases hrw32
        simp -implicitDefEqProofs only [st0, newVal, reduceIte, hn, e0, e1, e2, hcap, List.nil_append, List.append_nil, words1_ok, show (((32 : Nat) : Int) = 32) from rfl, show ((32 : Int) = 32) = True from by simp]
        rcases hop with ⟨hx, rfl⟩ | ⟨a, rfl, ha, rfl⟩
        · have h0 : ¬ (0 ≤ x) := by omega
          simp -implicitDefEqProofs only [st0, newVal, reduceIte, h0]
          refine ih (pos + 1) m1 v sp x [] (by omega) (by omega) hg1 (by omega) hv hT1 (by omega) hall (.inl ⟨hx, rfl⟩) fun v' m' sp' q1 q2 q3 q4 q5 q6 => hK v' m' sp' q1 q2 q3 ?_ (hu1.trans q5) (fun b hb => by rw [hn1] at q6; exact q6 b hb)
          rw [q4, hdr, wgo, if_pos h32, if_pos rfl]
        · have h0 : (0 : Int) ≤ (a : Int) := by omega
          simp -implicitDefEqProofs only [st0, newVal, reduceIte, h0, afill_sp, afill_sp2]
          refine app_new (E := encP) [(a, pos)] (by decide) hT1 (by simp; omega) fun v' m' g1 g2 g3 => ?_
          simp -implicitDefEqProofs only [st0, newVal, reduceIte, un_xor (show a < 2 ^ 62 by omega)]
          have hit : it ∉ blkOf v' := fun hm => by
            rcases g3 _ hm with q | q
            · exact hv q
            · omega
          have hup : Upd (it :: blkOf v) m m' := hu1.trans (g2.mono (fun b hb _ => List.mem_cons_of_mem _ hb))
          have hown : ∀ b ∈ it :: blkOf v', b ∈ it :: blkOf v ∨ m.next ≤ b := fun b hb => by
            rcases List.mem_cons.1 hb with rfl | hb
            · exact .inl (List.mem_cons_self ..)
            · rcases g3 b hb with q | q
              · exact .inl (List.mem_cons_of_mem _ q)
              · exact .inr (by omega)
          have hgit : m'.get it = some ⟨.siter ⟨l.toArray⟩ (pos + 1), false, none⟩ := (g2.same it (by omega) hv).trans hg1
          refine ih (pos + 1) m' v' (sp ++ [(a, pos)]) (-(a : Int) - 1) [] (by omega) (by omega) hgit (by have := g2.next; omega) hit g1 (by simp; omega) (fun p hp => ?_) (.inl ⟨by omega, rfl⟩) fun v2 m2 sp2 q1 q2 q3 q4 q5 q6 => hK v2 m2 sp2 q1 q2 q3 ?_ (hup.then' q5 hown) (fun b hb => ?_)
          · rcases List.mem_append.1 hp with h | h
            · exact hall p h
            · simp at h; subst h; exact ⟨by simp only; omega, by simp only; omega⟩
          · rw [q4, hdr, wgo, if_pos h32, if_neg (piece_ne ha (by omega))]
            simp
          · rcases q6 b hb with q | q
            · rcases g3 b q with q | q
              · exact .inl q
              · exact .inr (by omega)
            · exact .inr (by have := g2.next; omega)
      · have hr32 : ¬ ((r : Int) = 32) := by omega
        have hsplit : l.drop pos = (l.drop pos).take w ++ l.drop (pos + w) := by
          rw [← List.drop_drop]; exact (List.take_append_drop ..).symm
        have hwgo : ∀ cur, wgo cur (l.drop pos) = wgo (cur ++ (l.drop pos).take w) (l.drop (pos + w)) := fun cur => (congrArg (wgo cur) hsplit).trans (wgo_run _ _ _ hno)
        simp -implicitDefEqProofs only [st0, newVal, reduceIte, hn, e0, e1, e2, hcap, List.nil_append, List.append_nil, words1_ok, hr32]
        rcases hop with ⟨hx, rfl⟩ | ⟨a, rfl, ha, rfl⟩
        · simp -implicitDefEqProofs only [st0, newVal, reduceIte, hx]
          refine ih (pos + w) m1 v sp (pos : Int) ((l.drop pos).take w) (by omega) hwl hg1 (by omega) hv hT1 (by omega) hall (.inr ⟨pos, rfl, by omega, by simp [pieceP]⟩) fun v' m' sp' q1 q2 q3 q4 q5 q6 => hK v' m' sp' q1 q2 q3 ?_ (hu1.trans q5) (fun b hb => by rw [hn1] at q6; exact q6 b hb)
          rw [q4, hwgo]
          simp
        · have h0 : ¬ ((a : Int) < 0) := by omega
          simp -implicitDefEqProofs only [st0, newVal, reduceIte, h0]
          refine ih (pos + w) m1 v sp (a : Int) (pieceP l (a, pos) ++ (l.drop pos).take w) (by omega) hwl hg1 (by omega) hv hT1 (by omega) hall (.inr ⟨a, rfl, by omega, (piece_more (by omega)).symm⟩) fun v' m' sp' q1 q2 q3 q4 q5 q6 => hK v' m' sp' q1 q2 q3 ?_ (hu1.trans q5) (fun b hb => by rw [hn1] at q6; exact q6 b hb)
          rw [q4, hwgo]
    · exact (by
        obtain rfl : pos = l.length := by omega
        have hn : runNextS (.pointer (some ⟨it, 0, none⟩)) m = some (.tuple #[.bool false], m) := by
          simp only [runNextS, Mem.iterAt, hg, Option.bind_some, hsz]
          rw [if_neg (by omega)]
        have e0 : runExtract 0 (.tuple #[.bool false]) = some (.bool false) := rfl
        rw [P40_0_eq]
        simp -implicitDefEqProofs only [st0, newVal, reduceIte, hn, e0]
        rw [P40_1_eq]
        rcases hop with ⟨hx, rfl⟩ | ⟨a, rfl, ha, rfl⟩
        · have h0 : ¬ (0 ≤ x) := by omega
          simp -implicitDefEqProofs only [st0, newVal, reduceIte, h0]
          exact hK v m sp hT (by omega) hall (by simp [wgo]) (Upd.refl _ _) (fun b hb => .inl hb)
        · have h0 : (0 : Int) ≤ (a : Int) := by omega
          simp -implicitDefEqProofs only [st0, newVal, reduceIte, h0, len_str, afill_sp, afill_sp2]
          refine app_new (E := encP) [(a, l.length)] (by decide) hT (by simp; omega) fun v' m' g1 g2 g3 => ?_
          refine hK v' m' _ g1 (by simp; omega) (fun p hp => ?_) ?_ (g2.mono (fun b hb _ => List.mem_cons_of_mem _ hb)) g3
          · rcases List.mem_append.1 hp with h | h
            · exact hall p h
            · simp at h; subst h; exact ⟨by simp only; omega, by simp⟩
          · rw [List.map_append, List.drop_length]
            have : pieceP l (a, l.length) ≠ [] := piece_ne ha (Nat.le_refl _)
            simp [wgo, this])

theorem fill_loop {l : List UInt8} {sp : List (Nat × Nat)} {A : Nat} {sv : Value} (hsp : ∀ p ∈ sp, p.1 ≤ p.2 ∧ p.2 ≤ l.length) (hn : sp.length ≤ 2 ^ 41) : ∀ (d i : Nat) (m : Mem), i + d = sp.length → (∀ m', Upd [A] m m' → TSl encP m' sv sp) → A < m.next →
    m.get A = some ⟨.cells (encS.flat ((sp.take i).map (pieceP l) ++ List.replicate (sp.length - i) [])) 9, false, none⟩ →
    W (P40_3 (str l) (.slice (some ⟨A, 0, none⟩) sp.length sp.length) sv (.int .i64 (sp.length : Int)) (.int .i64 (i : Int)) m) fun r m' => r = .slice (some ⟨A, 0, none⟩) sp.length sp.length ∧ m'.get A = some ⟨.cells (encS.flat (sp.map (pieceP l))) 9, false, none⟩ ∧ Upd [A] m m' := by
  intro d
  induction d with
  | zero =>
    intro i m hd hT hA hg
    obtain rfl : i = sp.length := by omega
    rw [P40_3_eq]
    simp -implicitDefEqProofs only [st0, newVal, reduceIte, Int.lt_irrefl]
    exact ⟨by trivial, by simpa using hg, Upd.refl _ _⟩
  | succ d ih =>
    intro i m hd hT hA hg
    have hi : i < sp.length := by omega
    have hlt : (i : Int) < (sp.length : Int) := by omega
    have hx : sp[i]? = some sp[i] := List.getElem?_eq_getElem hi
    have hpi := hsp _ (List.getElem_mem hi)
    obtain ⟨b, off, p1, p2⟩ := (hT m (Upd.refl _ _)).at .i64 hx
    have p1 : runIndexS 2 sv (.int .i64 (i : Int)) = _ := p1
    have p2 : runLoadN 2 (.pointer (some ⟨b, off, none⟩)) m = _ := (p2 m (hT m (Upd.refl _ _))).1
    have htk : sp.take (i + 1) = sp.take i ++ [sp[i]] := by rw [List.take_add_one, hx]; rfl
    generalize sp[i] = p at hx hpi p2 htk
    rw [P40_3_eq]
    simp -implicitDefEqProofs only [st0, newVal, reduceIte, hlt, p1, p2]
    refine W.bindO (store_whole (n := 2) (Mem.get_add_self _ _) rfl rfl rfl) ?_
    rw [cells_agg]
    generalize hm1 : (Mem.put _ m.next ⟨.cells (encP.cells p) 98, false, none⟩) = m1
    have u1 : Upd [] m m1 := hm1 ▸ (Upd.add [] m _).put' _ (.inr (Nat.le_refl _))
    have g1 : m1.get m.next = some ⟨.cells (encP.cells p) 98, false, none⟩ := by rw [← hm1, Mem.get_put_self]
    have f : ∀ k, runFieldAddr k (.pointer (some ⟨m.next, 0, none⟩)) = some (.pointer (some ⟨m.next, 0 + k, none⟩)) := fun k => rfl
    have gA := (u1.same A hA (by simp)).trans hg
    have q1 : runIndexS 1 (.slice (some ⟨A, 0, none⟩) sp.length sp.length) (.int .i64 (i : Int)) = some (.pointer (some ⟨A, 0 + i * 1, none⟩)) := by
      simp only [runIndexS]
      rw [if_pos (by omega), Int.toNat_natCast]
    have hlen : (encS.flat ((sp.take i).map (pieceP l) ++ List.replicate (sp.length - i) [])).length = sp.length := by
      rw [encS.flat_len]; simp [encS]; omega
    simp -implicitDefEqProofs only [st0, newVal, reduceIte, f, load_at g1 (show (encP.cells p)[0 + 0]? = some (.int .i64 (p.1 : Int)) from rfl), load_at g1 (show (encP.cells p)[0 + 1]? = some (.int .i64 (p.2 : Int)) from rfl), slice_str hpi.1 hpi.2, q1]
    refine W.bindO (store_at gA (by omega) rfl rfl) ?_
    simp -implicitDefEqProofs only [st0, newVal, reduceIte, i64_succ (show i < 2 ^ 62 by omega)]
    have hset : (encS.flat ((sp.take i).map (pieceP l) ++ List.replicate (sp.length - i) [])).set (0 + i * 1) (str ((l.drop p.1).take (p.2 - p.1))) = encS.flat ((sp.take (i + 1)).map (pieceP l) ++ List.replicate (sp.length - (i + 1)) []) := by
      have e1 : sp.length - i = (sp.length - (i + 1)) + 1 := by omega
      have e2 : (encS.flat ((sp.take i).map (pieceP l))).length = 0 + i * 1 := by rw [encS.flat_len]; simp [encS]; omega
      rw [htk, e1, List.replicate_succ, List.map_append, encS.flat_append, encS.flat_append, encS.flat_append, encS.flat_cons]
      rw [← e2, List.set_append_right _ _ (Nat.le_refl _), Nat.sub_self]
      simp [encS, Enc.flat, pieceP]
    rw [hset]
    have u2 : Upd [A] m (m1.put A ⟨.cells (encS.flat ((sp.take (i + 1)).map (pieceP l) ++ List.replicate (sp.length - (i + 1)) [])) 9, false, none⟩) := u1.nil'.put' _ (.inl (by simp))
    exact (ih (i + 1) _ (by omega) (fun m' h' => hT m' (u2.trans h')) (Nat.lt_of_lt_of_le hA u2.next) (Mem.get_put_self ..)).mono fun r m' ⟨r1, r2, r3⟩ => ⟨r1, r2, u2.trans r3⟩

/-- text.words. -/
theorem words_ok {l : List UInt8} (hl : l.length ≤ 2 ^ 40) (m : Mem) : W (Call S1 tab 23 [str l] m) fun r m' => TAp encS 9 m' r (fieldsW l) ∧ Upd [] m m' ∧ ∀ b ∈ blkOf r, m.next ≤ b := by
  rw [C23, C40]
  have e1 : runMakeS 98 16 [.int .i64 0, .int .i64 0] (.int .i64 0) (.int .i64 32) m = some (.slice (some ⟨m.next, 0, none⟩) 0 32, m.add ⟨.cells (List.replicate 32 [Value.int .i64 0, .int .i64 0]).flatten 98, false, none⟩) := by rfl
  have hT1 : TAp encP TSp (m.add ⟨.cells (List.replicate 32 [Value.int .i64 0, .int .i64 0]).flatten 98, false, none⟩) (.slice (some ⟨m.next, 0, none⟩) 0 32) [] := .inr ⟨m.next, 32, (List.replicate 32 [Value.int .i64 0, .int .i64 0]).flatten, none, rfl, by simp, by rw [Mem.get_add_self]; rfl, .inl rfl, rfl, by simp⟩
  have hu1 : Upd [] m (m.add ⟨.cells (List.replicate 32 [Value.int .i64 0, .int .i64 0]).flatten 98, false, none⟩) := Upd.add _ _ _
  have hn1 : (m.add ⟨.cells (List.replicate 32 [Value.int .i64 0, .int .i64 0]).flatten 98, false, none⟩).next = m.next + 1 := rfl
  generalize (m.add ⟨.cells (List.replicate 32 [Value.int .i64 0, .int .i64 0]).flatten 98, false, none⟩) = m1 at e1 hT1 hu1 hn1
  have e2 : runRangeS (str l) m1 = some (.pointer (some ⟨m1.next, 0, none⟩), m1.add ⟨.siter ⟨l.toArray⟩ 0, false, none⟩) := rfl
  have hu2 : Upd [] m1 (m1.add ⟨.siter ⟨l.toArray⟩ 0, false, none⟩) := Upd.add _ _ _
  have hg2 := Mem.get_add_self m1 ⟨.siter ⟨l.toArray⟩ 0, false, none⟩
  have hn2 : (m1.add ⟨.siter ⟨l.toArray⟩ 0, false, none⟩).next = m1.next + 1 := rfl
  refine W.bind (Q := fun r m' => TAp encS 9 m' r (fieldsW l) ∧ Upd [] m m' ∧ ∀ b ∈ blkOf r, m.next ≤ b) ?_ (fun r m' h => W_some.2 h)
  simp -implicitDefEqProofs only [st0, newVal, reduceIte, e1, e2]
  generalize (m1.add ⟨.siter ⟨l.toArray⟩ 0, false, none⟩) = m2 at hu2 hg2 hn2
  refine fields_loop hl l.length 0 m2 _ [] (-1) [] (by omega) (by omega) hg2 (by omega) (by simp [blkOf]; omega) (hT1.upd0 hu2) (by simp) (by simp) (.inl ⟨by omega, rfl⟩) fun v3 m3 sp q1 q2 q3 q4 q5 q6 => ?_
  rw [List.drop_zero, List.map_nil, List.nil_append] at q4
  have hv3 : ∀ b ∈ blkOf v3, m.next ≤ b := fun b hb => by
    rcases q6 b hb with q | q
    · simp [blkOf] at q; omega
    · omega
  have hu3 : Upd [] m m3 := (hu1.then0 hu2).then' q5 (fun b hb => by simp [blkOf] at hb; exact .inr (by omega))
  have e4 : runMakeS 9 16 [.string ⟨#[]⟩] (.int .i64 (sp.length : Int)) (.int .i64 (sp.length : Int)) m3 = some (.slice (some ⟨m3.next, 0, none⟩) sp.length sp.length, m3.add ⟨.cells (List.replicate sp.length [Value.string ⟨#[]⟩]).flatten 9, false, none⟩) := by
    simp only [runMakeS]
    rw [if_pos (by omega)]
    simp
  have e5 : (List.replicate sp.length [Value.string ⟨#[]⟩]).flatten = encS.flat ((sp.take 0).map (pieceP l) ++ List.replicate (sp.length - 0) []) := by
    simp only [List.take_zero, List.map_nil, List.nil_append, Nat.sub_zero]
    generalize sp.length = n
    induction n with
    | zero => rfl
    | succ n ih => rw [List.replicate_succ, List.replicate_succ, encS.flat_cons, List.flatten_cons, ih]; rfl
  rw [P40_2_eq]
  simp -implicitDefEqProofs only [st0, newVal, reduceIte, q1.tsl.len, e4]
  rw [e5]
  have hlt3 := q1.lt
  refine (fill_loop q3 (by omega) sp.length 0 _ (by omega) (fun m' h' => (q1.upd0 (Upd.add [] m3 _)).tsl.upd h' (fun b hb => ?_)) (by simp) (Mem.get_add_self ..)).mono fun r m4 ⟨r1, r2, r3⟩ => ⟨?_, ?_, ?_⟩
  · have := hlt3 b hb
    exact ⟨by simp; omega, by simp; omega⟩
  · subst r1
    have hlen : (fieldsW l).length = sp.length := by rw [fieldsW, ← q4, List.length_map]
    refine .inr ⟨m3.next, sp.length, [], none, by rw [hlen], ?_, ?_, .inl rfl, by rw [hlen]; simp, by omega⟩
    · have := r3.next; simp at this; omega
    · rw [r2, q4, List.append_nil]; rfl
  · exact (hu3.then0 (Upd.add [] m3 _)).then' r3 (fun b hb => by simp at hb; subst hb; exact .inr hu3.next)
  · subst r1
    intro b hb
    simp [blkOf] at hb
    subst hb
    exact hu3.next
end Go.Fx.Tryz
/- The instruction of words. -/
namespace Go.Fx.Tryz
open Go Go.Fx
set_option linter.unusedSimpArgs false
set_option linter.unusedVariables false

theorem Upd.bump (fp : List Nat) (m : Mem) (n : Nat) : Upd fp m (m.bump n) := ⟨by simp, fun b _ _ => rfl⟩

/- slices.Index -/
def idxGo (x : List UInt8) : Nat → List (List UInt8) → Int
  | _, [] => -1
  | i, y :: r => if x = y then (i : Int) else idxGo x (i + 1) r
def idxP (x : List UInt8) : Int := idxGo x 0 opNames
theorem index_loop {ws : List (List UInt8)} {sv : Value} {x : List UInt8} {m : Mem} (hT : TSl encS m sv ws) (hn : ws.length ≤ 2 ^ 40) : ∀ (d i : Nat), i + d = ws.length →
    P42_0 sv (str x) (.int .i64 (ws.length : Int)) (.int .i64 (i : Int)) m = some (.int .i64 (idxGo x i (ws.drop i)), m) := by
  intro d
  induction d with
  | zero =>
    intro i hd
    obtain rfl : i = ws.length := by omega
    rw [P42_0_eq]
    simp -implicitDefEqProofs only [st0, newVal, reduceIte, Int.lt_irrefl]
    simp [idxGo]
  | succ d ih =>
    intro i hd
    have hi : i < ws.length := by omega
    have hlt : (i : Int) < (ws.length : Int) := by omega
    obtain ⟨p, p1, p2⟩ := idx_s hT hi
    have hdrop : ws.drop i = ws[i] :: ws.drop (i + 1) := List.drop_eq_getElem_cons hi
    rw [hdrop]
    generalize ws[i] = w at p2
    rw [P42_0_eq]
    by_cases h : x = w
    · have h' := eq_true h
      simp -implicitDefEqProofs only [st0, newVal, reduceIte, hlt, p1, p2, eql_str, h', idxGo]
    · simp -implicitDefEqProofs only [st0, newVal, reduceIte, hlt, p1, p2, eql_str, h, idxGo, i64_succ (show i < 2 ^ 62 by omega)]
      exact ih (i + 1) (by omega)
theorem index_ok {ws : List (List UInt8)} {sv : Value} (x : List UInt8) {m : Mem} (hT : TSl encS m sv ws) (hn : ws.length ≤ 2 ^ 40) : Call S1 tab 42 [sv, str x] m = some (.int .i64 (idxGo x 0 ws), m) := by
  rw [C42]
  simp -implicitDefEqProofs only [st0, newVal, reduceIte, hT.len]
  exact index_loop hT hn ws.length 0 (by omega)
theorem idxP_i64 (x : List UInt8) : I64 (idxP x) := by
  have h : ∀ (l : List (List UInt8)) (i : Nat), i + l.length ≤ 20 → -1 ≤ idxGo x i l ∧ idxGo x i l ≤ 20 := by
    intro l
    induction l with
    | nil => intro i h; simp [idxGo]
    | cons y r ih =>
      intro i h
      simp only [idxGo]
      simp only [List.length_cons] at h
      split
      · omega
      · exact ih (i + 1) (by omega)
  have := h opNames 0 (by decide)
  unfold idxP I64
  omega

/- the operands -/
def In.setA (i : In) (k : Nat) (x : Int) : In := match k with
  | 0 => { i with a := x }
  | 1 => { i with b := x }
  | _ => { i with c := x }
theorem setA_cells (i : In) (k : Nat) (x : Int) (h : k < 3) : (encIn.cells i).set (0 + (k + 1)) (.int .i64 x) = encIn.cells (i.setA k x) := by
  match k, h with
  | 0, _ | 1, _ | 2, _ => rfl
theorem setA_ok {i : In} (h : i.Ok) (k : Nat) {x : Int} (hx : I64 x) : (i.setA k x).Ok := by
  unfold In.setA
  split
  · exact ⟨h.op, hx, h.b, h.c, h.k, h.n, h.s⟩
  · exact ⟨h.op, h.a, hx, h.c, h.k, h.n, h.s⟩
  · exact ⟨h.op, h.a, h.b, hx, h.k, h.n, h.s⟩
def argsGo (i : In) (k : Nat) : List (List UInt8) → Option In
  | [] => some i
  | s :: r => if (numP s).2 = true ∧ 0 ≤ (numP s).1 ∧ (numP s).1 ≤ 255 then argsGo (i.setA k (numP s).1) (k + 1) r else none
def finP (i : In) : Option In := if codeErr [i] = 0 then some i else none
/-- The instruction of words, if it is one's. -/
def instP (w : List (List UInt8)) : Option In :=
  if (opn (idxP (w.headD []))).2 = false then none
  else if idxP (w.headD []) = 1 then
    (if w.tail.length ≠ (opn (idxP (w.headD []))).1.toNat + 1 then none
    else if (valueP (w.tail[(opn (idxP (w.headD []))).1.toNat]?.getD [])).2 = false then none
    else (argsGo ⟨idxP (w.headD []), 0, 0, 0, (valueP (w.tail[(opn (idxP (w.headD []))).1.toNat]?.getD [])).1.k, (valueP (w.tail[(opn (idxP (w.headD []))).1.toNat]?.getD [])).1.n, (valueP (w.tail[(opn (idxP (w.headD []))).1.toNat]?.getD [])).1.s⟩ 0 (w.tail.take (opn (idxP (w.headD []))).1.toNat)).bind finP)
  else if w.tail.length ≠ (opn (idxP (w.headD []))).1.toNat then none
  else (argsGo ⟨idxP (w.headD []), 0, 0, 0, 0, 0, []⟩ 0 w.tail).bind finP

/-- What text.inst hands back. -/
def InstR (o : Option In) (r : Value) : Prop := ∃ (j : In) (b : Bool), r = .tuple #[.agg (encIn.cells j).toArray, .bool b] ∧ (match o with | some j' => j = j' ∧ b = true | none => b = false)

theorem z0 : I64 0 := ⟨by decide, by decide⟩
def encPt (B : Nat) : Enc Nat := ⟨1, fun k => [.pointer (some ⟨B, 0 + k, none⟩)], fun _ => rfl, fun _ => rfl⟩

theorem inst_end {i : In} {B X : Nat} {c2 : List Value} {m : Mem} (hi : i.Ok) (hg : Globs m) (hB : m.get B = some ⟨.cells (encIn.cells i) 37, false, none⟩) (hX : m.get X = some ⟨.cells c2 37, false, none⟩) (hc2 : c2.length = 7) (hBl : B < m.next) (hXl : X < m.next) :
    W (P24_2 (.pointer (some ⟨X, 0, none⟩)) (.pointer (some ⟨B, 0, none⟩)) m) fun r m' => InstR (finP i) r ∧ Upd [B, X] m m' := by
  rw [P24_2_eq]
  have ef : afill [.int .i64 0, .int .i64 0, .int .i64 0, .int .i64 0, .int .i64 0, .int .i64 0, .string ⟨#[]⟩] [(0, 7, Value.agg (encIn.cells i).toArray)] = some (encIn.flat [i]) := by rfl
  simp -implicitDefEqProofs only [st0, newVal, reduceIte, load_whole (n := 7) hB rfl, ef]
  have hT := (TAp.fresh (E := encIn) (e := 37) m [i]).tsl
  have hu1 : Upd [] m (m.add ⟨.cells (encIn.flat [i]) 37, false, none⟩) := Upd.add _ _ _
  have hn1 : (m.add ⟨.cells (encIn.flat [i]) 37, false, none⟩).next = m.next + 1 := rfl
  generalize m.add ⟨.cells (encIn.flat [i]) 37, false, none⟩ = m1 at hT hu1 hn1
  refine W.bind (code_ok (L := [i]) (fun x hx => by simp at hx; subst hx; exact hi) (by simp) hT (fun b hb => by simp [blkOf] at hb; omega) (hg.upd0 hu1)) fun r m2 ⟨⟨s, hr⟩, hu2⟩ => ?_
  subst hr
  have e0 : runExtract 0 (.tuple #[str s, .int .i64 (codeErr [i])]) = some (str s) := rfl
  have e1 : runExtract 1 (.tuple #[str s, .int .i64 (codeErr [i])]) = some (.int .i64 (codeErr [i])) := rfl
  have hu12 := hu1.then0 hu2
  have hB2 := (hu12.same B hBl (by simp)).trans hB
  have hX2 := (hu12.same X hXl (by simp)).trans hX
  simp -implicitDefEqProofs only [st0, newVal, reduceIte, e0, e1, load_whole (n := 7) hB2 rfl]
  refine W.bindO (store_whole (n := 7) hX2 hc2 rfl rfl) ?_
  rw [cells_agg]
  refine W.bindO (load_whole (n := 7) (Mem.get_put_self _ _ _) rfl) (W_some.2 ⟨⟨i, _, rfl, ?_⟩, (hu12.nil'.put' _ (.inl (by simp)))⟩)
  unfold finP
  by_cases h : codeErr [i] = 0
  · rw [if_pos h]; simp [h]
  · rw [if_neg h]; simp [h]

theorem bad_end {i : In} {B X : Nat} {c2 : List Value} {m m0 : Mem} (hB : m.get B = some ⟨.cells (encIn.cells i) 37, false, none⟩) (hX : m.get X = some ⟨.cells c2 37, false, none⟩) (hc2 : c2.length = 7) (hu : Upd [B, X] m0 m) :
    W ((runLoadN 7 (.pointer (some ⟨B, 0, none⟩)) m).bind fun v18 => (runStore 7 (.pointer (some ⟨X, 0, none⟩)) v18 m).bind fun m19 => (runLoadN 7 (.pointer (some ⟨X, 0, none⟩)) m19).bind fun v20 => some (.tuple #[v20, (.bool false)], m19)) fun r m' => InstR none r ∧ Upd [B, X] m0 m' := by
  refine W.bindO (load_whole (n := 7) hB rfl) (W.bindO (store_whole (n := 7) hX hc2 rfl rfl) ?_)
  rw [cells_agg]
  exact W.bindO (load_whole (n := 7) (Mem.get_put_self _ _ _) rfl) (W_some.2 ⟨⟨i, false, rfl, rfl⟩, hu.put' _ (.inl (by simp))⟩)

theorem args_loop {xs : List (List UInt8)} {av pv : Value} {B X : Nat} (hn : xs.length ≤ 3) (has : ∀ s ∈ xs, s.length ≤ 2 ^ 39) (hBX : B ≠ X) (hB4 : 4 ≤ B) (hX4 : 4 ≤ X) {c2 : List Value} (hc2 : c2.length = 7) : ∀ (d k : Nat) (m : Mem) (i : In), k + d = xs.length → Globs m →
    (∀ m', Upd [B, X] m m' → TSl encS m' av xs) → (∀ m', Upd [B, X] m m' → TSl (encPt B) m' pv ([1, 2, 3].take xs.length)) → m.get B = some ⟨.cells (encIn.cells i) 37, false, none⟩ → m.get X = some ⟨.cells c2 37, false, none⟩ → B < m.next → X < m.next → i.Ok →
    W (P24_1 (.pointer (some ⟨X, 0, none⟩)) (.pointer (some ⟨B, 0, none⟩)) av pv (.int .i64 (xs.length : Int)) (.int .i64 (k : Int)) m) fun r m' => InstR ((argsGo i k (xs.drop k)).bind finP) r ∧ Upd [B, X] m m' := by
  intro d
  induction d with
  | zero =>
    intro k m i hd hg hA hP hB hX hBl hXl hi
    obtain rfl : k = xs.length := by omega
    rw [P24_1_eq]
    simp -implicitDefEqProofs only [st0, newVal, reduceIte, Int.lt_irrefl]
    simp only [List.drop_length, argsGo, Option.bind_some]
    exact inst_end hi hg hB hX hc2 hBl hXl
  | succ d ih =>
    intro k m i hd hg hA hP hB hX hBl hXl hi
    have hk : k < xs.length := by omega
    have hlt : (k : Int) < (xs.length : Int) := by omega
    obtain ⟨p, p1, p2⟩ := idx_s (hA m (Upd.refl _ _)) hk
    have hx : ([1, 2, 3].take xs.length)[k]? = some (k + 1) := by
      rw [List.getElem?_take, if_pos hk]
      match k, (show k < 3 by omega) with
      | 0, _ | 1, _ | 2, _ => rfl
    obtain ⟨q, q1, _, q2⟩ := (hP m (Upd.refl _ _)).index .i64 hx
    have q1 : runIndexS 1 pv (.int .i64 (k : Int)) = some q := q1
    have q2 : runLoad1 q m = some (.pointer (some ⟨B, 0 + (k + 1), none⟩)) := q2 _ rfl
    have hdrop : xs.drop k = xs[k] :: xs.drop (k + 1) := List.drop_eq_getElem_cons hk
    have hsl := has _ (List.getElem_mem hk)
    rw [hdrop]
    generalize xs[k] = s at p2 hsl
    rw [P24_1_eq]
    simp -implicitDefEqProofs only [st0, newVal, reduceIte, hlt, p1, p2, q1, q2]
    refine W.bind (number_ok hg (by omega)) fun r m1 ⟨hr, hu⟩ => ?_
    subst hr
    have f0 : runExtract 0 (.tuple #[.int .i64 (numP s).1, .bool (numP s).2]) = some (.int .i64 (numP s).1) := rfl
    have f1 : runExtract 1 (.tuple #[.int .i64 (numP s).1, .bool (numP s).2]) = some (.bool (numP s).2) := rfl
    have hB1 := (hu.same B hBl (by simp)).trans hB
    have hX1 := (hu.same X hXl (by simp)).trans hX
    cases hs2 : (numP s).2 with
    | false =>
      rw [hs2] at f0 f1
      have hnone : argsGo i k (s :: xs.drop (k + 1)) = none := by rw [argsGo, if_neg (by rw [hs2]; simp)]
      rw [hnone]
      simp -implicitDefEqProofs only [st0, newVal, reduceIte, f0, f1, hs2, Option.bind_none]
      exact bad_end hB1 hX1 hc2 hu.nil'
    | true =>
      rw [hs2] at f0 f1
      by_cases h0 : (numP s).1 < 0
      · have hnone : argsGo i k (s :: xs.drop (k + 1)) = none := by rw [argsGo, if_neg (fun h => by omega)]
        rw [hnone]
        simp -implicitDefEqProofs only [st0, newVal, reduceIte, f0, f1, hs2, h0, Option.bind_none]
        exact bad_end hB1 hX1 hc2 hu.nil'
      · by_cases h1 : 255 < (numP s).1
        · have hnone : argsGo i k (s :: xs.drop (k + 1)) = none := by rw [argsGo, if_neg (fun h => by omega)]
          rw [hnone]
          simp -implicitDefEqProofs only [st0, newVal, reduceIte, f0, f1, hs2, h0, h1, Option.bind_none]
          exact bad_end hB1 hX1 hc2 hu.nil'
        · have hsome : argsGo i k (s :: xs.drop (k + 1)) = argsGo (i.setA k (numP s).1) (k + 1) (xs.drop (k + 1)) := by rw [argsGo, if_pos ⟨hs2, by omega, by omega⟩]
          rw [hsome]
          simp -implicitDefEqProofs only [st0, newVal, reduceIte, f0, f1, hs2, h0, h1]
          refine W.bindO (a := .pointer (some ⟨B, 0 + (k + 1), none⟩)) rfl (W.bindO (store_at hB1 (show 0 + (k + 1) < (encIn.cells i).length from by show 0 + (k + 1) < 7; omega) rfl rfl) ?_)
          rw [setA_cells i k _ (by omega)]
          simp -implicitDefEqProofs only [st0, newVal, reduceIte, i64_succ (show k < 2 ^ 62 by omega)]
          have hu2 : Upd [B, X] m (m1.put B ⟨.cells (encIn.cells (i.setA k (numP s).1)) 37, false, none⟩) := hu.nil'.put' _ (.inl (by simp))
          have hnx := hu.next
          refine (ih (k + 1) _ (i.setA k (numP s).1) (by omega) (hg.upd hu2 (fun b hb => by simp at hb; omega)) (fun m' h' => hA m' (hu2.trans h')) (fun m' h' => hP m' (hu2.trans h')) (Mem.get_put_self ..) (by rw [Mem.get_put, if_neg (fun e => hBX e.symm)]; exact hX1) (by simp; omega) (by simp; omega) (setA_ok hi k (numP_i64 s))).mono fun r m' ⟨r1, r2⟩ => ⟨r1, hu2.trans r2⟩

theorem opn_le (op : Int) : ∃ n : Nat, (opn op).1 = (n : Int) ∧ n ≤ 3 := opn_nat op

/-- The tail of text.inst: are there xs many operands xs there must be? -/
theorem inst_tail {i : In} {xs : List (List UInt8)} {av : Value} {B X : Nat} {c2 : List Value} {m : Mem} {n : Nat} (ok : Bool) (hn : n ≤ 3) (has : ∀ s ∈ xs, s.length ≤ 2 ^ 39) (hBX : B ≠ X) (hB4 : 4 ≤ B) (hX4 : 4 ≤ X) (hc2 : c2.length = 7) (hg : Globs m) (hA : TSl encS m av xs) (hAb : ∀ b ∈ blkOf av, b < m.next ∧ b ≠ B ∧ b ≠ X) (hal : xs.length ≤ 2 ^ 40)
    (hB : m.get B = some ⟨.cells (encIn.cells i) 37, false, none⟩) (hX : m.get X = some ⟨.cells c2 37, false, none⟩) (hBl : B < m.next) (hXl : X < m.next) (hi : i.Ok) :
    W (P24_0 (.pointer (some ⟨X, 0, none⟩)) (.pointer (some ⟨B, 0, none⟩)) (.int .i64 (n : Int)) (.bool ok) av m) fun r m' => InstR (if ok = false ∨ xs.length ≠ n then none else (argsGo i 0 xs).bind finP) r ∧ Upd [B, X] m m' := by
  rw [P24_0_eq]
  cases ok with
  | false =>
    rw [if_pos (.inl rfl)]
    simp -implicitDefEqProofs only [st0, newVal, reduceIte]
    exact bad_end hB hX hc2 (Upd.refl _ _)
  | true =>
    by_cases h : xs.length = n
    · rw [if_neg (by simp [h])]
      have h' : (xs.length : Int) = (n : Int) := by omega
      have f : ∀ k, runFieldAddr k (.pointer (some ⟨B, 0, none⟩)) = some (.pointer (some ⟨B, 0 + k, none⟩)) := fun k => rfl
      have ef : afill [.pointer none, .pointer none, .pointer none] [(0, 1, .pointer (some ⟨B, 0 + 1, none⟩)), (1, 1, .pointer (some ⟨B, 0 + 2, none⟩)), (2, 1, .pointer (some ⟨B, 0 + 3, none⟩))] = some ((encPt B).flat [1, 2, 3]) := by rfl
      simp -implicitDefEqProofs only [st0, newVal, reduceIte, hA.len, h', f, ef]
      have hT := (TAp.fresh (E := encPt B) (e := 73) m [1, 2, 3]).tsl
      have hu1 : Upd [] m (m.add ⟨.cells ((encPt B).flat [1, 2, 3]) 73, false, none⟩) := Upd.add _ _ _
      have hn1 : (m.add ⟨.cells ((encPt B).flat [1, 2, 3]) 73, false, none⟩).next = m.next + 1 := rfl
      generalize m.add ⟨.cells ((encPt B).flat [1, 2, 3]) 73, false, none⟩ = m1 at hT hu1 hn1
      obtain ⟨pv, s1, s2, s3⟩ := hT.upto' (k := n) (by simpa using hn)
      have s1 : ∀ m', runSliceS 1 (.slice (some ⟨m.next, 0, none⟩) 3 3) none (some (.int .i64 (n : Int))) m' = some pv := s1
      have hl : ([1, 2, 3].take n : List Nat).length = n := by simp; omega
      simp -implicitDefEqProofs only [st0, newVal, reduceIte, s1, s2.len, hl]
      subst h
      refine (args_loop hn has hBX hB4 hX4 hc2 xs.length 0 m1 i (by omega) (hg.upd0 hu1) (fun m' h' => (hA.upd hu1 (fun b hb => ⟨(hAb b hb).1, by simp⟩)).upd h' (fun b hb => ?_)) (fun m' h' => s2.upd h' (fun b hb => ?_)) ((hu1.same B hBl (by simp)).trans hB) ((hu1.same X hXl (by simp)).trans hX) (by omega) (by omega) hi).mono fun r m' ⟨r1, r2⟩ => ⟨by rw [List.drop_zero] at r1; exact r1, hu1.nil'.trans r2⟩
      · have := hAb b hb; exact ⟨by omega, by simp; omega⟩
      · rw [s3] at hb; simp [blkOf] at hb; exact ⟨by omega, by simp; omega⟩
    · rw [if_pos (.inr h)]
      have h' : ¬ ((xs.length : Int) = (n : Int)) := by omega
      simp -implicitDefEqProofs only [st0, newVal, reduceIte, hA.len, h']
      exact bad_end hB hX hc2 (Upd.refl _ _)

theorem idx_at {m : Mem} {v : Value} {ws : List (List UInt8)} (h : TSl encS m v ws) {i : Nat} (hi : i < ws.length) : ∃ b off, runIndexS 1 v (.int .i64 (i : Int)) = some (.pointer (some ⟨b, off, none⟩)) ∧ ∀ m', TSl encS m' v ws → runLoad1 (.pointer (some ⟨b, off, none⟩)) m' = some (str ws[i]) := by
  obtain ⟨b, off, p1, p2⟩ := h.at .i64 (List.getElem?_eq_getElem hi)
  exact ⟨b, off, p1, fun m' h' => (p2 m' h').2 0 _ rfl⟩

/-- text.inst. -/
theorem inst_ok {ws : List (List UInt8)} {wv : Value} {m : Mem} (hne : ws ≠ []) (h : TAp encS 9 m wv ws) (hwn : ws.length ≤ 2 ^ 40) (hws : ∀ s ∈ ws, s.length ≤ 1048576) (hg : Globs m) : W (Call S1 tab 24 [wv] m) fun r m' => InstR (instP ws) r ∧ Upd [] m m' := by
  have hlow := hg.low
  have hwb := h.lt
  have hlen : 0 < ws.length := List.length_pos_iff.2 hne
  have hhead : ws.headD [] = ws[0] := by
    match ws, hlen with
    | w :: r, _ => rfl
  rw [C24]
  refine W_nw.2 ?_
  generalize hm1 : m.add ⟨.cells [.int .i64 0, .int .i64 0, .int .i64 0, .int .i64 0, .int .i64 0, .int .i64 0, .string ⟨#[]⟩] 37, false, none⟩ = m1
  have hu1 : Upd [] m m1 := hm1 ▸ Upd.add _ _ _
  have hn1 : m1.next = m.next + 1 := by rw [← hm1]; rfl
  have hX1 : m1.get m.next = some ⟨.cells [.int .i64 0, .int .i64 0, .int .i64 0, .int .i64 0, .int .i64 0, .int .i64 0, .string ⟨#[]⟩] 37, false, none⟩ := by rw [← hm1]; exact Mem.get_add_self ..
  have hu2 : Upd [] m (m1.bump 8) := hu1.then0 (Upd.bump _ _ _)
  have hT2 := (TAp.fresh (E := encS) (e := 9) (m1.bump 8) opNames).tsl
  have hu3 : Upd [] m ((m1.bump 8).add ⟨.cells (encS.flat opNames) 9, false, none⟩) := hu2.then0 (Upd.add _ _ _)
  have hn3 : ((m1.bump 8).add ⟨.cells (encS.flat opNames) 9, false, none⟩).next = m.next + 10 := by simp [hn1]
  have hX3 : ((m1.bump 8).add ⟨.cells (encS.flat opNames) 9, false, none⟩).get m.next = some ⟨.cells [.int .i64 0, .int .i64 0, .int .i64 0, .int .i64 0, .int .i64 0, .int .i64 0, .string ⟨#[]⟩] 37, false, none⟩ := by
    rw [Mem.get_add_other _ _ (by simp; omega), Mem.get_bump]; exact hX1
  have h3 := (h.upd0 hu3).tsl
  obtain ⟨b0, off0, p1, p2⟩ := idx_at h.tsl hlen
  have p1 : runIndexS 1 wv (.int .i64 0) = some (.pointer (some ⟨b0, off0, none⟩)) := p1
  rw [names_ok]
  generalize hm3 : ((m1.bump 8).add ⟨.cells (encS.flat opNames) 9, false, none⟩) = m3 at hT2 hu3 hn3 hX3 h3
  have hix := index_ok (x := ws[0]) hT2 (by decide)
  have hix : Call S1 tab 42 [.slice (some ⟨(m1.bump 8).next, 0, none⟩) 20 20, str ws[0]] m3 = some (.int .i64 (idxP ws[0]), m3) := hix
  have hfill : afill [.int .i64 0, .int .i64 0, .int .i64 0, .int .i64 0, .int .i64 0, .int .i64 0, .string ⟨#[]⟩] [(0, 1, .int .i64 (idxP ws[0]))] = some (encIn.cells ⟨idxP ws[0], 0, 0, 0, 0, 0, []⟩) := by rfl
  unfold instP
  rw [hhead]
  have hop := idxP_i64 ws[0]
  generalize idxP ws[0] = op at hix hfill hop
  simp -implicitDefEqProofs only [st0, newVal, reduceIte, p1, p2 m3 h3, hix, hfill]
  generalize hB : m1.next + 6 = B
  have hBv : B = m.next + 7 := by omega
  refine W.bindO (store_whole (n := 7) (Mem.get_put_self _ _ _) rfl rfl rfl) ?_
  rw [cells_agg]
  refine chk1 (fun M hM => ?_) (by simp) ?_
  · simp only [List.mem_cons, List.not_mem_nil, or_false] at hM
    have h2 := (h.upd0 hu2).tsl
    have k : ∀ x, Upd [] m (m3.put B x) := fun x => hu3.put' _ (.inr (by omega))
    have h4 : ∀ x, TSl encS (m3.put B x) wv ws := fun x => (h.upd0 (k x)).tsl
    have k5 : ∀ x y, Upd [] m ((m3.put B x).put B y) := fun x y => (k x).put' _ (.inr (by omega))
    rcases hM with rfl | rfl | rfl | rfl | rfl
    · exact p2 _ h2
    · exact p2 _ h3
    · exact p2 _ h3
    · exact p2 _ (h4 _)
    · exact p2 _ ((h.upd0 (k5 _ _)).tsl)
  · generalize hm5 : Mem.put _ B ⟨.cells (encIn.cells ⟨op, 0, 0, 0, 0, 0, []⟩) 37, false, none⟩ = m5
    have hu5 : Upd [] m m5 := by rw [← hm5]; exact (hu3.put' _ (.inr (by omega))).put' _ (.inr (by omega))
    have hn5 : m5.next = m.next + 10 := by rw [← hm5]; simp [hn3]
    have hB5 : m5.get B = some ⟨.cells (encIn.cells ⟨op, 0, 0, 0, 0, 0, []⟩) 37, false, none⟩ := by rw [← hm5]; exact Mem.get_put_self ..
    have hX5 : m5.get m.next = some ⟨.cells [.int .i64 0, .int .i64 0, .int .i64 0, .int .i64 0, .int .i64 0, .int .i64 0, .string ⟨#[]⟩] 37, false, none⟩ := by
      rw [← hm5, Mem.get_put, if_neg (by omega), Mem.get_put, if_neg (by omega)]; exact hX3
    have f : ∀ k, runFieldAddr k (.pointer (some ⟨B, 0, none⟩)) = some (.pointer (some ⟨B, 0 + k, none⟩)) := fun k => rfl
    simp -implicitDefEqProofs only [st0, newVal, reduceIte, f, load_at hB5 (show (encIn.cells ⟨op, 0, 0, 0, 0, 0, []⟩)[0 + 0]? = some (.int .i64 op) from rfl)]
    refine W.bind (Operands_ok hop m5) fun w m6 ⟨hw, hu6⟩ => ?_
    subst hw
    have hu56 := hu5.then0 hu6
    have hn6 := hu6.next
    have h6 := h.upd0 hu56
    have hB6 := (hu6.same B (by omega) (by simp)).trans hB5
    have hX6 := (hu6.same m.next (by omega) (by simp)).trans hX5
    have hg6 := hg.upd0 hu56
    obtain ⟨n, hn, hn3'⟩ := opn_nat op
    have e0 : runExtract 0 (.tuple #[.int .i64 (opn op).1, .bool (opn op).2]) = some (.int .i64 (opn op).1) := rfl
    have e1 : runExtract 1 (.tuple #[.int .i64 (opn op).1, .bool (opn op).2]) = some (.bool (opn op).2) := rfl
    have hntn : (opn op).1.toNat = n := by rw [hn]; simp
    rw [hntn]
    obtain ⟨av, t1, t2, t3⟩ := h6.from (k := 1) (by omega)
    have t1 : runSliceS 1 wv (some (.int .i64 1)) none m6 = some av := t1 m6 (fun _ _ => rfl)
    have htl : ws.drop 1 = ws.tail := List.drop_one
    rw [htl] at t2
    have htln : ws.tail.length ≤ 2 ^ 40 := by simp; omega
    have hts : ∀ s ∈ ws.tail, s.length ≤ 1048576 := fun s hs => hws s (List.mem_of_mem_tail hs)
    have hAb : ∀ b ∈ blkOf av, b < m.next := fun b hb => hwb b (t3 ▸ hb)
    have hz : In.Ok ⟨op, 0, 0, 0, 0, 0, []⟩ := ⟨hop, z0, z0, z0, z0, z0, by simp⟩
    rw [hn] at e0 e1 ⊢
    cases hok : (opn op).2 with
    | false =>
      rw [hok] at e0 e1
      rw [if_pos rfl]
      simp -implicitDefEqProofs only [st0, newVal, reduceIte, e0, e1, t1]
      refine (inst_tail (i := ⟨op, 0, 0, 0, 0, 0, []⟩) false hn3' (fun s hs => Nat.le_trans (hts s hs) (by decide)) (show B ≠ m.next by omega) (by omega) (by omega) rfl hg6 t2 (fun b hb => by have := hAb b hb; exact ⟨by omega, by omega, by omega⟩) htln hB6 hX6 (by omega) (by omega) hz).mono fun r m' ⟨r1, r2⟩ => ⟨by simpa using r1, hu56.then' r2 (fun b hb => by simp at hb; exact .inr (by omega))⟩
    | true =>
      rw [hok] at e0 e1
      rw [if_neg (by simp)]
      by_cases hc : op = 1
      · rw [if_pos hc]
        have hc' := eq_true hc
        have en : arith .add (.int .i64 (n : Int)) (.int .i64 1) = some (.int .i64 ((n + 1 : Nat) : Int)) := i64_succ (by omega)
        by_cases hl : ws.tail.length = n + 1
        · rw [if_neg (by simp [hl])]
          have hl' : (ws.tail.length : Int) = ((n + 1 : Nat) : Int) := by omega
          obtain ⟨q, q1, q2⟩ := idx_s t2 (i := n) (by omega)
          have hget : ws.tail[n]?.getD [] = ws.tail[n]'(by omega) := by rw [List.getElem?_eq_getElem (by omega)]; rfl
          have hsl := hts _ (List.getElem_mem (show n < ws.tail.length by omega))
          rw [hget]
          generalize ws.tail[n]'(by omega) = s at q2 hsl
          simp -implicitDefEqProofs only [st0, newVal, reduceIte, e0, e1, t1, f, load_at hB6 (show (encIn.cells ⟨op, 0, 0, 0, 0, 0, []⟩)[0 + 0]? = some (.int .i64 op) from rfl), hc', t2.len, en, hl', q1, q2]
          refine W.bind (value_ok hg6 (Nat.le_trans hsl (by decide))) fun r m7 ⟨hr, hu7⟩ => ?_
          subst hr
          have v0 : runExtract 0 (.tuple #[.agg (encVa.cells (valueP s).1).toArray, .bool (valueP s).2]) = some (.agg (encVa.cells (valueP s).1).toArray) := rfl
          have v1 : runExtract 1 (.tuple #[.agg (encVa.cells (valueP s).1).toArray, .bool (valueP s).2]) = some (.bool (valueP s).2) := rfl
          have hB7 := (hu7.same B (by omega) (by simp)).trans hB6
          have hX7 := (hu7.same m.next (by omega) (by simp)).trans hX6
          obtain ⟨hvk, hvn, hvs⟩ := valueP_ok s
          simp -implicitDefEqProofs only [st0, newVal, reduceIte, v0, v1]
          have hst : runStore 3 (.pointer (some ⟨B, 0 + 4, none⟩)) (.agg (encVa.cells (valueP s).1).toArray) m7 = some (m7.put B ⟨.cells (encIn.cells ⟨op, 0, 0, 0, (valueP s).1.k, (valueP s).1.n, (valueP s).1.s⟩) 37, false, none⟩) := by
            have how : m7.ownAt B = some (encIn.cells ⟨op, 0, 0, 0, 0, 0, []⟩, 37, none) := by simp [Mem.ownAt, hB7]
            simp only [runStore, asPtr, Option.bind_some, how]
            rw [if_pos ⟨by rfl, by show 0 + 4 + 3 ≤ 7; omega, by rfl⟩]
            rfl
          refine W.bindO hst ?_
          have hu8 : Upd [] m (m7.put B ⟨.cells (encIn.cells ⟨op, 0, 0, 0, (valueP s).1.k, (valueP s).1.n, (valueP s).1.s⟩) 37, false, none⟩) := (hu56.then0 hu7).put' _ (.inr (by omega))
          have hB8 := Mem.get_put_self m7 B ⟨.cells (encIn.cells ⟨op, 0, 0, 0, (valueP s).1.k, (valueP s).1.n, (valueP s).1.s⟩) 37, false, none⟩
          have hX8 : (m7.put B ⟨.cells (encIn.cells ⟨op, 0, 0, 0, (valueP s).1.k, (valueP s).1.n, (valueP s).1.s⟩) 37, false, none⟩).get m.next = some ⟨.cells [.int .i64 0, .int .i64 0, .int .i64 0, .int .i64 0, .int .i64 0, .int .i64 0, .string ⟨#[]⟩] 37, false, none⟩ := by rw [Mem.get_put, if_neg (by omega)]; exact hX7
          have hn8 : (m7.put B ⟨.cells (encIn.cells ⟨op, 0, 0, 0, (valueP s).1.k, (valueP s).1.n, (valueP s).1.s⟩) 37, false, none⟩).next = m7.next := rfl
          have hn7 := hu7.next
          have hA8 : TSl encS (m7.put B ⟨.cells (encIn.cells ⟨op, 0, 0, 0, (valueP s).1.k, (valueP s).1.n, (valueP s).1.s⟩) 37, false, none⟩) av ws.tail :=
            (t2.upd hu7 (fun b hb => ⟨by have := hAb b hb; omega, by simp⟩)).upd (Upd.put (fp := [B]) _ _ (by simp)) (fun b hb => by have := hAb b hb; exact ⟨by omega, by simp; omega⟩)
          generalize (m7.put B ⟨.cells (encIn.cells ⟨op, 0, 0, 0, (valueP s).1.k, (valueP s).1.n, (valueP s).1.s⟩) 37, false, none⟩) = m8 at hu8 hB8 hX8 hn8 hA8
          obtain ⟨av', z1, z2, z3⟩ := hA8.upto' (k := n) (by omega)
          have z1 : runSliceS 1 av none (some (.int .i64 (n : Int))) m8 = some av' := z1 m8
          have htk : (ws.tail.take n).length = n := by rw [List.length_take]; omega
          simp -implicitDefEqProofs only [st0, newVal, reduceIte, z1]
          refine (inst_tail (i := ⟨op, 0, 0, 0, (valueP s).1.k, (valueP s).1.n, (valueP s).1.s⟩) (valueP s).2 hn3' (fun s hs => Nat.le_trans (hts s (List.mem_of_mem_take hs)) (by decide)) (show B ≠ m.next by omega) (by omega) (by omega) rfl (hg.upd0 hu8) z2 (fun b hb => by have := hAb b (z3 ▸ hb); exact ⟨by omega, by omega, by omega⟩) (by omega) hB8 hX8 (by omega) (by omega) ⟨hop, z0, z0, z0, hvk, hvn, Nat.le_trans (Nat.le_trans hvs hsl) (by decide)⟩).mono fun r m' ⟨r1, r2⟩ => ⟨?_, hu8.then' r2 (fun b hb => by simp at hb; exact .inr (by omega))⟩
          cases hv2 : (valueP s).2 with
          | false => rw [hv2] at r1; simpa using r1
          | true => rw [hv2] at r1; simpa [htk] using r1
        · rw [if_pos hl]
          have hl' : ¬ ((ws.tail.length : Int) = ((n + 1 : Nat) : Int)) := by omega
          simp -implicitDefEqProofs only [st0, newVal, reduceIte, e0, e1, t1, f, load_at hB6 (show (encIn.cells ⟨op, 0, 0, 0, 0, 0, []⟩)[0 + 0]? = some (.int .i64 op) from rfl), hc', t2.len, en, hl']
          exact (bad_end hB6 hX6 rfl (Upd.refl [B, m.next] m6)).mono fun r m' ⟨r1, r2⟩ => ⟨r1, hu56.then' r2 (fun b hb => by simp at hb; exact .inr (by omega))⟩
      · rw [if_neg hc]
        simp -implicitDefEqProofs only [st0, newVal, reduceIte, e0, e1, t1, f, load_at hB6 (show (encIn.cells ⟨op, 0, 0, 0, 0, 0, []⟩)[0 + 0]? = some (.int .i64 op) from rfl), hc]
        refine (inst_tail (i := ⟨op, 0, 0, 0, 0, 0, []⟩) true hn3' (fun s hs => Nat.le_trans (hts s hs) (by decide)) (show B ≠ m.next by omega) (by omega) (by omega) rfl hg6 t2 (fun b hb => by have := hAb b hb; exact ⟨by omega, by omega, by omega⟩) htln hB6 hX6 (by omega) (by omega) hz).mono fun r m' ⟨r1, r2⟩ => ⟨by simpa using r1, hu56.then' r2 (fun b hb => by simp at hb; exact .inr (by omega))⟩
end Go.Fx.Tryz
