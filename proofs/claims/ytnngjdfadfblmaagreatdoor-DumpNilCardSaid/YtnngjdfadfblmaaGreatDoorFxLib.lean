/- Words for proofs over the abstract machine: slices that are read, slices that are grown, what a piece of work leaves as it was. -/
import Derived.Test.YtnngjdfadfblmaaGreatDoorFxDen
namespace Go.Fx
open Go
set_option linter.unusedSimpArgs false
set_option linter.unusedVariables false

/-- What stands below the next block's number, but for some blocks, is as it was. -/
structure Upd (fp : List Nat) (m m' : Mem) : Prop where
  next : m.next ≤ m'.next
  same : ∀ b, b < m.next → b ∉ fp → m'.get b = m.get b

theorem Upd.refl (fp : List Nat) (m : Mem) : Upd fp m m := ⟨Nat.le_refl _, fun _ _ _ => rfl⟩
theorem Upd.trans {fp : List Nat} {m m' m'' : Mem} (h : Upd fp m m') (h' : Upd fp m' m'') : Upd fp m m'' :=
  ⟨Nat.le_trans h.next h'.next, fun b hb hn => (h'.same b (Nat.lt_of_lt_of_le hb h.next) hn).trans (h.same b hb hn)⟩
theorem Upd.mono {fp gp : List Nat} {m m' : Mem} (h : Upd fp m m') (hs : ∀ b, b ∈ fp → b < m.next → b ∈ gp) : Upd gp m m' :=
  ⟨h.next, fun b hb hn => h.same b hb (fun hf => hn (hs b hf hb))⟩
/-- Work on blocks some of which are new. -/
theorem Upd.trans_new {fp gp : List Nat} {m m' m'' : Mem} (h : Upd fp m m') (h' : Upd gp m' m'') (hs : ∀ b ∈ gp, b ∈ fp ∨ m.next ≤ b) : Upd fp m m'' :=
  ⟨Nat.le_trans h.next h'.next, fun b hb hn => (h'.same b (Nat.lt_of_lt_of_le hb h.next) (fun hg => (hs b hg).elim hn (fun hge => by omega))).trans (h.same b hb hn)⟩
theorem Upd.add (fp : List Nat) (m : Mem) (x : ABlk) : Upd fp m (m.add x) :=
  ⟨by simp, fun b hb _ => by rw [Mem.get_add, if_neg (by omega)]⟩
theorem Upd.put {fp : List Nat} (m : Mem) {b : Nat} (x : ABlk) (h : b ∈ fp) : Upd fp m (m.put b x) :=
  ⟨Nat.le_refl _, fun c _ hn => by rw [Mem.get_put, if_neg (by rintro rfl; exact hn h)]⟩
theorem Upd.kill {fp : List Nat} (m : Mem) {b : Nat} (h : b ∈ fp) : Upd fp m (m.kill b) :=
  ⟨Nat.le_refl _, fun c _ hn => by rw [Mem.get_kill, if_neg (by rintro rfl; exact hn h)]⟩

theorem cellsAt_of_get {m : Mem} {b : Nat} {c : List Value} {e : TypeId} {ro : Bool} {lo : Option Nat} (h : m.get b = some ⟨.cells c e, ro, lo⟩) : m.cellsAt b = some c := by simp [Mem.cellsAt, h]
theorem cellsAt_congr {m m' : Mem} {b : Nat} (h : m'.get b = m.get b) : m'.cellsAt b = m.cellsAt b := by simp [Mem.cellsAt, h]

/-- The block of a slice. -/
def blkOf : Value → List Nat
  | .slice (some a) _ _ => [a.block]
  | _ => []

/-- A slice of n elements that read as cells. -/
def Sl (size : Nat) (m : Mem) (v : Value) (n : Nat) (cells : List Value) : Prop :=
  cells.length = n * size ∧ ((v = .slice none 0 0 ∧ n = 0) ∨ ∃ b off cap, v = .slice (some ⟨b, off, none⟩) n cap ∧ n ≤ cap ∧
    (n = 0 ∨ ∃ c, m.cellsAt b = some c ∧ off + n * size ≤ c.length ∧ cells = (c.drop off).take (n * size)))

theorem Sl.mono {size : Nat} {m m' : Mem} {v : Value} {n : Nat} {cells : List Value} (h : Sl size m v n cells) (hk : ∀ b ∈ blkOf v, m'.get b = m.get b) : Sl size m' v n cells := by
  obtain ⟨h1, h2⟩ := h
  refine ⟨h1, h2.imp id ?_⟩
  rintro ⟨b, off, cap, rfl, hc, h3⟩
  refine ⟨b, off, cap, rfl, hc, h3.imp id ?_⟩
  rintro ⟨c, h4, h5⟩
  exact ⟨c, by rw [cellsAt_congr (hk b (by simp [blkOf]))]; exact h4, h5⟩

theorem Sl.len {size : Nat} {m : Mem} {v : Value} {n : Nat} {cells : List Value} (h : Sl size m v n cells) : runLenSlice v = some (.int .i64 n) := by
  obtain ⟨h1, ⟨rfl, rfl⟩ | ⟨b, off, cap, rfl, _⟩⟩ := h <;> rfl

theorem Sl.src {size : Nat} {m : Mem} {v : Value} {n : Nat} {cells : List Value} (h : Sl size m v n cells) : runSrc size v m = some (n, cells) := by
  obtain ⟨h1, ⟨rfl, rfl⟩ | ⟨b, off, cap, rfl, hc, h3⟩⟩ := h
  · have : cells = [] := by simpa using h1
    subst this; rfl
  · by_cases h0 : n = 0
    · subst h0
      have : cells = [] := by simpa using h1
      subst this; simp [runSrc]
    · rcases h3 with h3 | ⟨c, h4, h5, h6⟩
      · exact absurd h3 h0
      · simp [runSrc, h0, h4, h5, h6]

theorem Sl.index {size : Nat} {m : Mem} {v : Value} {n : Nat} {cells : List Value} (h : Sl size m v n cells) (k : IntKind) (i : Nat) (hi : i < n) :
    ∃ p, runIndexS size v (.int k i) = some p ∧ runLoadN size p m = some (.agg ((cells.drop (i * size)).take size).toArray) ∧ (size = 1 → runLoad1 p m = cells[i]?) := by
  obtain ⟨h1, ⟨rfl, rfl⟩ | ⟨b, off, cap, rfl, hc, h3⟩⟩ := h
  · omega
  · rcases h3 with h3 | ⟨c, h4, h5, h6⟩
    · omega
    · have hmul : (i + 1) * size ≤ n * size := Nat.mul_le_mul_right _ hi
      rw [Nat.add_mul, Nat.one_mul] at hmul
      refine ⟨.pointer (some ⟨b, off + i * size, none⟩), ?_, ?_, ?_⟩
      · have : (0 : Int) ≤ (i : Int) ∧ (i : Int) < (n : Int) := by omega
        simp [runIndexS, this]
      · have hle : off + i * size + size ≤ c.length := by omega
        simp only [runLoadN, asPtr, Option.bind_some, h4, if_pos hle]
        congr 2
        rw [h6, List.drop_take, List.take_take, List.drop_drop]
        congr 1
        congr 1
        omega
      · intro hs
        subst hs
        simp only [runLoad1, asPtr, Option.bind_some, h4, h6]
        rw [List.getElem?_take_of_lt (by omega), List.getElem?_drop]
        simp

/-- A slice of one's own that is grown by appends. -/
def Own (size : Nat) (e : TypeId) (m : Mem) (v : Value) (n : Nat) (cells : List Value) : Prop :=
  cells.length = n * size ∧ ((v = .slice none 0 0 ∧ n = 0) ∨ ∃ b, v = .slice (some ⟨b, 0, none⟩) n n ∧ b < m.next ∧ m.get b = some ⟨.cells cells e, false, some size⟩)

theorem Own.nil (size : Nat) (e : TypeId) (m : Mem) : Own size e m (.slice none 0 0) 0 [] := ⟨by simp, .inl ⟨rfl, rfl⟩⟩

theorem Own.sl {size : Nat} {e : TypeId} {m : Mem} {v : Value} {n : Nat} {cells : List Value} (h : Own size e m v n cells) : Sl size m v n cells := by
  obtain ⟨h1, ⟨rfl, rfl⟩ | ⟨b, rfl, hb, hg⟩⟩ := h
  · exact ⟨h1, .inl ⟨rfl, rfl⟩⟩
  · refine ⟨h1, .inr ⟨b, 0, n, rfl, Nat.le_refl _, .inr ⟨cells, cellsAt_of_get hg, by omega, ?_⟩⟩⟩
    rw [List.drop_zero, ← h1, List.take_length]

theorem Own.mono {size : Nat} {e : TypeId} {m m' : Mem} {v : Value} {n : Nat} {cells : List Value} (h : Own size e m v n cells) (hn : m.next ≤ m'.next) (hk : ∀ b ∈ blkOf v, m'.get b = m.get b) : Own size e m' v n cells := by
  obtain ⟨h1, h2⟩ := h
  refine ⟨h1, h2.imp id ?_⟩
  rintro ⟨b, rfl, hb, hg⟩
  exact ⟨b, rfl, by omega, by rw [hk b (by simp [blkOf])]; exact hg⟩

theorem Own.lt {size : Nat} {e : TypeId} {m : Mem} {v : Value} {n : Nat} {cells : List Value} (h : Own size e m v n cells) : ∀ b ∈ blkOf v, b < m.next := by
  intro b hb
  obtain ⟨h1, ⟨rfl, rfl⟩ | ⟨c, rfl, hc, hg⟩⟩ := h
  · simp [blkOf] at hb
  · simp [blkOf] at hb; subst hb; exact hc

theorem Own.append {size eb : Nat} {e : TypeId} {m : Mem} {v : Value} {n k : Nat} {cells nc : List Value} (h : Own size e m v n cells) (hk : k ≠ 0) (hl : nc.length = k * size) (h1 : nc.all (·.oneCell') = true) (hb : (n + k) * eb ≤ 2 ^ 47) (hn : n + k ≤ 2 ^ 47) :
    ∃ v' m', runAppend e size eb v k nc m = some (v', m') ∧ Own size e m' v' (n + k) (cells ++ nc) ∧ Upd (blkOf v) m m' ∧ m'.next = m.next + 1 ∧ blkOf v' = [m.next] := by
  obtain ⟨hc, ⟨rfl, rfl⟩ | ⟨b, rfl, hlt, hg⟩⟩ := h
  · have hnil : cells = [] := by simpa using hc
    subst hnil
    refine ⟨.slice (some ⟨m.next, 0, none⟩) k k, m.add ⟨.cells nc e, false, some size⟩, ?_, ⟨by simp [hl], .inr ⟨m.next, by simp, by simp, by rw [Mem.get_add, if_pos rfl]; rfl⟩⟩, Upd.add _ _ _, rfl, rfl⟩
    have hc0 : ¬ ¬ ((0 + k) * eb ≤ 2 ^ 47 ∧ (0 + k) ≤ 2 ^ 47 ∧ nc.length = k * size ∧ nc.all (·.oneCell') = true) := by simp only [Decidable.not_not]; exact ⟨hb, hn, hl, h1⟩
    have hk' : ¬ (0 + k ≤ 0) := by omega
    simp only [runAppend, if_neg hc0, if_neg hk', and_self, if_true]
  · refine ⟨.slice (some ⟨m.next, 0, none⟩) (n + k) (n + k), (m.kill b).add ⟨.cells (cells ++ nc) e, false, some size⟩, ?_, ⟨by rw [List.length_append, hc, hl, Nat.add_mul], .inr ⟨m.next, rfl, by simp, by rw [Mem.get_add, Mem.next_kill, if_pos rfl]⟩⟩, ?_, rfl, rfl⟩
    · have hc0 : ¬ ¬ ((n + k) * eb ≤ 2 ^ 47 ∧ (n + k) ≤ 2 ^ 47 ∧ nc.length = k * size ∧ nc.all (·.oneCell') = true) := by simp only [Decidable.not_not]; exact ⟨hb, hn, hl, h1⟩
      have hk' : ¬ (n + k ≤ n) := by omega
      have hle : 0 + n * size ≤ cells.length := by omega
      simp only [runAppend, if_neg hc0, if_neg hk', hg, hle, and_self, Nat.le_refl, if_true]
      have : (cells.drop 0).take (n * size) = cells := by rw [List.drop_zero, ← hc, List.take_length]
      rw [this]
    · exact (Upd.kill (fp := blkOf (.slice (some ⟨b, 0, none⟩) n n)) m (by simp [blkOf])).trans (Upd.add _ _ _)

/- variables -/
theorem cells_agg (l : List Value) : (Value.agg l.toArray).cells.toList = l := by simp [Value.cells]
theorem cells_int (k : IntKind) (n : Int) : (Value.int k n).cells.toList = [.int k n] := by simp [Value.cells]
theorem cells_bool (b : Bool) : (Value.bool b).cells.toList = [.bool b] := by simp [Value.cells]
theorem cells_str (s : ByteArray) : (Value.string s).cells.toList = [.string s] := by simp [Value.cells]
theorem cells_ptr (a : Option Addr) : (Value.pointer a).cells.toList = [.pointer a] := by simp [Value.cells]
theorem cells_slice (a : Option Addr) (n c : Nat) : (Value.slice a n c).cells.toList = [.slice a n c] := by simp [Value.cells]
theorem cells_map (a : Option Nat) : (Value.map a).cells.toList = [.map a] := by simp [Value.cells]

theorem setRange_all : ∀ (vs c : List Value), c.length = vs.length → setRange c 0 vs = vs := by
  intro vs c h
  apply List.ext_getElem?
  intro j
  rw [getElem?_setRange vs c 0 j (by omega)]
  by_cases hj : j < vs.length
  · rw [if_pos (by omega)]; simp
  · rw [if_neg (by omega), List.getElem?_eq_none (by omega), List.getElem?_eq_none (by omega)]

theorem store_whole {m : Mem} {b : Nat} {c : List Value} {e : TypeId} {lo : Option Nat} {v : Value} {n : Nat} (hb : m.get b = some ⟨.cells c e, false, lo⟩) (hc : c.length = n) (hv : v.cells.size = n) (h1 : v.cells.toList.all (·.oneCell') = true) :
    runStore n (.pointer (some ⟨b, 0, none⟩)) v m = some (m.put b ⟨.cells v.cells.toList e, false, lo⟩) := by
  have : m.ownAt b = some (c, e, lo) := by simp [Mem.ownAt, hb]
  simp only [runStore, asPtr, Option.bind_some, this]
  rw [if_pos ⟨hv, by omega, h1⟩, setRange_all _ _ (by simp [hc, hv])]

theorem load_whole {m : Mem} {b : Nat} {c : List Value} {e : TypeId} {ro : Bool} {lo : Option Nat} {n : Nat} (hb : m.get b = some ⟨.cells c e, ro, lo⟩) (hc : c.length = n) : runLoadN n (.pointer (some ⟨b, 0, none⟩)) m = some (.agg c.toArray) := by
  simp only [runLoadN, asPtr, Option.bind_some, cellsAt_of_get hb]
  rw [if_pos (by omega), List.drop_zero, ← hc, List.take_length]

theorem load_at {m : Mem} {b : Nat} {c : List Value} {e : TypeId} {ro : Bool} {lo : Option Nat} {o : Nat} {v : Value} (hb : m.get b = some ⟨.cells c e, ro, lo⟩) (hv : c[o]? = some v) : runLoad1 (.pointer (some ⟨b, o, none⟩)) m = some v := by
  simp only [runLoad1, asPtr, Option.bind_some, cellsAt_of_get hb, hv]

theorem store_at {m : Mem} {b : Nat} {c : List Value} {e : TypeId} {lo : Option Nat} {o : Nat} {v : Value} (hb : m.get b = some ⟨.cells c e, false, lo⟩) (ho : o < c.length) (hv : v.cells = #[v]) (h1 : v.oneCell' = true) :
    runStore 1 (.pointer (some ⟨b, o, none⟩)) v m = some (m.put b ⟨.cells (c.set o v) e, false, lo⟩) := by
  have : m.ownAt b = some (c, e, lo) := by simp [Mem.ownAt, hb]
  simp only [runStore, asPtr, Option.bind_some, this, hv]
  rw [if_pos ⟨rfl, by omega, by simp [h1]⟩]
  simp [setRange_cons, setRange_nil]

theorem Mem.get_add_self (m : Mem) (x : ABlk) : (m.add x).get m.next = some x := by rw [Mem.get_add, if_pos rfl]
theorem Mem.get_add_other (m : Mem) (x : ABlk) {b : Nat} (h : b < m.next) : (m.add x).get b = m.get b := by rw [Mem.get_add, if_neg (by omega)]
theorem Mem.get_put_self (m : Mem) (b : Nat) (x : ABlk) : (m.put b x).get b = some x := by rw [Mem.get_put, if_pos rfl]
theorem Mem.get_put_other (m : Mem) {b c : Nat} (x : ABlk) (h : c ≠ b) : (m.put b x).get c = m.get c := by rw [Mem.get_put, if_neg h]

/-- A new variable of several cells that is filled at once. -/
theorem box_store (m : Mem) (e : TypeId) {c vs : List Value} {n : Nat} (hz : c.length = n) (hv : vs.length = n) (h1 : vs.all (·.oneCell') = true) :
    runStore n (.pointer (some ⟨m.next, 0, none⟩)) (.agg vs.toArray) (m.add ⟨.cells c e, false, none⟩) = some ((m.add ⟨.cells c e, false, none⟩).put m.next ⟨.cells vs e, false, none⟩) := by
  have := store_whole (m := m.add ⟨.cells c e, false, none⟩) (v := .agg vs.toArray) (n := n) (m.get_add_self _) hz (by simpa [Value.cells] using hv) (by simpa [Value.cells] using h1)
  simpa [Value.cells] using this

theorem afill_one {c : List Value} {v : Value} {n : Nat} (hc : c.length = n) (hv : v.cells.size = n) : afill c [(0, n, v)] = some v.cells.toList := by
  have : ¬ (v.cells.size ≠ n ∨ 0 + n > c.length) := by omega
  simp only [afill, if_neg this]
  rw [setRange_all _ _ (by simp [hc, hv])]

theorem drop_take_all {p : Value → Bool} {l : List Value} (h : l.all p = true) (a b : Nat) : ((l.drop a).take b).all p = true := by
  rw [List.all_eq_true] at h ⊢
  exact fun v hv => h v (List.mem_of_mem_drop (List.mem_of_mem_take hv))

theorem piece_len {l : List Value} {n s i : Nat} (h : l.length = n * s) (hi : i < n) : ((l.drop (i * s)).take s).length = s := by
  have : (i + 1) * s ≤ n * s := Nat.mul_le_mul_right _ hi
  rw [Nat.add_mul, Nat.one_mul] at this
  simp only [List.length_take, List.length_drop, h]; omega

/- what came in -/
theorem pieces_all {p : Value → Bool} {s : Nat} (hs : 0 < s) : ∀ (k : Nat) (l : List Value), l.length = k * s → (∀ i, i < k → ((l.drop (i * s)).take s).all p = true) → l.all p = true
  | 0, l, h, _ => by simp at h; simp [h]
  | k + 1, l, h, hall => by
    rw [← List.take_append_drop s l, List.all_append, Bool.and_eq_true]
    refine ⟨by simpa using hall 0 (by omega), pieces_all hs k (l.drop s) (by rw [List.length_drop, h, Nat.add_mul]; omega) (fun i hi => ?_)⟩
    have := hall (i + 1) (by omega)
    rw [List.drop_drop]
    rw [show s + i * s = (i + 1) * s by rw [Nat.add_mul]; omega]
    exact this

theorem WT.one {P : Program} {B : Nat} {m : Mem} : ∀ {n : Nat} {t : TypeId} {cs : List Value}, okT P n t = true → WTB P B m n t cs → cs.all (·.oneCell') = true
  | 0, _, _, h, _ => by simp [okT] at h
  | n + 1, t, cs, hok, h => by
    unfold okT at hok
    unfold WTB at h
    cases hd : P.underlying t with
    | none => rw [hd] at hok; cases hok
    | some d =>
      rw [hd] at hok h
      cases d <;> simp only [Bool.false_eq_true] at hok h
      · obtain ⟨b, rfl⟩ := h; rfl
      · obtain ⟨b, rfl, _⟩ := h; rfl
      · obtain ⟨b, rfl, _⟩ := h; rfl
      · rcases h with rfl | ⟨b, off, rfl, _⟩ | ⟨b, len, cap, c, e', rfl, _⟩ <;> rfl
      · rename_i k e
        simp only [Bool.and_eq_true, beq_iff_eq] at hok
        obtain ⟨hl, hall⟩ := h
        rcases Nat.eq_zero_or_pos (P.cellsOf e) with h0 | h0
        · rw [h0, Nat.mul_zero] at hl
          have : cs = [] := by simpa using hl
          subst this; rfl
        · exact pieces_all h0 k cs hl (fun i hi => WT.one hok.2 (hall i hi))
      · rename_i fs
        simp only [Bool.and_eq_true, List.all_eq_true] at hok
        obtain ⟨hl, hall⟩ := h
        have := tile_flatten (P := P) fs.toList 0 _ cs hok.1 hl
        rw [List.drop_zero] at this
        rw [← this, List.all_eq_true]
        intro v hv
        simp only [List.mem_flatten, List.mem_map] at hv
        obtain ⟨l, ⟨f, hf, rfl⟩, hv⟩ := hv
        exact List.all_eq_true.1 (WT.one (hok.2 f hf) (hall f hf)) v hv

theorem WT.slice {P : Program} {B : Nat} {m : Mem} {n : Nat} {t e : TypeId} {v : Value} {s : Nat} (hd : P.underlying t = some (.slice e)) (hs : P.cellsOf e = s) (hs0 : 0 < s) (hok : okT P n e = true) (h : WTB P B m (n + 1) t v.cells.toList) (hna : ∀ xs, v ≠ .agg xs) :
    ∃ k cells, Sl s m v k cells ∧ (k ≤ maxLen ∧ k * P.bytesOf e ≤ B) ∧ (∀ b ∈ blkOf v, b < m.next) ∧ cells.all (·.oneCell') = true ∧ ∀ i, i < k → WTB P B m n e ((cells.drop (i * s)).take s) := by
  unfold WTB at h
  rw [hd] at h
  simp only at h
  have hv : ∀ u, v.cells.toList = [u] → v = u := by
    intro u hu
    cases v with
    | agg xs => exact absurd rfl (hna xs)
    | _ => simpa [Value.cells] using hu
  rcases h with h | ⟨b, off, h, hb⟩ | ⟨b, len, cap, c, e', h, hb, h2, h3, h4, h5, h6⟩
  · have := hv _ h
    subst this
    exact ⟨0, [], ⟨by simp, .inl ⟨rfl, rfl⟩⟩, ⟨by omega, by omega⟩, fun b hb => by simp [blkOf] at hb, rfl, fun i hi => by omega⟩
  · have := hv _ h
    subst this
    exact ⟨0, [], ⟨by simp, .inr ⟨b, off, 0, rfl, Nat.le_refl _, .inl rfl⟩⟩, ⟨by omega, by omega⟩, fun c hc => by simp [blkOf] at hc; omega, rfl, fun i hi => by omega⟩
  · have := hv _ h
    subst this
    rw [hs] at h5 h6
    have hmul : len * s ≤ cap * s := Nat.mul_le_mul_right _ h2
    have hlen : (c.take (len * s)).length = len * s := by rw [List.length_take, h5]; omega
    have hpc : ∀ i, i < len → (((c.take (len * s)).drop (i * s)).take s) = ((c.drop (i * s)).take s) := by
      intro i hi
      have : (i + 1) * s ≤ len * s := Nat.mul_le_mul_right _ hi
      rw [Nat.add_mul, Nat.one_mul] at this
      rw [List.drop_take, List.take_take]
      congr 1
      omega
    have hlb : len * P.bytesOf e ≤ cap * P.bytesOf e := Nat.mul_le_mul_right _ h2
    refine ⟨len, c.take (len * s), ⟨hlen, .inr ⟨b, 0, cap, rfl, h2, .inr ⟨c, cellsAt_of_get h4, by omega, by rw [List.drop_zero]⟩⟩⟩, ⟨by omega, by omega⟩, fun x hx => by simp [blkOf] at hx; omega, ?_, fun i hi => ?_⟩
    · exact pieces_all hs0 len _ hlen (fun i hi => by rw [hpc i hi]; exact WT.one hok (h6 i (by omega)))
    · rw [hpc i hi]; exact h6 i (by omega)

/- numbers -/
theorem wrap_in {x : Int} (h0 : -9223372036854775808 ≤ x) (h1 : x ≤ 9223372036854775807) : IntKind.i64.wrap x = x := by
  have hb : (2 ^ IntKind.i64.bits : Int) = 18446744073709551616 := by decide
  have hb2 : (2 ^ (IntKind.i64.bits - 1) : Int) = 9223372036854775808 := by decide
  unfold IntKind.wrap
  simp only [hb, hb2, IntKind.signed, Bool.true_and, decide_eq_true_eq, ge_iff_le]
  split <;> omega

end Go.Fx
