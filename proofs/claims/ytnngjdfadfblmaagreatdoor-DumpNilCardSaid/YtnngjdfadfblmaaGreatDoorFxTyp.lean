/- Lists of records behind slices: each record has a form in cells. -/
import Derived.Test.YtnngjdfadfblmaaGreatDoorFxLib
namespace Go.Fx
open Go
set_option linter.unusedSimpArgs false
set_option linter.unusedVariables false

/-- How a record stands in cells. -/
structure Enc (α : Type) where
  size : Nat
  cells : α → List Value
  len : ∀ a, (cells a).length = size
  one : ∀ a, (cells a).all (·.oneCell') = true

section
variable {α : Type} (E : Enc α)

def Enc.flat (l : List α) : List Value := (l.map E.cells).flatten

theorem Enc.flat_nil : E.flat [] = [] := rfl
theorem Enc.flat_cons (a : α) (l : List α) : E.flat (a :: l) = E.cells a ++ E.flat l := rfl
theorem Enc.flat_append (l k : List α) : E.flat (l ++ k) = E.flat l ++ E.flat k := by simp [Enc.flat]
theorem Enc.flat_one (a : α) : E.flat [a] = E.cells a := by simp [Enc.flat]
theorem Enc.flat_len : ∀ l : List α, (E.flat l).length = l.length * E.size
  | [] => by simp [Enc.flat]
  | a :: l => by rw [E.flat_cons, List.length_append, E.len, flat_len l, List.length_cons, Nat.add_mul]; omega
theorem Enc.flat_all : ∀ l : List α, (E.flat l).all (·.oneCell') = true
  | [] => rfl
  | a :: l => by rw [E.flat_cons, List.all_append, E.one, flat_all l]; rfl
theorem Enc.flat_drop : ∀ (l : List α) (i : Nat), (E.flat l).drop (i * E.size) = E.flat (l.drop i)
  | l, 0 => by simp
  | [], i + 1 => by simp [Enc.flat]
  | a :: l, i + 1 => by
    rw [E.flat_cons, List.drop_succ_cons, ← flat_drop l i, show (i + 1) * E.size = (E.cells a).length + i * E.size by rw [E.len, Nat.add_mul]; omega, List.drop_append]
    simp
theorem Enc.flat_take : ∀ (l : List α) (i : Nat), (E.flat l).take (i * E.size) = E.flat (l.take i)
  | l, 0 => by simp [Enc.flat]
  | [], i + 1 => by simp [Enc.flat]
  | a :: l, i + 1 => by
    rw [E.flat_cons, List.take_succ_cons, E.flat_cons, ← flat_take l i, show (i + 1) * E.size = (E.cells a).length + i * E.size by rw [E.len, Nat.add_mul]; omega, List.take_append, List.take_of_length_le (by omega)]
    simp
theorem Enc.flat_piece {l : List α} {i : Nat} {a : α} (h : l[i]? = some a) : ((E.flat l).drop (i * E.size)).take E.size = E.cells a := by
  have hd : l.drop i = a :: l.drop (i + 1) := by
    obtain ⟨hi, rfl⟩ := List.getElem?_eq_some_iff.1 h
    exact List.drop_eq_getElem_cons hi
  rw [E.flat_drop, hd, E.flat_cons, ← E.len a, List.take_left']
  rfl

/-- A slice that reads as a list of records. -/
def TSl (m : Mem) (v : Value) (l : List α) : Prop := Sl E.size m v l.length (E.flat l)
/-- One's own, grown by appends. -/
def TOwn (e : TypeId) (m : Mem) (v : Value) (l : List α) : Prop := Own E.size e m v l.length (E.flat l)

variable {E}
theorem TOwn.tsl {e : TypeId} {m : Mem} {v : Value} {l : List α} (h : TOwn E e m v l) : TSl E m v l := Own.sl h
theorem TOwn.nil (e : TypeId) (m : Mem) : TOwn E e m (.slice none 0 0) [] := Own.nil E.size e m
theorem TSl.nil (m : Mem) : TSl E m (.slice none 0 0) [] := (TOwn.nil 0 m).tsl
theorem TSl.mono {m m' : Mem} {v : Value} {l : List α} (h : TSl E m v l) (hk : ∀ b ∈ blkOf v, m'.get b = m.get b) : TSl E m' v l := Sl.mono h hk
theorem TOwn.mono {e : TypeId} {m m' : Mem} {v : Value} {l : List α} (h : TOwn E e m v l) (hn : m.next ≤ m'.next) (hk : ∀ b ∈ blkOf v, m'.get b = m.get b) : TOwn E e m' v l := Own.mono h hn hk
theorem TOwn.lt {e : TypeId} {m : Mem} {v : Value} {l : List α} (h : TOwn E e m v l) : ∀ b ∈ blkOf v, b < m.next := Own.lt h
theorem TOwn.upd {e : TypeId} {fp : List Nat} {m m' : Mem} {v : Value} {l : List α} (h : TOwn E e m v l) (hu : Upd fp m m') (hk : ∀ b ∈ blkOf v, b ∉ fp) : TOwn E e m' v l :=
  h.mono hu.next (fun b hb => hu.same b (h.lt b hb) (hk b hb))
theorem TSl.upd {fp : List Nat} {m m' : Mem} {v : Value} {l : List α} (h : TSl E m v l) (hu : Upd fp m m') (hk : ∀ b ∈ blkOf v, b < m.next ∧ b ∉ fp) : TSl E m' v l :=
  h.mono (fun b hb => hu.same b (hk b hb).1 (hk b hb).2)
theorem TSl.len {m : Mem} {v : Value} {l : List α} (h : TSl E m v l) : runLenSlice v = some (.int .i64 l.length) := Sl.len h
theorem TSl.src {m : Mem} {v : Value} {l : List α} (h : TSl E m v l) : runSrc E.size v m = some (l.length, E.flat l) := Sl.src h
theorem TSl.index {m : Mem} {v : Value} {l : List α} (h : TSl E m v l) (k : IntKind) {i : Nat} {a : α} (ha : l[i]? = some a) :
    ∃ p, runIndexS E.size v (.int k i) = some p ∧ runLoadN E.size p m = some (.agg (E.cells a).toArray) ∧ (∀ x, E.cells a = [x] → runLoad1 p m = some x) := by
  have hi : i < l.length := by
    rcases Nat.lt_or_ge i l.length with h | h
    · exact h
    · rw [List.getElem?_eq_none h] at ha; cases ha
  obtain ⟨p, h1, h2, h3⟩ := Sl.index h k i hi
  refine ⟨p, h1, by rw [h2, E.flat_piece ha], fun x hx => ?_⟩
  have hs : E.size = 1 := by rw [← E.len a, hx]; rfl
  have hp := E.flat_piece ha
  rw [h3 hs]
  rw [hx, hs, Nat.mul_one] at hp
  have := congrArg (·[0]?) hp
  simpa using this
/-- A field of a record behind a slice. -/
theorem TSl.field {m : Mem} {v : Value} {l : List α} (h : TSl E m v l) (k : IntKind) {i : Nat} {a : α} (ha : l[i]? = some a) {o : Nat} {x : Value} (hx : (E.cells a)[o]? = some x) :
    ∃ b off, runIndexS E.size v (.int k i) = some (.pointer (some ⟨b, off, none⟩)) ∧ runLoadN E.size (.pointer (some ⟨b, off, none⟩)) m = some (.agg (E.cells a).toArray) ∧ runLoad1 (.pointer (some ⟨b, off + o, none⟩)) m = some x := by
  have hi : i < l.length := by
    rcases Nat.lt_or_ge i l.length with h | h
    · exact h
    · rw [List.getElem?_eq_none h] at ha; cases ha
  obtain ⟨p, h1, h2, _⟩ := Sl.index h k i hi
  rw [E.flat_piece ha] at h2
  have hp : ∃ b off, p = .pointer (some ⟨b, off, none⟩) := by
    unfold runIndexS at h1
    split at h1
    · split at h1
      · cases h1; exact ⟨_, _, rfl⟩
      · cases h1
    · cases h1
  obtain ⟨b, off, rfl⟩ := hp
  refine ⟨b, off, h1, h2, ?_⟩
  simp only [runLoadN, asPtr, Option.bind_some] at h2
  simp only [runLoad1, asPtr, Option.bind_some]
  cases hc : m.cellsAt b with
  | none => rw [hc] at h2; cases h2
  | some c =>
    rw [hc] at h2
    simp only [Option.bind_some] at h2 ⊢
    split at h2
    · simp only [Option.some.injEq, Value.agg.injEq] at h2
      have h3 : (c.drop off).take E.size = E.cells a := by
        have := congrArg Array.toList h2
        simpa using this
      rw [← h3, List.getElem?_take] at hx
      split at hx
      · rw [List.getElem?_drop] at hx; exact hx
      · cases hx
    · cases h2

/-- An element's place; it reads so wherever the slice does. -/
theorem TSl.at {m : Mem} {v : Value} {l : List α} (h : TSl E m v l) (k : IntKind) {i : Nat} {a : α} (ha : l[i]? = some a) :
    ∃ b off, runIndexS E.size v (.int k i) = some (.pointer (some ⟨b, off, none⟩)) ∧ ∀ m', TSl E m' v l → runLoadN E.size (.pointer (some ⟨b, off, none⟩)) m' = some (.agg (E.cells a).toArray) ∧ ∀ (o : Nat) x, (E.cells a)[o]? = some x → runLoad1 (.pointer (some ⟨b, off + o, none⟩)) m' = some x := by
  have hp : ∃ b off, runIndexS E.size v (.int k i) = some (.pointer (some ⟨b, off, none⟩)) := by
    obtain ⟨p, h1, h2, _⟩ := h.index k ha
    have h1' := h1
    unfold runIndexS at h1'
    split at h1'
    · split at h1'
      · cases h1'; exact ⟨_, _, h1⟩
      · cases h1'
    · cases h1'
  obtain ⟨b, off, h1⟩ := hp
  refine ⟨b, off, h1, fun m' h' => ?_⟩
  obtain ⟨p', g1, g2, _⟩ := h'.index k ha
  rw [h1] at g1
  cases g1
  refine ⟨g2, fun o x hx => ?_⟩
  obtain ⟨b', off', k1, _, k3⟩ := h'.field k ha hx
  rw [h1] at k1
  cases k1
  exact k3

theorem TOwn.append {e : TypeId} {m : Mem} {v : Value} {l k : List α} {eb : Nat} (h : TOwn E e m v l) (hk : k ≠ []) (hb : (l.length + k.length) * eb ≤ 2 ^ 47) (hn : l.length + k.length ≤ 2 ^ 47) :
    ∃ v' m', runAppend e E.size eb v k.length (E.flat k) m = some (v', m') ∧ TOwn E e m' v' (l ++ k) ∧ Upd (blkOf v) m m' ∧ m'.next = m.next + 1 ∧ blkOf v' = [m.next] := by
  obtain ⟨v', m', h1, h2, h3⟩ := Own.append h (k := k.length) (nc := E.flat k) (eb := eb) (by simpa using hk) (E.flat_len k) (E.flat_all k) hb hn
  refine ⟨v', m', h1, ?_, h3⟩
  unfold TOwn
  rw [E.flat_append, List.length_append]
  exact h2

/-- The beginning of a slice. -/
theorem TSl.upto {m : Mem} {v : Value} {l : List α} (h : TSl E m v l) {k : Nat} (hk : k ≤ l.length) :
    ∃ v', runSliceS E.size v none (some (.int .i64 k)) m = some v' ∧ TSl E m v' (l.take k) ∧ blkOf v' = blkOf v := by
  obtain ⟨h1, h2⟩ := h
  rcases h2 with ⟨rfl, h0⟩ | ⟨b, off, cap, rfl, hc, h3⟩
  · have : l = [] := by simpa using h0
    subst this
    have : k = 0 := by simpa using hk
    subst this
    exact ⟨.slice none 0 0, by simp [runSliceS, boundsV, boundV], TSl.nil m, rfl⟩
  · refine ⟨.slice (some ⟨b, off, none⟩) k cap, ?_, ⟨E.flat_len _, .inr ⟨b, off, cap, by rw [List.length_take, Nat.min_eq_left hk], by rw [List.length_take]; omega, ?_⟩⟩, rfl⟩
    · have hb : boundsV l.length cap none (some (.int .i64 (k : Int))) = some (0, k) := by
        have : (0 : Int) ≤ (k : Int) ∧ (k : Int) ≤ (cap : Int) := by omega
        simp only [boundsV, boundV, if_pos this, Option.bind_some, Option.map_some]
        simp
      simp only [runSliceS, hb, Option.bind_some, true_or, if_true]
      simp
    · rw [List.length_take, Nat.min_eq_left hk]
      rcases h3 with h3 | ⟨c, h4, h5, h6⟩
      · exact .inl (by omega)
      · have : k * E.size ≤ l.length * E.size := Nat.mul_le_mul_right _ hk
        refine .inr ⟨c, h4, by omega, ?_⟩
        rw [← E.flat_take, h6, List.take_take]
        congr 1
        omega

end

/-- A slice that may be appended to: one's own, or an empty one over a block of its own. -/
def TGr {α : Type} (E : Enc α) (e : TypeId) (m : Mem) (v : Value) (l : List α) : Prop :=
  TOwn E e m v l ∨ ∃ b e', v = .slice (some ⟨b, 0, none⟩) 0 0 ∧ l = [] ∧ b < m.next ∧ m.get b = some ⟨.cells [] e', false, none⟩

section
variable {α : Type} {E : Enc α} {e : TypeId}
theorem TOwn.gr {m : Mem} {v : Value} {l : List α} (h : TOwn E e m v l) : TGr E e m v l := .inl h
theorem TGr.tsl {m : Mem} {v : Value} {l : List α} (h : TGr E e m v l) : TSl E m v l := by
  rcases h with h | ⟨b, e', rfl, rfl, hb, hg⟩
  · exact h.tsl
  · exact ⟨by simp [Enc.flat], .inr ⟨b, 0, 0, rfl, Nat.le_refl _, .inl rfl⟩⟩
theorem TGr.lt {m : Mem} {v : Value} {l : List α} (h : TGr E e m v l) : ∀ b ∈ blkOf v, b < m.next := by
  rcases h with h | ⟨b, e', rfl, rfl, hb, hg⟩
  · exact h.lt
  · intro c hc; simp [blkOf] at hc; subst hc; exact hb
theorem TGr.upd {fp : List Nat} {m m' : Mem} {v : Value} {l : List α} (h : TGr E e m v l) (hu : Upd fp m m') (hk : ∀ b ∈ blkOf v, b ∉ fp) : TGr E e m' v l := by
  rcases h with h | ⟨b, e', rfl, rfl, hb, hg⟩
  · exact .inl (h.upd hu hk)
  · exact .inr ⟨b, e', rfl, rfl, Nat.lt_of_lt_of_le hb hu.next, by rw [hu.same b hb (hk b (by simp [blkOf]))]; exact hg⟩
theorem TGr.append {m : Mem} {v : Value} {l k : List α} {eb : Nat} (h : TGr E e m v l) (hk : k ≠ []) (hb : (l.length + k.length) * eb ≤ 2 ^ 47) (hn : l.length + k.length ≤ 2 ^ 47) :
    ∃ v' m', runAppend e E.size eb v k.length (E.flat k) m = some (v', m') ∧ TOwn E e m' v' (l ++ k) ∧ Upd (blkOf v) m m' ∧ m'.next = m.next + 1 ∧ blkOf v' = [m.next] := by
  rcases h with h | ⟨b, e', rfl, rfl, hbl, hg⟩
  · exact h.append hk hb hn
  · have hk0 : k.length ≠ 0 := by simpa using hk
    refine ⟨.slice (some ⟨m.next, 0, none⟩) k.length k.length, m.add ⟨.cells (E.flat k) e, false, some E.size⟩, ?_, ⟨E.flat_len _, .inr ⟨m.next, by simp, by simp, Mem.get_add_self ..⟩⟩, Upd.add _ _ _, rfl, rfl⟩
    have hc0 : ¬ ¬ ((0 + k.length) * eb ≤ 2 ^ 47 ∧ (0 + k.length) ≤ 2 ^ 47 ∧ (E.flat k).length = k.length * E.size ∧ (E.flat k).all (·.oneCell') = true) := by
      simp only [List.length_nil] at hb hn
      simp only [Decidable.not_not]; exact ⟨hb, hn, E.flat_len k, E.flat_all k⟩
    have hk' : ¬ (0 + k.length ≤ 0) := by omega
    simp only [runAppend, if_neg hc0, if_neg hk', hg]
    simp
end

/-- A slice of one's own, with room behind that is known. -/
def TRm {α : Type} (E : Enc α) (e : TypeId) (m : Mem) (v : Value) (l : List α) : Prop :=
  (v = .slice none 0 0 ∧ l = []) ∨ ∃ b cap rest, v = .slice (some ⟨b, 0, none⟩) l.length cap ∧ b < m.next ∧ m.get b = some ⟨.cells (E.flat l ++ rest) e, false, some E.size⟩ ∧ rest.length = (cap - l.length) * E.size ∧ l.length ≤ cap

theorem setRange_append (a b c vs : List Value) (h : b.length = vs.length) : setRange (a ++ (b ++ c)) a.length vs = a ++ (vs ++ c) := by
  apply List.ext_getElem?
  intro j
  rw [getElem?_setRange vs _ _ j (by simp [h])]
  by_cases h1 : j < a.length
  · rw [if_neg (by omega), List.getElem?_append_left h1, List.getElem?_append_left h1]
  · by_cases h2 : j < a.length + vs.length
    · rw [if_pos ⟨by omega, h2⟩, List.getElem?_append_right (by omega), List.getElem?_append_left (by omega)]
    · rw [if_neg (by omega), List.getElem?_append_right (by omega), List.getElem?_append_right (by omega), List.getElem?_append_right (by omega), List.getElem?_append_right (by omega), h]

section
variable {α : Type} {E : Enc α} {e : TypeId}
theorem TRm.nil (m : Mem) : TRm E e m (.slice none 0 0) [] := .inl ⟨rfl, rfl⟩
theorem TRm.tsl {m : Mem} {v : Value} {l : List α} (h : TRm E e m v l) : TSl E m v l := by
  rcases h with ⟨rfl, rfl⟩ | ⟨b, cap, rest, rfl, hb, hg, hr, hc⟩
  · exact TSl.nil m
  · exact ⟨E.flat_len l, .inr ⟨b, 0, cap, rfl, hc, .inr ⟨_, cellsAt_of_get hg, by rw [List.length_append, E.flat_len]; omega, by rw [List.drop_zero, ← E.flat_len, List.take_left']; rfl⟩⟩⟩
theorem TRm.lt {m : Mem} {v : Value} {l : List α} (h : TRm E e m v l) : ∀ b ∈ blkOf v, b < m.next := by
  rcases h with ⟨rfl, rfl⟩ | ⟨b, cap, rest, rfl, hb, _⟩
  · intro c hc; simp [blkOf] at hc
  · intro c hc; simp [blkOf] at hc; subst hc; exact hb
theorem TRm.upd {fp : List Nat} {m m' : Mem} {v : Value} {l : List α} (h : TRm E e m v l) (hu : Upd fp m m') (hk : ∀ b ∈ blkOf v, b ∉ fp) : TRm E e m' v l := by
  rcases h with h | ⟨b, cap, rest, rfl, hb, hg, hr, hc⟩
  · exact .inl h
  · exact .inr ⟨b, cap, rest, rfl, Nat.lt_of_lt_of_le hb hu.next, by rw [hu.same b hb (hk b (by simp [blkOf]))]; exact hg, hr, hc⟩
theorem TRm.one {m : Mem} {v : Value} {l : List α} (h : TRm E e m v l) : v.cells = #[v] ∧ v.oneCell' = true := by
  rcases h with ⟨rfl, rfl⟩ | ⟨b, cap, rest, rfl, _⟩ <;> exact ⟨rfl, rfl⟩
theorem TRm.append {m : Mem} {v : Value} {l k : List α} {eb : Nat} (hs : 0 < E.size) (h : TRm E e m v l) (hk : k ≠ []) (hb : (l.length + k.length) * eb ≤ 2 ^ 47) (hn : l.length + k.length ≤ 2 ^ 47) :
    ∃ v' m', runAppend e E.size eb v k.length (E.flat k) m = some (v', m') ∧ TRm E e m' v' (l ++ k) ∧ Upd (blkOf v) m m' ∧ ∀ b ∈ blkOf v', b ∈ blkOf v ∨ m.next ≤ b := by
  have hk0 : k.length ≠ 0 := by simpa using hk
  have hE := E.flat_len k
  have hA := E.flat_all k
  rcases h with ⟨rfl, rfl⟩ | ⟨b, cap, rest, rfl, hbl, hg, hr, hc⟩
  · refine ⟨.slice (some ⟨m.next, 0, none⟩) k.length k.length, m.add ⟨.cells (E.flat k) e, false, some E.size⟩, ?_, .inr ⟨m.next, k.length, [], by simp, by simp, by rw [Mem.get_add_self]; simp, by simp, by simp⟩, Upd.add _ _ _, fun b hb => by simp [blkOf] at hb; exact .inr (by omega)⟩
    have hc0 : ¬ ¬ ((0 + k.length) * eb ≤ 2 ^ 47 ∧ (0 + k.length) ≤ 2 ^ 47 ∧ (E.flat k).length = k.length * E.size ∧ (E.flat k).all (·.oneCell') = true) := by
      simp only [List.length_nil] at hb hn
      simp only [Decidable.not_not]; exact ⟨hb, hn, hE, hA⟩
    have hk' : ¬ (0 + k.length ≤ 0) := by omega
    simp only [runAppend, if_neg hc0, if_neg hk', and_self, if_true]
  · have hc0 : ¬ ¬ ((l.length + k.length) * eb ≤ 2 ^ 47 ∧ (l.length + k.length) ≤ 2 ^ 47 ∧ (E.flat k).length = k.length * E.size ∧ (E.flat k).all (·.oneCell') = true) := by
      simp only [Decidable.not_not]; exact ⟨hb, hn, hE, hA⟩
    by_cases hfit : l.length + k.length ≤ cap
    · have hz : ¬ (k.length * E.size = 0) := by rw [Nat.mul_eq_zero]; omega
      have hle : k.length * E.size ≤ (cap - l.length) * E.size := Nat.mul_le_mul_right _ (by omega)
      have hlen : 0 + (l.length + k.length) * E.size ≤ (E.flat l ++ rest).length := by rw [List.length_append, E.flat_len, hr, Nat.add_mul]; omega
      have hset : setRange (E.flat l ++ rest) (0 + l.length * E.size) (E.flat k) = E.flat (l ++ k) ++ rest.drop (k.length * E.size) := by
        have := setRange_append (E.flat l) (rest.take (k.length * E.size)) (rest.drop (k.length * E.size)) (E.flat k) (by rw [List.length_take, hE, hr]; omega)
        rw [List.take_append_drop, E.flat_len] at this
        rw [Nat.zero_add, this, E.flat_append, List.append_assoc]
      refine ⟨.slice (some ⟨b, 0, none⟩) (l.length + k.length) cap, m.put b ⟨.cells (E.flat (l ++ k) ++ rest.drop (k.length * E.size)) e, false, some E.size⟩, ?_, .inr ⟨b, cap, rest.drop (k.length * E.size), by simp, hbl, by rw [Mem.get_put_self], ?_, by simp; omega⟩, Upd.put _ _ (by simp [blkOf]), fun c hc => .inl hc⟩
      · have how : m.ownAt b = some (E.flat l ++ rest, e, some E.size) := by simp [Mem.ownAt, hg]
        have hcap : cap ≠ 0 := by omega
        simp only [runAppend, if_neg hc0, if_pos hfit, if_neg hz, how, Option.bind_some]
        rw [if_pos ⟨hlen, hcap⟩, hset]
      · rw [List.length_drop, hr, List.length_append, ← Nat.sub_sub, Nat.sub_mul (cap - l.length)]
    · have hle : 0 + l.length * E.size ≤ (E.flat l ++ rest).length := by rw [List.length_append, E.flat_len]; omega
      refine ⟨.slice (some ⟨m.next, 0, none⟩) (l.length + k.length) (l.length + k.length), (m.kill b).add ⟨.cells (E.flat (l ++ k)) e, false, some E.size⟩, ?_, .inr ⟨m.next, l.length + k.length, [], by simp, by simp, by rw [Mem.get_add, Mem.next_kill, if_pos rfl]; simp, by simp, by simp⟩, (Upd.kill (fp := [b]) m (by simp)).trans (Upd.add _ _ _), fun c hc => by simp [blkOf] at hc; exact .inr (by omega)⟩
      have hpre : ((E.flat l ++ rest).drop 0).take (l.length * E.size) = E.flat l := by rw [List.drop_zero, ← E.flat_len, List.take_left']; rfl
      simp only [runAppend, if_neg hc0, if_neg hfit, hg, hpre, hle, hc, and_self, if_true, E.flat_append]
end

/- what came in -/
theorem WT.int {P : Program} {B : Nat} {m : Mem} {n : Nat} {t : TypeId} {k : IntKind} {cs : List Value} (hd : P.underlying t = some (.int k)) (h : WTB P B m (n + 1) t cs) : ∃ x, cs = [.int k x] ∧ (Lit.int k x).wf = true := by
  unfold WTB at h; rw [hd] at h; exact h
theorem WT.bool {P : Program} {B : Nat} {m : Mem} {n : Nat} {t : TypeId} {cs : List Value} (hd : P.underlying t = some .bool) (h : WTB P B m (n + 1) t cs) : ∃ b, cs = [.bool b] := by
  unfold WTB at h; rw [hd] at h; exact h
theorem WT.string {P : Program} {B : Nat} {m : Mem} {n : Nat} {t : TypeId} {cs : List Value} (hd : P.underlying t = some .string) (h : WTB P B m (n + 1) t cs) : ∃ s : ByteArray, cs = [.string s] ∧ s.size ≤ B := by
  unfold WTB at h; rw [hd] at h; exact h

def Pieces (P : Program) (B : Nat) (m : Mem) (n : Nat) : List TypeId → List Value → Prop
  | [], cs => cs = []
  | t :: ts, cs => ∃ p r, cs = p ++ r ∧ WTB P B m n t p ∧ Pieces P B m n ts r

theorem pieces_of {P : Program} {B : Nat} {m : Mem} {n : Nat} : ∀ (ts : List TypeId) (cs : List Value) (ps : List (List Value)), ps.flatten = cs → ps.length = ts.length → (∀ (i : Nat) t p, ts[i]? = some t → ps[i]? = some p → WTB P B m n t p) → Pieces P B m n ts cs
  | [], cs, ps, h, hl, _ => by
    have : ps = [] := by simpa using hl
    subst this
    exact h.symm
  | t :: ts, cs, [], h, hl, _ => by simp at hl
  | t :: ts, cs, p :: ps, h, hl, hw => ⟨p, ps.flatten, by rw [← h]; rfl, hw 0 t p rfl rfl, pieces_of ts _ ps rfl (by simpa using hl) (fun i t p ht hp => hw (i + 1) t p (by simpa using ht) (by simpa using hp))⟩

theorem WT.struct {P : Program} {B : Nat} {m : Mem} {n : Nat} {t : TypeId} {fs : Array Field} {cs : List Value} (hd : P.underlying t = some (.struct fs)) (ht : tileB P fs.toList 0 (P.cellsOf t) = true) (h : WTB P B m (n + 1) t cs) : Pieces P B m n (fs.toList.map (·.type)) cs := by
  unfold WTB at h
  rw [hd] at h
  obtain ⟨hl, hall⟩ := h
  have := tile_flatten (P := P) fs.toList 0 _ cs ht hl
  rw [List.drop_zero] at this
  refine pieces_of _ _ _ this (by simp) (fun i t p ht hp => ?_)
  simp only [List.getElem?_map, Option.map_eq_some_iff] at ht hp
  obtain ⟨f, hf, rfl⟩ := ht
  obtain ⟨g, hg, rfl⟩ := hp
  rw [hf] at hg; cases hg
  exact hall f (List.mem_of_getElem? hf)

theorem one_of {v u : Value} (hna : ∀ xs, v ≠ .agg xs) (h : v.cells.toList = [u]) : v = u := by
  cases v with
  | agg xs => exact absurd rfl (hna xs)
  | _ => simpa [Value.cells] using h

def structTs (P : Program) (t : TypeId) : Option (List TypeId) := match P.underlying t with
  | some (.struct fs) => if tileB P fs.toList 0 (P.cellsOf t) = true then some (fs.toList.map (·.type)) else none
  | _ => none
theorem WT.structT {P : Program} {B : Nat} {m : Mem} {n : Nat} {t : TypeId} {ts : List TypeId} {cs : List Value} (hd : structTs P t = some ts) (h : WTB P B m (n + 1) t cs) : Pieces P B m n ts cs := by
  unfold structTs at hd
  split at hd
  · rename_i fs hf
    split at hd
    · rename_i ht
      cases hd
      exact WT.struct hf ht h
    · cases hd
  · cases hd

/-- A list of records that came in. -/
theorem typed {α : Type} (E : Enc α) {q : List Value → Prop} {p : α → Prop} (hq : ∀ cs, q cs → ∃ a, cs = E.cells a ∧ p a) : ∀ (k : Nat) (cells : List Value), cells.length = k * E.size → (∀ i, i < k → q ((cells.drop (i * E.size)).take E.size)) →
    ∃ l : List α, cells = E.flat l ∧ l.length = k ∧ ∀ a ∈ l, p a
  | 0, cells, h, _ => ⟨[], by simpa [Enc.flat] using h, rfl, fun a ha => by cases ha⟩
  | k + 1, cells, h, hall => by
    obtain ⟨a, ha, hpa⟩ := hq _ (by simpa using hall 0 (by omega))
    obtain ⟨l, hl, hk, hp⟩ := typed E hq k (cells.drop E.size) (by rw [List.length_drop, h, Nat.add_mul]; omega) (fun i hi => by
      have := hall (i + 1) (by omega)
      rw [List.drop_drop]
      rw [show E.size + i * E.size = (i + 1) * E.size by rw [Nat.add_mul]; omega]
      exact this)
    refine ⟨a :: l, ?_, by simp [hk], fun b hb => ?_⟩
    · rw [E.flat_cons, ← ha, ← hl, List.take_append_drop]
    · rcases List.mem_cons.1 hb with rfl | hb
      · exact hpa
      · exact hp b hb

/-- A slice of records that came in. -/
theorem WT.tslice {P : Program} {B : Nat} {α : Type} (E : Enc α) {p : α → Prop} {m : Mem} {n : Nat} {t e : TypeId} {v : Value} (hd : P.underlying t = some (.slice e)) (hs : P.cellsOf e = E.size) (hs0 : 0 < E.size) (hok : okT P n e = true)
    (hq : ∀ cs, WTB P B m n e cs → ∃ a, cs = E.cells a ∧ p a) (h : WTB P B m (n + 1) t v.cells.toList) (hna : ∀ xs, v ≠ .agg xs) :
    ∃ l : List α, TSl E m v l ∧ (l.length ≤ maxLen ∧ l.length * P.bytesOf e ≤ B) ∧ (∀ b ∈ blkOf v, b < m.next) ∧ ∀ a ∈ l, p a := by
  obtain ⟨k, cells, h1, h2, h3, _, h5⟩ := WT.slice hd hs hs0 hok h hna
  obtain ⟨l, rfl, rfl, h6⟩ := typed E hq k cells h1.1 h5
  exact ⟨l, h1, h2, h3, h6⟩

/- numbers -/
def encInt (k : IntKind) : Enc Int := ⟨1, fun x => [.int k x], fun _ => rfl, fun _ => rfl⟩

theorem wrap_succ {i n : Nat} (h : i < n) (hn : n ≤ 2 ^ 47) : IntKind.i64.wrap ((i : Int) + 1) = ((i + 1 : Nat) : Int) := by
  rw [wrap_in (by omega) (by omega)]; rfl

end Go.Fx
