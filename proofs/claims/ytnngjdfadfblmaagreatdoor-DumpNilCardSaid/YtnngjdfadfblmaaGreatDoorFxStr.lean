/- Bytes and strings: slices of bytes that read as lists, strings as lists, appends a step at a time. -/
import Derived.Test.YtnngjdfadfblmaaGreatDoorFxW
namespace Go.Fx
open Go
set_option linter.unusedSimpArgs false
set_option linter.unusedVariables false
set_option linter.unusedVariables false

abbrev str (l : List UInt8) : Value := .string ⟨l.toArray⟩
theorem str_eta (s : ByteArray) : Value.string s = str s.data.toList := by
  cases s with
  | mk d => simp [str]
def encB : Enc UInt8 := ⟨1, fun b => [.int .u8 b.toNat], fun _ => rfl, fun _ => rfl⟩
theorem encB_size : encB.size = 1 := rfl
def encS : Enc (List UInt8) := ⟨1, fun l => [str l], fun _ => rfl, fun _ => rfl⟩

theorem len_str (l : List UInt8) : runLenStr (str l) = some (.int .i64 l.length) := by simp [runLenStr, str, ByteArray.size]
theorem src_str (l : List UInt8) (m : Mem) : runSrc 1 (str l) m = some (l.length, encB.flat l) := by
  simp only [runSrc, str, ByteArray.size, List.size_toArray]
  congr 2
  simp only [Enc.flat, encB]
  induction l with
  | nil => rfl
  | cons a l ih => simp at ih ⊢; exact ih
theorem idx_str {l : List UInt8} {i : Nat} {b : UInt8} (h : l[i]? = some b) : runIndexStr (str l) (.int .i64 (i : Int)) = some (.int .u8 b.toNat) := by
  have hs : (⟨l.toArray⟩ : ByteArray)[i]? = some b := by
    have hi : i < l.length := by
      rcases Nat.lt_or_ge i l.length with h' | h'
      · exact h'
      · rw [List.getElem?_eq_none h'] at h; cases h
    rw [getElem?_pos (⟨l.toArray⟩ : ByteArray) i (by simpa [ByteArray.size] using hi)]
    rw [List.getElem?_eq_getElem hi] at h
    simpa [ByteArray.getElem_eq_getElem_data] using h
  simp only [runIndexStr, str]
  rw [if_pos (by omega), Int.toNat_natCast, hs]
  rfl
theorem slice_str {l : List UInt8} {a b : Nat} (hab : a ≤ b) (hb : b ≤ l.length) (ka kb : IntKind) : runSliceStr (str l) (some (.int ka (a : Int))) (some (.int kb (b : Int))) = some (str ((l.drop a).take (b - a))) := by
  have h1 : (0 : Int) ≤ (b : Int) ∧ (b : Int) ≤ ((⟨l.toArray⟩ : ByteArray).size : Int) := by simp [ByteArray.size]; omega
  have h2 : (0 : Int) ≤ (a : Int) ∧ (a : Int) ≤ (b : Int) := by omega
  simp only [runSliceStr, boundsV, boundV, if_pos h1, Option.bind_some, Int.toNat_natCast, if_pos h2, Option.map_some]
theorem slice_str_from {l : List UInt8} {a : Nat} (ha : a ≤ l.length) (ka : IntKind) : runSliceStr (str l) (some (.int ka (a : Int))) none = some (str (l.drop a)) := by
  have h2 : (0 : Int) ≤ (a : Int) ∧ (a : Int) ≤ ((⟨l.toArray⟩ : ByteArray).size : Int) := by simp [ByteArray.size]; omega
  simp only [runSliceStr, boundsV, boundV, Option.bind_some, Int.toNat_natCast, if_pos h2, Option.map_some]
  congr 1
  simp only [str, ByteArray.size, List.size_toArray]
  rw [List.take_of_length_le (by simp)]
theorem slice_str_upto {l : List UInt8} {b : Nat} (hb : b ≤ l.length) (kb : IntKind) : runSliceStr (str l) none (some (.int kb (b : Int))) = some (str (l.take b)) := by
  have h1 : (0 : Int) ≤ (b : Int) ∧ (b : Int) ≤ ((⟨l.toArray⟩ : ByteArray).size : Int) := by simp [ByteArray.size]; omega
  simp only [runSliceStr, boundsV, boundV, if_pos h1, Option.bind_some, Int.toNat_natCast, Option.map_some]
  simp [str]
theorem cat_str {a b : List UInt8} (h : a.length + b.length < 2 ^ 62) : arith .add (str a) (str b) = some (str (a ++ b)) := by
  have hs : ¬ ((((⟨a.toArray⟩ : ByteArray).size + (⟨b.toArray⟩ : ByteArray).size : Nat) : Int) > IntKind.i64.max) := by
    have : IntKind.i64.max = 9223372036854775807 := rfl
    simp only [ByteArray.size, List.size_toArray, this]
    omega
  show sop .add _ _ = _
  simp only [sop, if_neg hs]
  congr 2
theorem eql_str (a b : List UInt8) : arith .eql (str a) (str b) = some (.bool (decide (a = b))) := by
  show sop .eql _ _ = _
  simp only [sop]
  congr 2
  by_cases h : a = b <;> simp [h]
theorem neq_str (a b : List UInt8) : arith .neq (str a) (str b) = some (.bool (decide (¬ a = b))) := by
  show sop .neq _ _ = _
  simp only [sop]
  congr 2
  by_cases h : a = b <;> simp [h]

theorem flatB_get (l : List UInt8) (i : Nat) : (encB.flat l)[i]? = (l[i]?).map fun b => Value.int .u8 b.toNat := by
  have : encB.flat l = l.map fun b => Value.int .u8 b.toNat := by
    simp only [Enc.flat, encB]
    induction l with
    | nil => rfl
    | cons a l ih => simp at ih ⊢; exact ih
  rw [this, List.getElem?_map]

theorem strOf_flat : ∀ l : List UInt8, strOf (encB.flat l) = some l
  | [] => rfl
  | b :: l => by
    rw [encB.flat_cons]
    show strOf (.int .u8 b.toNat :: encB.flat l) = _
    simp only [strOf, strOf_flat l, Option.map_some]
    congr 2
    simp
theorem b2s_ok {m : Mem} {v : Value} {l : List UInt8} (h : TSl encB m v l) : runB2S v m = some (str l) := by
  obtain ⟨_, ⟨rfl, h0⟩ | ⟨b, off, cap, rfl, hc, h3⟩⟩ := h
  · have : l = [] := by simpa using h0
    subst this; rfl
  · rcases h3 with h3 | ⟨c, h4, h5, h6⟩
    · have : l = [] := by simpa using h3
      subst this; simp [runB2S]; rfl
    · by_cases h0 : l.length = 0
      · have : l = [] := by simpa using h0
        subst this; simp [runB2S]; rfl
      · have h7 : (c.drop off).take l.length = encB.flat l := by rw [h6, encB_size, Nat.mul_one]
        have h8 : off + l.length ≤ c.length := by rw [encB_size, Nat.mul_one] at h5; exact h5
        simp only [runB2S, if_neg h0, h4, Option.bind_some, if_pos h8, h7, strOf_flat, Option.map_some]

/-- One's own slice, grown: some elements out of a new slice. -/
theorem app_new {α : Type} {E : Enc α} {e e' : TypeId} {m : Mem} {v : Value} {l : List α} {eb : Nat} (k : List α) (hs : 0 < E.size) (h : TAp E e m v l) (hn : (l.length + k.length) * (eb + 1) ≤ 2 ^ 47) {K : Value × Mem → O} {Q : Value → Mem → Prop}
    (hK : ∀ v' m', TAp E e m' v' (l ++ k) → Upd (blkOf v) m m' → (∀ b ∈ blkOf v', b ∈ blkOf v ∨ m.next ≤ b) → W (K (v', m')) Q) :
    W ((runSrc E.size (.slice (some ⟨m.next, 0, none⟩) k.length k.length) (m.add ⟨.cells (E.flat k) e', false, none⟩)).bind fun p => (runAppend e E.size eb v p.1 p.2 (m.add ⟨.cells (E.flat k) e', false, none⟩)).bind K) Q := by
  have hsrc : runSrc E.size (.slice (some ⟨m.next, 0, none⟩) k.length k.length) (m.add ⟨.cells (E.flat k) e', false, none⟩) = some (k.length, E.flat k) := (TAp.fresh (E := E) (e := e') m k).tsl.src
  rw [hsrc]
  have h1 : (l.length + k.length) * eb ≤ (l.length + k.length) * (eb + 1) := Nat.mul_le_mul_left _ (by omega)
  have h2 : l.length + k.length ≤ (l.length + k.length) * (eb + 1) := Nat.le_mul_of_pos_right _ (by omega)
  obtain ⟨v', m', h1, h2, h3, h4⟩ := (h.upd0 (Upd.add [] m ⟨.cells (E.flat k) e', false, none⟩)).append (k := k) (eb := eb) hs (by omega) (by omega)
  refine W.bindO rfl (W.bindO h1 (hK v' m' h2 (((Upd.add [] m _).nil').trans h3) fun b hb => ?_))
  rcases h4 b hb with h | h
  · exact .inl h
  · exact .inr (by simp at h; omega)

/-- Elements out of a string or of another slice. -/
theorem app_src {α : Type} {E : Enc α} {e : TypeId} {m : Mem} {v x : Value} {l : List α} {eb : Nat} (k : List α) (hs : 0 < E.size) (h : TAp E e m v l) (hx : runSrc E.size x m = some (k.length, E.flat k)) (hn : (l.length + k.length) * (eb + 1) ≤ 2 ^ 47) {K : Value × Mem → O} {Q : Value → Mem → Prop}
    (hK : ∀ v' m', TAp E e m' v' (l ++ k) → Upd (blkOf v) m m' → (∀ b ∈ blkOf v', b ∈ blkOf v ∨ m.next ≤ b) → W (K (v', m')) Q) :
    W ((runSrc E.size x m).bind fun p => (runAppend e E.size eb v p.1 p.2 m).bind K) Q := by
  rw [hx]
  have h1 : (l.length + k.length) * eb ≤ (l.length + k.length) * (eb + 1) := Nat.mul_le_mul_left _ (by omega)
  have h2 : l.length + k.length ≤ (l.length + k.length) * (eb + 1) := Nat.le_mul_of_pos_right _ (by omega)
  obtain ⟨v', m', h1, h2, h3, h4⟩ := h.append (k := k) (eb := eb) hs (by omega) (by omega)
  exact W.bindO rfl (W.bindO h1 (hK v' m' h2 h3 h4))

theorem W.le {o o' : O} {Q : Value → Mem → Prop} (h : W o Q) (hle : ∀ r, o = some r → o' = some r) : W o' Q := by
  obtain ⟨v, m, e, q⟩ := h
  exact ⟨v, m, hle _ e, q⟩
theorem W.of_some {o : O} {v : Value} {m : Mem} {Q : Value → Mem → Prop} (h : o = some (v, m)) (hq : Q v m) : W o Q := ⟨v, m, h, hq⟩

end Go.Fx
