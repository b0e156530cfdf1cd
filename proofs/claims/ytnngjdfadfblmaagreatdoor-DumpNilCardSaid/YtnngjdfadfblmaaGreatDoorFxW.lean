/- Steps along the printed equations: what a piece comes to, with what holds behind it. -/
import Derived.Test.YtnngjdfadfblmaaGreatDoorFxDec
import Derived.Test.YtnngjdfadfblmaaGreatDoorFxTyp
namespace Go.Fx
open Go
set_option linter.unusedSimpArgs false
set_option linter.unusedVariables false

/-- The piece comes to a value and a memory of which Q holds. -/
def W (o : O) (Q : Value → Mem → Prop) : Prop := ∃ v m, o = some (v, m) ∧ Q v m

theorem W_some {v : Value} {m : Mem} {Q : Value → Mem → Prop} : W (some (v, m)) Q ↔ Q v m :=
  ⟨fun ⟨_, _, h, hq⟩ => by cases h; exact hq, fun h => ⟨v, m, rfl, h⟩⟩
theorem W_bind {o : O} {k : Value × Mem → O} {Q : Value → Mem → Prop} : W (o.bind k) Q ↔ W o fun v m => W (k (v, m)) Q := by
  cases o with
  | none => exact ⟨fun ⟨_, _, h, _⟩ => (by cases h), fun ⟨_, _, h, _⟩ => (by cases h)⟩
  | some p => exact ⟨fun h => ⟨p.1, p.2, rfl, h⟩, fun ⟨_, _, h, hq⟩ => (by cases h; exact hq)⟩
theorem W_nw {m : Mem} {x : ABlk} {k : Value → Mem → O} {Q : Value → Mem → Prop} : W (nw m x k) Q ↔ W (k (.pointer (some ⟨m.next, 0, none⟩)) (m.add x)) Q := Iff.rfl
theorem W_nws {m : Mem} {x : ABlk} {n : Nat} {k : Value → Mem → O} {Q : Value → Mem → Prop} : W (nws m x n k) Q ↔ W (k (.slice (some ⟨m.next, 0, none⟩) n n) (m.add x)) Q := Iff.rfl
theorem W_nwAt {b : Nat} {m : Mem} {x : ABlk} {n : Option Nat} {k : Value → Mem → O} {Q : Value → Mem → Prop} : W (nwAt b m x n k) Q ↔ W (k (newVal b n) (m.put b x)) Q := Iff.rfl
theorem W.mono {o : O} {Q R : Value → Mem → Prop} (h : W o Q) (hr : ∀ v m, Q v m → R v m) : W o R := let ⟨v, m, e, q⟩ := h; ⟨v, m, e, hr v m q⟩
theorem W.bind {o : O} {k : Value × Mem → O} {Q R : Value → Mem → Prop} (h : W o Q) (hr : ∀ v m, Q v m → W (k (v, m)) R) : W (o.bind k) R := W_bind.2 (h.mono hr)
/-- What goes on with a piece that comes to one thing. -/
theorem W.bindO {α : Type} {o : Option α} {a : α} {k : α → O} {R : Value → Mem → Prop} (h : o = some a) (hr : W (k a) R) : W (o.bind k) R := by subst h; exact hr
theorem W.of_eq {o o' : O} {Q : Value → Mem → Prop} (h : o = o') (hw : W o' Q) : W o Q := h ▸ hw

theorem cnd_true (a b : O) : cnd (.bool true) a b = a := rfl
theorem cnd_false (a b : O) : cnd (.bool false) a b = b := rfl
theorem W_cnd {p : Prop} [Decidable p] {a b : O} {Q : Value → Mem → Prop} : W (cnd (.bool (decide p)) a b) Q ↔ (p → W a Q) ∧ (¬ p → W b Q) := by
  by_cases h : p <;> simp [h, cnd]
theorem W_cndB {t : Bool} {a b : O} {Q : Value → Mem → Prop} : W (cnd (.bool t) a b) Q ↔ (t = true → W a Q) ∧ (t = false → W b Q) := by
  cases t <;> simp [cnd]
theorem gdo_tt (o : O) (m : Mem) : gdo (.bool true) true o m = o := rfl
theorem gdo_ff (o : O) (m : Mem) : gdo (.bool false) false o m = o := rfl
theorem gdo_tf (o : O) (m : Mem) : gdo (.bool true) false o m = some (undef, m) := rfl
theorem gdo_ft (o : O) (m : Mem) : gdo (.bool false) true o m = some (undef, m) := rfl

theorem gdo_u (w : Bool) (o : O) (m : Mem) : gdo undef w o m = some (undef, m) := by cases w <;> rfl
theorem gdq_tt (lh : Nat × Nat) (q : Req) (m : Mem) : gdq (.bool true) true lh (some q) m = (q.run m).map fun u => (u, [(q, u, lh)]) := rfl
theorem gdq_ff (lh : Nat × Nat) (q : Req) (m : Mem) : gdq (.bool false) false lh (some q) m = (q.run m).map fun u => (u, [(q, u, lh)]) := rfl
theorem gdq_tf (lh : Nat × Nat) (q : Option Req) (m : Mem) : gdq (.bool true) false lh q m = some (undef, []) := rfl
theorem gdq_ft (lh : Nat × Nat) (q : Option Req) (m : Mem) : gdq (.bool false) true lh q m = some (undef, []) := rfl
theorem rq_load1 (v : Value) (m : Mem) : (Req.load1 v).run m = runLoad1 v m := rfl
theorem rq_loadN (n : Nat) (v : Value) (m : Mem) : (Req.loadN n v).run m = runLoadN n v m := rfl
theorem rq_b2s (v : Value) (m : Mem) : (Req.b2s v).run m = runB2S v m := rfl
theorem rq_sliceS (n : Nat) (v : Value) (lo hi : Option Value) (m : Mem) : (Req.sliceS n v lo hi).run m = runSliceS n v lo hi m := rfl
theorem rq_sliceA (k n : Nat) (v : Value) (lo hi : Option Value) (m : Mem) : (Req.sliceA k n v lo hi).run m = runSliceA k n v lo hi m := rfl
/-- The check on what was read, one request at a time. -/
theorem W_chk {ms : List Mem} {rq : List Rq} {o : O} {Q : Value → Mem → Prop} : W (chk ms rq o) Q ↔ rq.all (okReq ms) = true ∧ W o Q := by
  unfold chk
  split
  · rename_i h; simp [h]
  · rename_i h; exact ⟨fun ⟨_, _, h, _⟩ => (by cases h), fun ⟨h', _⟩ => absurd h' h⟩

/- numbers -/
theorem ar_lss (k : IntKind) (a b : Int) : arith .lss (.int k a) (.int k b) = some (.bool (decide (a < b))) := by cases k <;> rfl
theorem ar_leq (k : IntKind) (a b : Int) : arith .leq (.int k a) (.int k b) = some (.bool (decide (a ≤ b))) := by cases k <;> rfl
theorem ar_gtr (k : IntKind) (a b : Int) : arith .gtr (.int k a) (.int k b) = some (.bool (decide (b < a))) := by cases k <;> rfl
theorem ar_geq (k : IntKind) (a b : Int) : arith .geq (.int k a) (.int k b) = some (.bool (decide (b ≤ a))) := by cases k <;> rfl
theorem ar_eql (k : IntKind) (a b : Int) : arith .eql (.int k a) (.int k b) = some (.bool (decide (a = b))) := by cases k <;> simp [arith, iop] <;> rfl
theorem ar_neq (k : IntKind) (a b : Int) : arith .neq (.int k a) (.int k b) = some (.bool (decide (¬ a = b))) := by
  cases k <;> simp only [arith, iop, if_true] <;> (congr 2; by_cases h : a = b <;> simp [h])
theorem ar_add (k : IntKind) (a b : Int) : arith .add (.int k a) (.int k b) = some (.int k (k.wrap (a + b))) := by cases k <;> rfl
theorem ar_sub (k : IntKind) (a b : Int) : arith .sub (.int k a) (.int k b) = some (.int k (k.wrap (a - b))) := by cases k <;> rfl
theorem ar_mul (k : IntKind) (a b : Int) : arith .mul (.int k a) (.int k b) = some (.int k (k.wrap (a * b))) := by cases k <;> rfl
theorem wrap64 {a : Int} (h0 : -(2 ^ 63) ≤ a) (h1 : a < 2 ^ 63) : IntKind.i64.wrap a = a := wrap_in h0 (by omega)
theorem wrapU {k : IntKind} {a : Int} (hs : k.signed = false) (h0 : 0 ≤ a) (h1 : a < 2 ^ k.bits) : k.wrap a = a := by
  simp only [IntKind.wrap, hs, Bool.false_and, Bool.false_eq_true, if_false]
  exact Int.emod_eq_of_lt h0 h1
theorem wrapU64 {a : Int} (h0 : 0 ≤ a) (h1 : a < 2 ^ 64) : IntKind.u64.wrap a = a := wrapU rfl h0 h1
theorem wrapU32 {a : Int} (h0 : 0 ≤ a) (h1 : a < 2 ^ 32) : IntKind.u32.wrap a = a := wrapU rfl h0 h1
theorem wrapU8 {a : Int} (h0 : 0 ≤ a) (h1 : a < 2 ^ 8) : IntKind.u8.wrap a = a := wrapU rfl h0 h1
theorem i64_add {a b : Int} (h0 : -(2 ^ 63) ≤ a + b) (h1 : a + b < 2 ^ 63) : arith .add (.int .i64 a) (.int .i64 b) = some (.int .i64 (a + b)) := by rw [ar_add, wrap64 h0 h1]
theorem i64_sub {a b : Int} (h0 : -(2 ^ 63) ≤ a - b) (h1 : a - b < 2 ^ 63) : arith .sub (.int .i64 a) (.int .i64 b) = some (.int .i64 (a - b)) := by rw [ar_sub, wrap64 h0 h1]
theorem i64_succ {i : Nat} (h : i < 2 ^ 62) : arith .add (.int .i64 (i : Int)) (.int .i64 1) = some (.int .i64 ((i + 1 : Nat) : Int)) := by rw [i64_add (by omega) (by omega)]; simp
theorem i64_addN {i j : Nat} (h : i + j < 2 ^ 62) : arith .add (.int .i64 (i : Int)) (.int .i64 (j : Int)) = some (.int .i64 ((i + j : Nat) : Int)) := by rw [i64_add (by omega) (by omega)]; simp
theorem conv_u64 {a : Int} (k : IntKind) (h0 : 0 ≤ a) (h1 : a < 2 ^ 64) : runConv .u64 (.int k a) = some (.int .u64 a) := by simp only [runConv, wrapU64 h0 h1]
theorem conv_i64 {a : Int} (k : IntKind) (h0 : -(2 ^ 63) ≤ a) (h1 : a < 2 ^ 63) : runConv .i64 (.int k a) = some (.int .i64 a) := by simp only [runConv, wrap64 h0 h1]
theorem un_not (b : Bool) : runUn .not (.bool b) = some (.bool !b) := rfl
theorem un_notd (p : Prop) [Decidable p] : runUn .not (.bool (decide p)) = some (.bool (decide (¬ p))) := by by_cases h : p <;> simp [h, runUn]
theorem asB_b (b : Bool) : asB (.bool b) = some b := rfl
theorem max_i (k : IntKind) (a b : Int) : foldV max2 (.int k a) [.int k b] = some (.int k (if b > a then b else a)) := rfl
theorem min_i (k : IntKind) (a b : Int) : foldV min2 (.int k a) [.int k b] = some (.int k (if b < a then b else a)) := rfl

/- memory -/
theorem Upd.add' {fp : List Nat} {m m' : Mem} (h : Upd fp m m') (x : ABlk) : Upd fp m (m'.add x) := h.trans (Upd.add _ _ _)
theorem Upd.put' {fp : List Nat} {m m' : Mem} (h : Upd fp m m') {b : Nat} (x : ABlk) (hb : b ∈ fp ∨ m.next ≤ b) : Upd fp m (m'.put b x) :=
  ⟨h.next, fun c hc hn => by rw [Mem.get_put, if_neg (by rintro rfl; exact hb.elim hn (fun h => by omega))]; exact h.same c hc hn⟩
theorem Upd.kill' {fp : List Nat} {m m' : Mem} (h : Upd fp m m') {b : Nat} (hb : b ∈ fp ∨ m.next ≤ b) : Upd fp m (m'.kill b) :=
  ⟨h.next, fun c hc hn => by rw [Mem.get_kill, if_neg (by rintro rfl; exact hb.elim hn (fun h => by omega))]; exact h.same c hc hn⟩
theorem Upd.then' {fp gp : List Nat} {m m' m'' : Mem} (h : Upd fp m m') (h' : Upd gp m' m'') (hs : ∀ b ∈ gp, b ∈ fp ∨ m.next ≤ b) : Upd fp m m'' := h.trans_new h' hs
theorem Upd.nil' {fp : List Nat} {m m' : Mem} (h : Upd [] m m') : Upd fp m m' := h.mono (fun b hb => by simp at hb)
theorem Upd.then0 {fp : List Nat} {m m' m'' : Mem} (h : Upd fp m m') (h' : Upd [] m' m'') : Upd fp m m'' := h.trans_new h' (fun b hb => by simp at hb)

/-- A slice that may be appended to: a block that is all its own. -/
def TAp {α : Type} (E : Enc α) (e : TypeId) (m : Mem) (v : Value) (l : List α) : Prop :=
  (v = .slice none 0 0 ∧ l = []) ∨ ∃ b cap rest lo, v = .slice (some ⟨b, 0, none⟩) l.length cap ∧ b < m.next ∧ m.get b = some ⟨.cells (E.flat l ++ rest) e, false, lo⟩ ∧ (lo = none ∨ lo = some E.size) ∧ rest.length = (cap - l.length) * E.size ∧ l.length ≤ cap

section
variable {α : Type} {E : Enc α} {e : TypeId}
theorem TAp.nil (m : Mem) : TAp E e m (.slice none 0 0) [] := .inl ⟨rfl, rfl⟩
theorem TAp.tsl {m : Mem} {v : Value} {l : List α} (h : TAp E e m v l) : TSl E m v l := by
  rcases h with ⟨rfl, rfl⟩ | ⟨b, cap, rest, lo, rfl, hb, hg, hlo, hr, hc⟩
  · exact TSl.nil m
  · exact ⟨E.flat_len l, .inr ⟨b, 0, cap, rfl, hc, .inr ⟨_, cellsAt_of_get hg, by rw [List.length_append, E.flat_len]; omega, by rw [List.drop_zero, ← E.flat_len, List.take_left']; rfl⟩⟩⟩
theorem TAp.lt {m : Mem} {v : Value} {l : List α} (h : TAp E e m v l) : ∀ b ∈ blkOf v, b < m.next := by
  rcases h with ⟨rfl, rfl⟩ | ⟨b, cap, rest, lo, rfl, hb, _⟩
  · intro c hc; simp [blkOf] at hc
  · intro c hc; simp [blkOf] at hc; subst hc; exact hb
theorem TAp.upd {fp : List Nat} {m m' : Mem} {v : Value} {l : List α} (h : TAp E e m v l) (hu : Upd fp m m') (hk : ∀ b ∈ blkOf v, b ∉ fp) : TAp E e m' v l := by
  rcases h with h | ⟨b, cap, rest, lo, rfl, hb, hg, hlo, hr, hc⟩
  · exact .inl h
  · exact .inr ⟨b, cap, rest, lo, rfl, Nat.lt_of_lt_of_le hb hu.next, by rw [hu.same b hb (hk b (by simp [blkOf]))]; exact hg, hlo, hr, hc⟩
theorem TAp.upd0 {m m' : Mem} {v : Value} {l : List α} (h : TAp E e m v l) (hu : Upd [] m m') : TAp E e m' v l := h.upd hu (fun b _ hb => by simp at hb)
theorem TAp.one {m : Mem} {v : Value} {l : List α} (h : TAp E e m v l) : v.cells = #[v] ∧ v.oneCell' = true := by
  rcases h with ⟨rfl, rfl⟩ | ⟨b, cap, rest, lo, rfl, _⟩ <;> exact ⟨rfl, rfl⟩
/-- A new block, filled at once. -/
theorem TAp.fresh (m : Mem) (l : List α) : TAp E e (m.add ⟨.cells (E.flat l) e, false, none⟩) (.slice (some ⟨m.next, 0, none⟩) l.length l.length) l :=
  .inr ⟨m.next, l.length, [], none, rfl, by simp, by rw [Mem.get_add_self]; simp, .inl rfl, by simp, Nat.le_refl _⟩

theorem TAp.append {m : Mem} {v : Value} {l k : List α} {eb : Nat} (hs : 0 < E.size) (h : TAp E e m v l) (hb : (l.length + k.length) * eb ≤ 2 ^ 47) (hn : l.length + k.length ≤ 2 ^ 47) :
    ∃ v' m', runAppend e E.size eb v k.length (E.flat k) m = some (v', m') ∧ TAp E e m' v' (l ++ k) ∧ Upd (blkOf v) m m' ∧ ∀ b ∈ blkOf v', b ∈ blkOf v ∨ m.next ≤ b := by
  have hE := E.flat_len k
  have hA := E.flat_all k
  rcases h with ⟨rfl, rfl⟩ | ⟨b, cap, rest, lo, rfl, hbl, hg, hlo, hr, hc⟩
  · have hc0 : ¬ ¬ ((0 + k.length) * eb ≤ 2 ^ 47 ∧ (0 + k.length) ≤ 2 ^ 47 ∧ (E.flat k).length = k.length * E.size ∧ (E.flat k).all (·.oneCell') = true) := by
      simp only [List.length_nil] at hb hn
      simp only [Decidable.not_not]; exact ⟨hb, hn, hE, hA⟩
    by_cases hk0 : k = []
    · subst hk0
      exact ⟨.slice none 0 0, m, by simp only [runAppend, if_neg hc0]; rfl, TAp.nil m, Upd.refl _ _, fun b hb => by simp [blkOf] at hb⟩
    · have hk1 : k.length ≠ 0 := by simpa using hk0
      refine ⟨.slice (some ⟨m.next, 0, none⟩) k.length k.length, m.add ⟨.cells (E.flat k) e, false, some E.size⟩, ?_, .inr ⟨m.next, k.length, [], some E.size, by simp, by simp, by rw [Mem.get_add_self]; simp, .inr rfl, by simp, by simp⟩, Upd.add _ _ _, fun b hb => by simp [blkOf] at hb; exact .inr (by omega)⟩
      have hk' : ¬ (0 + k.length ≤ 0) := by omega
      simp only [runAppend, if_neg hc0, if_neg hk', and_self, if_true]
  · have hc0 : ¬ ¬ ((l.length + k.length) * eb ≤ 2 ^ 47 ∧ (l.length + k.length) ≤ 2 ^ 47 ∧ (E.flat k).length = k.length * E.size ∧ (E.flat k).all (·.oneCell') = true) := by
      simp only [Decidable.not_not]; exact ⟨hb, hn, hE, hA⟩
    by_cases hfit : l.length + k.length ≤ cap
    · by_cases hz : k.length * E.size = 0
      · have : k = [] := by
          rcases Nat.mul_eq_zero.1 hz with h | h
          · simpa using h
          · omega
        subst this
        refine ⟨.slice (some ⟨b, 0, none⟩) (l.length + 0) cap, m, ?_, .inr ⟨b, cap, rest, lo, by simp, hbl, by simpa using hg, hlo, by simpa using hr, by simpa using hc⟩, Upd.refl _ _, fun c hc => .inl hc⟩
        simp only [List.length_nil] at hc0 hfit hz
        simp only [runAppend, List.length_nil, if_neg hc0, if_pos hfit, if_pos hz]
      · have hle : k.length * E.size ≤ (cap - l.length) * E.size := Nat.mul_le_mul_right _ (by omega)
        have hlen : 0 + (l.length + k.length) * E.size ≤ (E.flat l ++ rest).length := by rw [List.length_append, E.flat_len, hr, Nat.add_mul]; omega
        have hset : setRange (E.flat l ++ rest) (0 + l.length * E.size) (E.flat k) = E.flat (l ++ k) ++ rest.drop (k.length * E.size) := by
          have := setRange_append (E.flat l) (rest.take (k.length * E.size)) (rest.drop (k.length * E.size)) (E.flat k) (by rw [List.length_take, hE, hr]; omega)
          rw [List.take_append_drop, E.flat_len] at this
          rw [Nat.zero_add, this, E.flat_append, List.append_assoc]
        refine ⟨.slice (some ⟨b, 0, none⟩) (l.length + k.length) cap, m.put b ⟨.cells (E.flat (l ++ k) ++ rest.drop (k.length * E.size)) e, false, lo⟩, ?_, .inr ⟨b, cap, rest.drop (k.length * E.size), lo, by simp, hbl, by rw [Mem.get_put_self], hlo, ?_, by simp; omega⟩, Upd.put _ _ (by simp [blkOf]), fun c hc => .inl hc⟩
        · have how : m.ownAt b = some (E.flat l ++ rest, e, lo) := by simp [Mem.ownAt, hg]
          have hcap : cap ≠ 0 := by
            rintro rfl
            have : k.length = 0 := by omega
            rw [this] at hz; simp at hz
          simp only [runAppend, if_neg hc0, if_pos hfit, if_neg hz, how, Option.bind_some]
          rw [if_pos ⟨hlen, hcap⟩, hset]
        · rw [List.length_drop, hr, List.length_append, ← Nat.sub_sub, Nat.sub_mul (cap - l.length)]
    · have hle : 0 + l.length * E.size ≤ (E.flat l ++ rest).length := by rw [List.length_append, E.flat_len]; omega
      have hpre : ((E.flat l ++ rest).drop 0).take (l.length * E.size) = E.flat l := by rw [List.drop_zero, ← E.flat_len, List.take_left']; rfl
      rcases hlo with rfl | rfl
      · refine ⟨.slice (some ⟨m.next, 0, none⟩) (l.length + k.length) (l.length + k.length), m.add ⟨.cells (E.flat (l ++ k)) e, false, some E.size⟩, ?_, .inr ⟨m.next, l.length + k.length, [], some E.size, by simp, by simp, by rw [Mem.get_add_self]; simp, .inr rfl, by simp, by simp⟩, Upd.add _ _ _, fun c hc => by simp [blkOf] at hc; exact .inr (by omega)⟩
        simp only [runAppend, if_neg hc0, if_neg hfit, hg, hpre, hle, if_true, E.flat_append]
      · refine ⟨.slice (some ⟨m.next, 0, none⟩) (l.length + k.length) (l.length + k.length), (m.kill b).add ⟨.cells (E.flat (l ++ k)) e, false, some E.size⟩, ?_, .inr ⟨m.next, l.length + k.length, [], some E.size, by simp, by simp, by rw [Mem.get_add, Mem.next_kill, if_pos rfl]; simp, .inr rfl, by simp, by simp⟩, (Upd.kill (fp := [b]) m (by simp)).trans (Upd.add _ _ _), fun c hc => by simp [blkOf] at hc; exact .inr (by omega)⟩
        simp only [runAppend, if_neg hc0, if_neg hfit, hg, hpre, hle, hc, and_self, if_true, E.flat_append]
end

/-- The rest of a slice whose block is known. -/
theorem TAp.from {α : Type} {E : Enc α} {e : TypeId} {m : Mem} {v : Value} {l : List α} (h : TAp E e m v l) {k : Nat} (hk : k ≤ l.length) :
    ∃ v', (∀ m', (∀ b ∈ blkOf v, m'.get b = m.get b) → runSliceS E.size v (some (.int .i64 (k : Int))) none m' = some v') ∧ TSl E m v' (l.drop k) ∧ blkOf v' = blkOf v := by
  rcases h with ⟨rfl, rfl⟩ | ⟨b, cap, rest, lo, rfl, hb, hg, hlo, hr, hc⟩
  · obtain rfl : k = 0 := by simpa using hk
    exact ⟨.slice none 0 0, fun m' _ => by simp [runSliceS, boundsV, boundV], TSl.nil m, rfl⟩
  · have hkn : m.known b = .exact ∨ m.known b = .loose E.size := by
      rcases hlo with rfl | rfl
      · left; simp [Mem.known, hg]
      · right; simp [Mem.known, hg]
    refine ⟨.slice (some ⟨b, if cap = k then 0 else 0 + k * E.size, none⟩) (l.length - k) (cap - k), fun m' hm' => ?_, ⟨E.flat_len _, .inr ⟨b, _, cap - k, by rw [List.length_drop], by rw [List.length_drop]; omega, ?_⟩⟩, by simp [blkOf]⟩
    · have hbd : boundsV l.length cap (some (.int .i64 (k : Int))) none = some (k, l.length) := by
        have : (0 : Int) ≤ (k : Int) ∧ (k : Int) ≤ (l.length : Int) := by omega
        simp only [boundsV, boundV, Option.bind_some, if_pos this, Option.map_some]
        simp
      have hkn' : m'.known b = m.known b := by simp only [Mem.known]; rw [hm' b (by simp [blkOf])]
      simp only [runSliceS, hbd, Option.bind_some, hkn']
      rw [if_pos (.inr hkn)]
    · by_cases h0 : l.length - k = 0
      · left; rw [List.length_drop]; exact h0
      · right
        have hck : ¬ cap = k := by omega
        rw [if_neg hck]
        refine ⟨_, cellsAt_of_get hg, ?_, ?_⟩
        · rw [List.length_append, E.flat_len, List.length_drop, Nat.zero_add, ← Nat.add_mul]
          have : (k + (l.length - k)) = l.length := by omega
          rw [this]; omega
        · rw [Nat.zero_add, List.length_drop, List.drop_append, E.flat_drop, E.flat_len, Nat.sub_eq_zero_of_le (Nat.mul_le_mul_right _ hk), List.drop_zero]
          have : (l.length - k) * E.size = (E.flat (l.drop k)).length := by rw [E.flat_len, List.length_drop]
          rw [this, List.take_left']
          rfl

theorem TSl.upto' {α : Type} {E : Enc α} {m : Mem} {v : Value} {l : List α} (h : TSl E m v l) {k : Nat} (hk : k ≤ l.length) :
    ∃ v', (∀ m', runSliceS E.size v none (some (.int .i64 (k : Int))) m' = some v') ∧ TSl E m v' (l.take k) ∧ blkOf v' = blkOf v := by
  obtain ⟨v', h1, h2, h3⟩ := h.upto hk
  refine ⟨v', fun m' => ?_, h2, h3⟩
  rw [← h1]
  obtain ⟨_, ⟨rfl, _⟩ | ⟨b, off, cap, rfl, hc, _⟩⟩ := h
  · rfl
  · have : (0 : Int) ≤ (k : Int) ∧ (k : Int) ≤ (cap : Int) := by omega
    simp only [runSliceS, boundsV, boundV, Option.bind_some, if_pos this, Option.map_some, true_or, if_true]

end Go.Fx
