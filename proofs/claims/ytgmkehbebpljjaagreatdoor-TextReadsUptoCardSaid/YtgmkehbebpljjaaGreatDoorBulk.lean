/- How great what came in may be: from the given bound on its bulk to a bound on each part; the listed variables of a world. -/
import Derived.Test.YtgmkehbebpljjaaGreatDoorRows
import Derived.Test.YtgmkehbebpljjaaGreatDoorHookT
import Derived.Shelf.Vars
import Derived.Stop.LaidErr
import Derived.MakeChecks
import Derived.Lib.LaidTab
namespace Go.Fx.Tryz
open Go Go.Fx Go.Proofs Go.Proofs.YtgmkehbebpljjaaGreatDoor
set_option linter.unusedVariables false
set_option linter.unusedSimpArgs false

theorem bulk_one {H : Type} (d : DataW H) : 1 ≤ Rows.uptoBulk d := by
  cases d with
  | lit l => cases l <;> simp [Rows.uptoBulk]
  | nil => simp [Rows.uptoBulk]
  | ptr d => simp [Rows.uptoBulk]
  | slice elems spare => simp [Rows.uptoBulk]
  | agg parts => simp [Rows.uptoBulk]
  | iface t d => simp [Rows.uptoBulk]
  | map entries => simp [Rows.uptoBulk]
  | held h => simp [Rows.uptoBulk]
theorem bulk_part {H : Type} {d : DataW H} : ∀ {l : List (DataW H)}, d ∈ l → Rows.uptoBulk d ≤ Rows.uptoBulkAll l
  | [], h => by cases h
  | x :: r, h => by
    simp only [Rows.uptoBulkAll]
    rcases List.mem_cons.1 h with rfl | h
    · omega
    · have := bulk_part h; omega
theorem bulk_length {H : Type} : ∀ (l : List (DataW H)), l.length ≤ Rows.uptoBulkAll l
  | [] => by simp [Rows.uptoBulkAll]
  | x :: r => by have := bulk_one x; have := bulk_length r; simp only [Rows.uptoBulkAll, List.length_cons]; omega

def slB (P : Program) (K : Nat) : Nat → TypeId → Bool
  | 0, _ => false
  | n + 1, t => match P.underlying t with
    | some (.slice e) => decide (P.bytesOf e ≤ K) && slB P K n e
    | some (.struct fs) => fs.toList.all fun f => slB P K n f.type
    | some (.array _ e) => slB P K n e
    | some (.pointer _) => false
    | some (.map _ _) => false
    | _ => true
theorem mem_all {H : Type} {P : Program} {e : TypeId} {z : Nat} : ∀ {ds : List (DataW H)}, z ∈ DataW.weightsAll P e ds → ∃ d ∈ ds, z ∈ d.weights P e
  | [], h => by simp [DataW.weightsAll] at h
  | d :: r, h => by
    simp only [DataW.weightsAll, List.mem_append] at h
    rcases h with h | h
    · exact ⟨d, List.mem_cons_self .., h⟩
    · obtain ⟨x, hx, hz⟩ := mem_all h
      exact ⟨x, List.mem_cons_of_mem _ hx, hz⟩
theorem mem_each {H : Type} {P : Program} {z : Nat} : ∀ {ts : List TypeId} {ds : List (DataW H)}, z ∈ DataW.weightsEach P ts ds → ∃ t ∈ ts, ∃ d ∈ ds, z ∈ d.weights P t
  | [], ds, h => by simp [DataW.weightsEach] at h
  | t :: ts, [], h => by simp [DataW.weightsEach] at h
  | t :: ts, d :: r, h => by
    simp only [DataW.weightsEach, List.mem_append] at h
    rcases h with h | h
    · exact ⟨t, List.mem_cons_self .., d, List.mem_cons_self .., h⟩
    · obtain ⟨t', ht, x, hx, hz⟩ := mem_each h
      exact ⟨t', List.mem_cons_of_mem _ ht, x, List.mem_cons_of_mem _ hx, hz⟩

theorem w_le {H : Type} {P : Program} {K : Nat} (hK : 1 ≤ K) : ∀ (n : Nat) (t : TypeId) (d : DataW H), slB P K n t = true → ∀ z ∈ d.weights P t, z ≤ K * Rows.uptoBulk d := by
  have mono : ∀ {z a b : Nat}, z ≤ K * a → a ≤ b → z ≤ K * b := fun h h' => Nat.le_trans h (Nat.mul_le_mul_left _ h')
  intro n
  induction n with
  | zero => intro t d h; cases h
  | succ n ih =>
    intro t d h z hz
    cases d with
    | lit l =>
      cases l with
      | string b =>
        simp only [DataW.weights, List.mem_cons, List.not_mem_nil, or_false] at hz
        subst hz
        rw [show Rows.uptoBulk (.lit (.string b) : DataW H) = b.length + 1 by simp [Rows.uptoBulk]]
        have := Nat.mul_le_mul_right (b.length + 1) hK
        omega
      | _ => simp [DataW.weights] at hz
    | nil => simp [DataW.weights] at hz
    | ptr d =>
      simp only [DataW.weights] at hz
      split at hz
      · rename_i e he
        simp [slB, he] at h
      · cases hz
    | slice elems spare =>
      simp only [DataW.weights] at hz
      split at hz
      · rename_i e he
        simp only [slB, he, Bool.and_eq_true, decide_eq_true_eq] at h
        have hb : Rows.uptoBulk (.slice elems spare : DataW H) = Rows.uptoBulkAll elems + Rows.uptoBulkAll spare + 1 := by simp [Rows.uptoBulk]
        rw [hb]
        simp only [List.mem_cons, List.mem_append] at hz
        rcases hz with rfl | hz | hz
        · have h1 := bulk_length elems
          have h2 := bulk_length spare
          rw [Nat.mul_comm]
          exact Nat.mul_le_mul h.1 (by omega)
        · obtain ⟨x, hx, hz⟩ := mem_all hz
          exact mono (ih e x h.2 z hz) (by have := bulk_part hx; omega)
        · obtain ⟨x, hx, hz⟩ := mem_all hz
          exact mono (ih e x h.2 z hz) (by have := bulk_part hx; omega)
      · cases hz
    | agg parts =>
      simp only [DataW.weights] at hz
      have hb : Rows.uptoBulk (.agg parts : DataW H) = Rows.uptoBulkAll parts + 1 := by simp [Rows.uptoBulk]
      rw [hb]
      split at hz
      · rename_i fs he
        simp only [slB, he, List.all_eq_true] at h
        obtain ⟨t', ht, x, hx, hz⟩ := mem_each hz
        obtain ⟨f, hf, rfl⟩ := List.mem_map.1 ht
        exact mono (ih f.type x (h f hf) z hz) (by have := bulk_part hx; omega)
      · rename_i e he
        simp only [slB, he] at h
        obtain ⟨x, hx, hz⟩ := mem_all hz
        exact mono (ih _ x h z hz) (by have := bulk_part hx; omega)
      · cases hz
    | iface t d => simp [DataW.weights] at hz
    | map entries =>
      simp only [DataW.weights] at hz
      split at hz
      · rename_i k e he
        simp [slB, he] at h
      · cases hz
    | held h => simp [DataW.weights] at hz

theorem small_le {H : Type} {l : List (DataW H)} (hk : Rows.uptoSmall H l = true) : Rows.uptoBulkAll l ≤ 1048576 := by
  have := of_decide_eq_true hk
  simpa only using this

/- the listed variables -/
theorem gErrS : P.globalNamed "strconv.ErrSyntax" = some 4 := by kernel_rfl
theorem gErrR : P.globalNamed "strconv.ErrRange" = some 5 := by kernel_rfl
theorem rowErr (u : TypeId) (h : P.typeName? 3 u = some "*errors.errorString") : u = 142 :=
  typeName_ptr_named (nm := "errors.errorString") (by rw [show "*" ++ "errors.errorString" = "*errors.errorString" by decide]; kernel_rfl) (by kernel_rfl) (by decide) u (by rw [show "*" ++ "errors.errorString" = "*errors.errorString" by decide]; exact h)

theorem row_of_var {W : World} {n : String} {g : Nat} {cs : Array Value} (hg : P.globalNamed n = some g) (h : W.var? P n = some cs) : ∃ e fz, W.heap[g]? = some (.cells cs e fz) := by
  unfold World.var? at h
  rw [hg] at h
  simp only [Option.bind_some] at h
  split at h
  · rename_i c e fz hc
    cases h
    exact ⟨e, fz, hc⟩
  · cases h
theorem row_of_cell {W : World} {g : Nat} {v : Value} (h : W.cell? ⟨g, 0, none⟩ = some v) : ∃ C e fz, W.heap[g]? = some (.cells C e fz) ∧ C[0]? = some v := by
  unfold World.cell? at h
  cases hc : W.heap[g]? with
  | none => simp [hc] at h
  | some o =>
    rw [hc] at h
    cases o <;> simp_all

/-- The seven that each row of this seat lists. -/
def seven : List (String × DataW Unit) := [("math/bits.deBruijn32tab", Rows.laid_math_bits_deBruijn32tab), ("math/bits.deBruijn64tab", Rows.laid_math_bits_deBruijn64tab), ("internal/strconv.uint64pow10", Rows.laid_internal_strconv_uint64pow10), ("unicode/utf8.acceptRanges", Rows.laid_unicode_utf8_acceptRanges), ("strconv.ErrRange", Rows.laid_strconv_ErrRange), ("strconv.ErrSyntax", Rows.laid_strconv_ErrSyntax), ("unicode/utf8.first", Rows.laid_unicode_utf8_first)]
theorem globsOk {W : World} (hL : laidMetH P seven W) (hsh : W.ShapedOpen P) : GlobsOk W gs := by
  rw [MakeChecks.laidMetH_plain _ _ _ (by kernel_rfl)] at hL
  have h3 := hL.tail.tail
  have t1 : Lib.TabIs P W "internal/strconv.uint64pow10" .u64 Lib.pow10Tab :=
    Lib.tabIs_of_head (t := 129) (e := 78) (n := 20) gPow (by kernel_rfl) (by kernel_rfl) (by kernel_rfl) (by kernel_rfl) (by kernel_rfl) h3
  have h5 := h3.tail.tail
  obtain ⟨a1, s1, v1, _, _, _⟩ := laid_sentinel (ti := 43) (tp := 142) (te := 144) (ts := 9) h5 gErrR (by kernel_rfl) Tryz.underlying43 rowErr Tryz.underlying142 Tryz.underlying144 rfl rfl (by kernel_rfl) (by kernel_rfl) (by kernel_rfl)
  have h6 := h5.tail
  obtain ⟨a2, s2, v2, _, _, _⟩ := laid_sentinel (ti := 43) (tp := 142) (te := 144) (ts := 9) h6 gErrS (by kernel_rfl) Tryz.underlying43 rowErr Tryz.underlying142 Tryz.underlying144 rfl rfl (by kernel_rfl) (by kernel_rfl) (by kernel_rfl)
  obtain ⟨n, hn⟩ := cell_of_shapedOpen_int (P := P) (g := 2) (t := 3) (zero := #[.int .i64 0]) (k := .i64) hsh (of_decide_eq_true (by kernel_rfl)) (by kernel_rfl) rfl (by kernel_rfl) (by kernel_rfl) (by kernel_rfl)
  intro p hp
  simp only [gs, List.mem_cons, List.not_mem_nil, or_false] at hp
  rcases hp with rfl | rfl | rfl | rfl
  · obtain ⟨e, fz, hc⟩ := row_of_var gPow t1
    exact ⟨_, e, fz, hc, rfl⟩
  · obtain ⟨e, fz, hc⟩ := row_of_var gErrS v2
    exact ⟨_, e, fz, hc, _, rfl, .inr ⟨_, _, rfl⟩⟩
  · obtain ⟨e, fz, hc⟩ := row_of_var gErrR v1
    exact ⟨_, e, fz, hc, _, rfl, .inr ⟨_, _, rfl⟩⟩
  · obtain ⟨C, e, fz, hc, h0⟩ := row_of_cell hn
    exact ⟨C, e, fz, hc, n, h0⟩
end Go.Fx.Tryz
