/- The library's functions that are met by the shelf's contracts: strconv.FormatInt, Itoa, ParseInt at base 10, strings.ReplaceAll. -/
import Derived.Test.YtgmkehbebpljjaaGreatDoorChecked
import Derived.Test.YtgmkehbebpljjaaGreatDoorShelf
import Derived.Test.YtgmkehbebpljjaaGreatDoorFxHook
import Derived.Test.YtgmkehbebpljjaaGreatDoorFxRange
import Derived.Test.YtgmkehbebpljjaaGreatDoorFxDec
import Derived.Lib.LaidTab
import Derived.KernelRfl
namespace Go.Fx.Tryz
open Go Go.Fx Go.Proofs Go.RowKit
set_option linter.unusedVariables false

noncomputable abbrev P : Program := Tryz.prog
theorem mixed : P.follows .mixedOrders = true := by kernel_rfl
theorem gPow : P.globalNamed "internal/strconv.uint64pow10" = some 3 := by kernel_rfl

/-- The listed variables, by their places. -/
def gs : List (Nat × GKind) := [(3, .tab (Lib.pow10Tab.map fun z => Value.int .u64 z)), (4, .err), (5, .err), (2, .num)]
def pow10At (m : Mem) : Prop := m.get 0 = some ⟨.glob 3 (.tab (Lib.pow10Tab.map fun z => Value.int .u64 z)), true, none⟩
/-- The listed variables lie in memory. -/
structure Globs (m : Mem) : Prop where
  pow : pow10At m
  syn : m.get 1 = some ⟨.glob 4 .err, true, none⟩
  ran : m.get 2 = some ⟨.glob 5 .err, true, none⟩
  len : m.get 3 = some ⟨.glob 2 .num, true, none⟩
  low : 4 ≤ m.next
theorem globs_of {m : Mem} (h : (globMem gs).sub m) : Globs m :=
  ⟨h.1 _ _ (globMem_get gs 0 _ rfl), h.1 _ _ (globMem_get gs 1 _ rfl), h.1 _ _ (globMem_get gs 2 _ rfl), h.1 _ _ (globMem_get gs 3 _ rfl), h.2⟩
theorem Globs.keep {m m' : Mem} (h : Globs m) (hk : ∀ b, b < 4 → m'.get b = m.get b) (hn : m.next ≤ m'.next) : Globs m' :=
  ⟨(hk 0 (by omega)).trans h.pow, (hk 1 (by omega)).trans h.syn, (hk 2 (by omega)).trans h.ran, (hk 3 (by omega)).trans h.len, Nat.le_trans h.low hn⟩

theorem tabIs {φ : Ren} {m : Mem} {w : World} (hi : Inv φ m w) (h : pow10At m) : Lib.TabIs P w "internal/strconv.uint64pow10" .u64 Lib.pow10Tab := by
  obtain ⟨C, e, fz, hC, hk⟩ := hi.glob h
  unfold Lib.TabIs World.var?
  rw [gPow]
  simp only [Option.bind_some, hC]
  rw [show C = _ from hk]
theorem errAt {φ : Ren} {m : Mem} {w : World} (hi : Inv φ m w) {b g : Nat} (h : m.get b = some ⟨.glob g .err, true, none⟩) : ∃ ev, w.cell? ⟨g, 0, none⟩ = some ev ∧ (ev = .nilIface ∨ ∃ te pe, ev = .iface te pe) := by
  obtain ⟨C, e, fz, hC, v, hv, hk⟩ := hi.glob h
  exact ⟨v, by rw [cell?_of_heap hC]; exact hv, hk⟩
theorem numAt {φ : Ren} {m : Mem} {w : World} (hi : Inv φ m w) {b g : Nat} (h : m.get b = some ⟨.glob g .num, true, none⟩) : ∃ n, w.cell? ⟨g, 0, none⟩ = some (.int .i64 n) := by
  obtain ⟨C, e, fz, hC, n, hn⟩ := hi.glob h
  exact ⟨n, by rw [cell?_of_heap hC]; exact hn⟩

theorem below_grow (w : World) (k : Nat) (os : Array Obj) : Below w.heap.size w (Sort.grow (w.drewN k) os) := by
  refine ⟨rfl, rfl, rfl, ?_, fun i hi => ?_⟩
  · show w.heap.size ≤ (w.heap ++ os).size
    simp
  · show (w.heap ++ os)[i]? = w.heap[i]?
    exact Array.getElem?_append_left hi

open Classical in
/-- strconv.FormatInt. -/
noncomputable def aFmt (l : List Value) (m : Mem) : Option (Value × Mem) := match l with
  | [.int .i64 n, .int .i64 10] => if pow10At m ∧ -9223372036854775808 ≤ n ∧ n ≤ 9223372036854775807 then some (.string ⟨(Lib.itoa n).toArray⟩, m) else none
  | _ => none
theorem ok_fmt {l : List Value} {m m' : Mem} {v : Value} (h : aFmt l m = some (v, m')) {φ : Ren} {w : World} {ARGS : Array Value} (hi : Inv φ m w) (ha : VRs φ l ARGS.toList) : Calls1 P φ m w 55 ARGS v m' := by
  unfold aFmt at h
  split at h
  · rename_i n
    split at h
    · rename_i hc
      cases h
      obtain ⟨A, B, rfl, hA, hB⟩ := ha.two
      cases hA; cases hB
      refine calls1_below hi (.string _) ((Any.strconv_FormatInt_10 Tryz.laysM173 n hc.2.1 hc.2.2 w (tabIs hi hc.1)).mono ?_)
      rintro e w' ⟨rfl, k, os, rfl⟩
      exact ⟨rfl, below_grow w k os⟩
    · cases h
  · cases h

open Classical in
/-- strconv.Itoa. -/
noncomputable def aItoa (l : List Value) (m : Mem) : Option (Value × Mem) := match l with
  | [.int .i64 n] => if pow10At m ∧ -9223372036854775808 ≤ n ∧ n ≤ 9223372036854775807 then some (.string ⟨(Lib.itoa n).toArray⟩, m) else none
  | _ => none
theorem ok_itoa {l : List Value} {m m' : Mem} {v : Value} (h : aItoa l m = some (v, m')) {φ : Ren} {w : World} {ARGS : Array Value} (hi : Inv φ m w) (ha : VRs φ l ARGS.toList) : Calls1 P φ m w 32 ARGS v m' := by
  unfold aItoa at h
  split at h
  · rename_i n
    split at h
    · rename_i hc
      cases h
      obtain ⟨A, rfl, hA⟩ := ha.one'
      cases hA
      refine calls1_below hi (.string _) ((Any.strconv_Itoa Tryz.laysM171 n hc.2.1 hc.2.2 w (tabIs hi hc.1)).mono ?_)
      rintro e w' ⟨rfl, k, os, rfl⟩
      exact ⟨rfl, below_grow w k os⟩
    · cases h
  · cases h

noncomputable def tNumErr : TypeId := Tryz.laysC174_ren.t 168
open Classical in
/-- strconv.ParseInt: a number, or an error that is a new block's. -/
noncomputable def aParse (l : List Value) (m : Mem) : Option (Value × Mem) := match l with
  | [.string s, .int .i64 10, .int .i64 64] => if Globs m ∧ s.size ≤ 281474976710656 then
      match Lib.parseIntB 64 s.data.toList with
      | .ok v => some (.tuple #[.int .i64 v, .nilIface], m)
      | .range => some (.tuple #[.int .i64 (Lib.intSat 64 s.data.toList), .iface tNumErr (.pointer (some ⟨m.next, 0, none⟩))], m.add ⟨.cells [] 0, true, none⟩)
      | _ => some (.tuple #[.int .i64 0, .iface tNumErr (.pointer (some ⟨m.next, 0, none⟩))], m.add ⟨.cells [] 0, true, none⟩)
    else none
  | _ => none
theorem VRs.three {φ : Ren} {a b c : Value} {ARGS : Array Value} (h : VRs φ [a, b, c] ARGS.toList) : ∃ A B C, ARGS = #[A, B, C] ∧ VR φ a A ∧ VR φ b B ∧ VR φ c C := by
  obtain ⟨l⟩ := ARGS
  obtain ⟨h1, h2⟩ := h
  match l, h1 with
  | [A, B, C], _ => exact ⟨A, B, C, rfl, h2 0 a A rfl rfl, h2 1 b B rfl rfl, h2 2 c C rfl rfl⟩
theorem ok_parse {l : List Value} {m m' : Mem} {v : Value} (h : aParse l m = some (v, m')) {φ : Ren} {w : World} {ARGS : Array Value} (hi : Inv φ m w) (ha : VRs φ l ARGS.toList) : Calls1 P φ m w 66 ARGS v m' := by
  unfold aParse at h
  split at h
  · rename_i s
    split at h
    · rename_i hc
      obtain ⟨hg, hs⟩ := hc
      obtain ⟨A, B, C, rfl, hA, hB, hC⟩ := VRs.three ha
      cases hA; cases hB; cases hC
      have tup : ∀ {ψ : Ren} {x : Int} {N b : Nat}, ψ b = some ⟨N, 0, none, 0⟩ → VR ψ (.tuple #[.int .i64 x, .iface tNumErr (.pointer (some ⟨b, 0, none⟩))]) (.tuple #[.int .i64 x, .iface tNumErr (.pointer (some ⟨N, 0, none⟩))]) := by
        intro ψ x N b hb
        have := VRs.tuple (VRs.cons (.int .i64 x) (VRs.cons (.iface tNumErr _ _ (VR.ptr b 0 _ hb)) (VRs.nil ψ)))
        simpa using this
      split at h
      · rename_i x hx
        cases h
        have hv : VR φ (.tuple #[.int .i64 x, .nilIface]) (.tuple #[.int .i64 x, .nilIface]) := by
          have := VRs.tuple (VRs.cons (.int .i64 x) (VRs.cons .nilIface (VRs.nil φ)))
          simpa using this
        refine calls1_below hi hv ((Any.strconv_ParseInt_10_at64_ok Tryz.laysC174 s (by omega) x hx w).mono ?_)
        rintro e w' ⟨rfl, hw⟩
        refine ⟨rfl, ?_⟩
        rcases hw with rfl | ⟨t, rfl⟩
        · exact Below.refl _ _
        · refine ⟨rfl, rfl, rfl, ?_, fun i hi => ?_⟩
          · unfold Lib.bytesWorld World.freeze
            split <;> simp
          · unfold Lib.bytesWorld World.freeze
            split
            · exact Below.heap_alloc w _ i hi
            · simp only [Array.getElem?_modify]
              rw [if_neg (by omega)]
              exact Below.heap_alloc w _ i hi
      · rename_i hx
        cases h
        obtain ⟨ev, hv, hev⟩ := errAt hi hg.ran
        refine calls1_new hi ((Any.strconv_ParseInt_10_at64_range Tryz.laysC174 s hs hx ev w hv hev).mono ?_)
        rintro e w' ⟨N, rfl, hN, hC, hb⟩
        exact ⟨N, _, _, _, _, rfl, hN, hC, hb, fun ψ hψ => tup hψ⟩
      · rename_i hx1 hx2
        cases h
        obtain ⟨ev, hv, hev⟩ := errAt hi hg.syn
        refine calls1_new hi ((Any.strconv_ParseInt_10_at64_syntax Tryz.laysC174 s hs (by
            rcases hp : Lib.parseIntB 64 s.data.toList with v | _ | _
            · exact absurd hp (hx1 v)
            · rfl
            · exact absurd hp hx2) ev w hv hev).mono ?_)
        rintro e w' ⟨N, rfl, hN, hC, hb⟩
        exact ⟨N, _, _, _, _, rfl, hN, hC, hb, fun ψ hψ => tup hψ⟩
    · cases h
  · cases h

open Classical in
/-- strings.ReplaceAll. -/
noncomputable def aRepl (l : List Value) (m : Mem) : Option (Value × Mem) := match l with
  | [.string s, .string o, .string n] => if m.get 3 = some ⟨.glob 2 .num, true, none⟩ ∧ s.size < 4294967281 ∧ 1 ≤ o.size ∧ s.size + Lib.countB s o * n.size ≤ 140737488355328 then
      some (.string ⟨(Lib.replaceAll s.data.toList o.data.toList n.data.toList).toArray⟩, m) else none
  | _ => none
theorem ok_repl {l : List Value} {m m' : Mem} {v : Value} (h : aRepl l m = some (v, m')) {φ : Ren} {w : World} {ARGS : Array Value} (hi : Inv φ m w) (ha : VRs φ l ARGS.toList) : Calls1 P φ m w 71 ARGS v m' := by
  unfold aRepl at h
  split at h
  · rename_i s o n
    split at h
    · rename_i hc
      cases h
      obtain ⟨hg, h1, h2, h3⟩ := hc
      obtain ⟨A, B, C, rfl, hA, hB, hC⟩ := VRs.three ha
      cases hA; cases hB; cases hC
      obtain ⟨k, hk⟩ := numAt hi hg
      exact calls1_below hi (.string _) (Any.strings_ReplaceAll Tryz.lays155 Tryz.extra155 s o n k w h1 hk h2 h3)
    · cases h
  · cases h

theorem ynum (N k : Nat) (hk : k < 1000) : ¬ (yBase + N : FuncId) = k := by
  intro h
  have h1 : yBase + N = k := h
  have h2 : 1000 < yBase := by decide
  omega

/-- The hooks. -/
noncomputable def S1 : CallF := fun f l m => if f = 55 then aFmt l m else if f = 32 then aItoa l m else if f = 66 then aParse l m else if f = 71 then aRepl l m else none
theorem S1ok : CallOk P S1 := by
  refine ⟨fun f args m v m' hf h φ w ARGS hi ha => ?_, fun N args m v m' h => ?_⟩
  · unfold S1 at h
    split at h
    · rename_i e; subst e; exact ok_fmt h hi ha
    · split at h
      · rename_i e; subst e; exact ok_itoa h hi ha
      · split at h
        · rename_i e; subst e; exact ok_parse h hi ha
        · split at h
          · rename_i e; subst e; exact ok_repl h hi ha
          · cases h
  · unfold S1 at h
    rw [if_neg (ynum N _ (by decide)), if_neg (ynum N _ (by decide)), if_neg (ynum N _ (by decide)), if_neg (ynum N _ (by decide))] at h
    cases h
theorem S1good : ∀ f args m r, f < yBase → S1 f args m = some r → goodFn P f = true := by
  intro f args m r _ h
  unfold S1 at h
  split at h
  · rename_i e; subst e; kernel_rfl
  · split at h
    · rename_i e; subst e; kernel_rfl
    · split at h
      · rename_i e; subst e; kernel_rfl
      · split at h
        · rename_i e; subst e; kernel_rfl
        · cases h

/-- The table: all but text.Read, which holds a range over a function. -/
noncomputable def tab : Tab := fun f => bif Nat.beq f 10 then none else tabP P f
theorem tabOk : TabOk P tab := by
  intro f x h
  unfold tab at h
  cases hb : Nat.beq f 10 with
  | true => rw [hb] at h; cases h
  | false => rw [hb] at h; simp only [cond_false] at h; exact tabP_ok P f x h
theorem tabGood : ∀ f x, tab f = some x → goodFn P f = true := by
  intro f x h
  unfold tab at h
  cases hb : Nat.beq f 10 with
  | true => rw [hb] at h; cases h
  | false => rw [hb] at h; simp only [cond_false] at h; exact tabP_good P f x h

/-- text.Read, a range over a function in it. -/
noncomputable def xRead : XFunc := (compXF P 10).getD ⟨0, .range (.tmp 0) [] .skip .skip, []⟩
theorem xRead_eq : compXF P 10 = some xRead := by
  have h : (compXF P 10).isSome = true := by kernel_rfl
  obtain ⟨x, hx⟩ := Option.isSome_iff_exists.1 h
  unfold xRead
  rw [hx]; rfl
noncomputable def S : CallF := fun f l m => if f = 10 then bodyX P S1 tab xRead l m else S1 f l m
theorem Sok : CallOk P S := by
  refine ⟨fun f args m v m' hf h φ w ARGS hi ha => ?_, fun N args m v m' h => ?_⟩
  · unfold S at h
    split at h
    · rename_i e; subst e
      exact sound_bodyX mixed S1ok S1good tabOk tabGood xRead_eq h hi ha
    · exact S1ok.fn f args m v m' hf h φ w ARGS hi ha
  · unfold S at h
    rw [if_neg (ynum N _ (by decide))] at h
    exact S1ok.yl N args m v m' h
theorem Sgood : ∀ f args m r, f < yBase → S f args m = some r → goodFn P f = true := by
  intro f args m r hf h
  unfold S at h
  split at h
  · rename_i e; subst e; kernel_rfl
  · exact S1good f args m r hf h
theorem S_le : LeC (Call S1 tab) (Call S tab) := by
  refine Call_ext (fun f a m r h => ?_) (fun f hf a m r h => ?_)
  · unfold S
    split
    · rename_i e; subst e
      unfold S1 at h
      rw [if_neg (by decide), if_neg (by decide), if_neg (by decide), if_neg (by decide)] at h
      cases h
    · exact h
  · unfold S at h
    split at h
    · rename_i e; subst e
      simp [tab] at hf
    · exact h
end Go.Fx.Tryz
