/- The keys of a map as the library's contracts want them; a row that the library hands back. -/
import Derived.Test.YtnngjdfadfblmaaGreatDoorFxHook
import Derived.Sort.KeysCollected
import Derived.Lib.SlKeysI
namespace Go.Fx
open Go Go.RowKit

/- sorting, by insertion -/
def leb : List UInt8 → List UInt8 → Bool
  | [], _ => true
  | _ :: _, [] => false
  | a :: x, b :: y => if a.toNat < b.toNat then true else if a.toNat = b.toNat then leb x y else false
theorem leb_iff : ∀ x y : List UInt8, leb x y = true ↔ x ≤ y
  | [], y => by simp [leb]
  | a :: x, [] => by simp [leb, ← List.not_lt]
  | a :: x, b :: y => by
    have ih := leb_iff x y
    simp only [leb]
    rw [← List.not_lt, List.cons_lt_cons_iff]
    have e1 : (b < a) ↔ b.toNat < a.toNat := UInt8.lt_iff_toNat_lt
    have e2 : b = a ↔ b.toNat = a.toNat := UInt8.toNat_inj.symm
    rw [e1, e2]
    split
    · rename_i h; simp; omega
    · split
      · rename_i h1 h2
        rw [ih, ← List.not_lt]
        constructor
        · rintro h (h3 | ⟨_, h3⟩)
          · omega
          · exact h h3
        · intro h h3; exact h (.inr ⟨h2.symm, h3⟩)
      · rename_i h1 h2; simp; omega

def insG {α : Type} (le : α → α → Bool) (x : α) : List α → List α
  | [] => [x]
  | y :: r => match le x y with
    | true => x :: y :: r
    | false => y :: insG le x r
def sortG {α : Type} (le : α → α → Bool) : List α → List α
  | [] => []
  | x :: r => insG le x (sortG le r)
theorem insG_perm {α : Type} (le : α → α → Bool) (x : α) : ∀ l : List α, (insG le x l).Perm (x :: l)
  | [] => .refl _
  | y :: r => by
    simp only [insG]
    split
    · exact .refl _
    · exact ((insG_perm le x r).cons y).trans (.swap x y r)
theorem sortG_perm {α : Type} (le : α → α → Bool) : ∀ l : List α, (sortG le l).Perm l
  | [] => .refl _
  | x :: r => (insG_perm le x _).trans ((sortG_perm le r).cons x)
theorem insG_pw {α : Type} {le : α → α → Bool} (tr : ∀ a b c, le a b = true → le b c = true → le a c = true) (to : ∀ a b, (le a b || le b a) = true) (x : α) : ∀ l : List α, l.Pairwise (fun a b => le a b = true) → (insG le x l).Pairwise (fun a b => le a b = true)
  | [], _ => by simp [insG]
  | y :: r, h => by
    obtain ⟨h1, h2⟩ := List.pairwise_cons.1 h
    simp only [insG]
    split
    · rename_i hxy
      refine List.pairwise_cons.2 ⟨fun z hz => ?_, h⟩
      rcases List.mem_cons.1 hz with rfl | hz
      · exact hxy
      · exact tr _ _ _ hxy (h1 z hz)
    · rename_i hxy
      refine List.pairwise_cons.2 ⟨fun z hz => ?_, insG_pw tr to x r h2⟩
      rcases List.mem_cons.1 ((insG_perm le x r).mem_iff.1 hz) with rfl | hz
      · have := to y z
        rw [hxy] at this
        simpa using this
      · exact h1 z hz
theorem sortG_pw {α : Type} {le : α → α → Bool} (tr : ∀ a b c, le a b = true → le b c = true → le a c = true) (to : ∀ a b, (le a b || le b a) = true) : ∀ l : List α, (sortG le l).Pairwise (fun a b => le a b = true)
  | [] => by simp [sortG]
  | x :: r => insG_pw tr to x _ (sortG_pw tr to r)
theorem sortG_eq {α : Type} {le : α → α → Bool} (tr : ∀ a b c, le a b = true → le b c = true → le a c = true) (to : ∀ a b, (le a b || le b a) = true) (anti : ∀ a b, le a b = true → le b a = true → a = b) {l l' : List α} (h : l.Perm l') : l.mergeSort le = sortG le l' :=
  List.Perm.eq_of_pairwise (le := fun a b => le a b = true) (fun a b _ _ h1 h2 => anti a b h1 h2) (List.pairwise_mergeSort tr to l) (sortG_pw tr to l') (((List.mergeSort_perm l le).trans h).trans (sortG_perm le l').symm)
theorem sortB_eq {l l' : List (List UInt8)} (h : l.Perm l') : l.mergeSort (fun x y => decide (x ≤ y)) = sortG leb l' := by
  have e : (fun x y : List UInt8 => decide (x ≤ y)) = leb := by
    funext x y
    rw [Bool.eq_iff_iff, leb_iff, decide_eq_true_eq]
  rw [e]
  refine sortG_eq (fun a b c h1 h2 => ?_) (fun a b => ?_) (fun a b h1 h2 => ?_) h
  · rw [leb_iff] at *; exact List.le_trans h1 h2
  · rw [Bool.or_eq_true, leb_iff, leb_iff]; exact List.le_total a b
  · rw [leb_iff] at *; exact List.le_antisymm h1 h2
def leZ (x y : Int) : Bool := decide (x ≤ y)
theorem sortZ_eq {l l' : List Int} (h : l.Perm l') : l.mergeSort (fun x y => decide (x ≤ y)) = sortG leZ l' := by
  refine sortG_eq (le := leZ) (fun a b c h1 h2 => ?_) (fun a b => ?_) (fun a b h1 h2 => ?_) h
  · simp only [leZ, decide_eq_true_eq] at *; omega
  · simp only [leZ, Bool.or_eq_true, decide_eq_true_eq]; omega
  · simp only [leZ, decide_eq_true_eq] at *; omega

/- keys -/
def keysS : List MapEntry → Option (List (List UInt8))
  | [] => some []
  | x :: r => match x.key, keysS r with
    | .string s, some l => some (s.data.toList :: l)
    | _, _ => none
def keysZ : List MapEntry → Option (List Int)
  | [] => some []
  | x :: r => match x.key, keysZ r with
    | .int .i64 n, some l => some (n :: l)
    | _, _ => none
def nodupB {α : Type} (eq : α → α → Bool) : List α → Bool
  | [] => true
  | x :: r => r.all (fun y => !eq x y) && nodupB eq r
theorem nodupB_iff {α : Type} {eq : α → α → Bool} (he : ∀ a b, eq a b = true ↔ a = b) : ∀ l : List α, nodupB eq l = true → l.Nodup
  | [], _ => List.nodup_nil
  | x :: r, h => by
    simp only [nodupB, Bool.and_eq_true, List.all_eq_true, Bool.not_eq_true'] at h
    refine List.nodup_cons.2 ⟨fun hx => ?_, nodupB_iff he r h.2⟩
    have := h.1 x hx
    rw [(he x x).2 rfl] at this
    cases this
def bornOk (es : List MapEntry) (clock : Nat) : Bool := es.all (fun x => Nat.blt x.born clock) && nodupB Nat.beq (es.map (·.born))
def eqB (x y : List UInt8) : Bool := leb x y && leb y x
theorem eqB_iff (x y : List UInt8) : eqB x y = true ↔ x = y := by
  unfold eqB
  rw [Bool.and_eq_true, leb_iff, leb_iff]
  exact ⟨fun h => List.le_antisymm h.1 h.2, fun h => by subst h; exact ⟨List.le_refl _, List.le_refl _⟩⟩
def eqZ (x y : Int) : Bool := decide (x = y)

theorem keysS_map : ∀ (es : List MapEntry) (ks : List (List UInt8)), keysS es = some ks → es.map (·.key) = ks.map fun l => .string ⟨l.toArray⟩
  | [], ks, h => by cases h; rfl
  | x :: r, ks, h => by
    simp only [keysS] at h
    split at h
    · rename_i s l h1 h2
      cases h
      rw [List.map_cons, List.map_cons, keysS_map r l h2, h1]
    · cases h
theorem keysZ_map : ∀ (es : List MapEntry) (ks : List Int), keysZ es = some ks → es.map (·.key) = ks.map fun n => .int .i64 n
  | [], ks, h => by cases h; rfl
  | x :: r, ks, h => by
    simp only [keysZ] at h
    split at h
    · rename_i s l h1 h2
      cases h
      rw [List.map_cons, List.map_cons, keysZ_map r l h2, h1]
    · cases h

theorem EsR.keys {φ : Ren} {es ES : List MapEntry} (h : EsR φ es ES) : es.map (·.key) = ES.map (·.key) ∧ es.map (·.born) = ES.map (·.born) := by
  obtain ⟨hl, ha⟩ := h
  constructor
  · refine List.ext_getElem (by simp [hl]) fun i h1 h2 => ?_
    simp only [List.length_map] at h1 h2
    simpa using (ha i _ _ (List.getElem?_eq_getElem h1) (List.getElem?_eq_getElem h2)).1
  · refine List.ext_getElem (by simp [hl]) fun i h1 h2 => ?_
    simp only [List.length_map] at h1 h2
    simpa using (ha i _ _ (List.getElem?_eq_getElem h1) (List.getElem?_eq_getElem h2)).2.1

abbrev RU : Value → Option (DataW Unit × List MemPlace) := fun _ => some (.nil, [])

theorem owns_keys {P : Program} {φ : Ren} {m : Mem} {w : World} (hi : Inv φ m w) {mb : Nat} {es : List MapEntry} {clock : Nat} {ro : Bool} {lo : Option Nat} {lm : Loc} (hg : m.get mb = some ⟨.map es clock, ro, lo⟩) (hl : φ mb = some lm) {k : TypeId}
    (f : Value → Lit) (hk : ∀ x ∈ es, keyOf P k x.key = some (f x.key)) (hlen : es.length ≤ 1000000) (hb : bornOk es clock = true) (hnd : (es.map (·.key)).Nodup) :
    ∃ D : List (Lit × DataW Unit), w.ownsMap P k RU lm.blk es.length (.map D) ∧ (D.map (·.1)).Perm (es.map fun x => f x.key) := by
  obtain ⟨l', hl', _, ES, hE, hR⟩ := hi.live mb _ hg
  rw [hl] at hl'; cases hl'
  obtain ⟨k1, k2⟩ := hR.keys
  have hkE : ∀ x ∈ ES.toList, keyOf P k x.key = some (f x.key) := by
    intro x hx
    have : x.key ∈ ES.toList.map (·.key) := List.mem_map.2 ⟨x, hx, rfl⟩
    rw [← k1] at this
    obtain ⟨y, hy, e⟩ := List.mem_map.1 this
    rw [← e]; exact hk y hy
  have hsz : ES.size = es.length := by have := hR.1; simpa using this.symm
  have hrd : ∀ x ∈ ES.toList, Go.WideElems.rd P k RU x = some (f x.key, .nil) := fun x hx => by simp [Go.WideElems.rd, hkE x hx]
  have hst : Go.MapKept.Stamped ES clock := by
    simp only [bornOk, Bool.and_eq_true, List.all_eq_true] at hb
    refine ⟨fun x hx => ?_, ?_, ?_⟩
    · have : x.born ∈ ES.toList.map (·.born) := List.mem_map.2 ⟨x, hx, rfl⟩
      rw [← k2] at this
      obtain ⟨y, hy, e⟩ := List.mem_map.1 this
      have := hb.1 y hy
      rw [e] at this
      exact Nat.le_of_ble_eq_true this
    · rw [← k2]; exact nodupB_iff (fun a b => by rw [Nat.beq_eq]) _ hb.2
    · rw [← k1]; exact hnd
  refine ⟨_, ⟨ES, clock, hE, ⟨by rw [hsz]; unfold maxLen; omega, hst, fun x hx => ⟨_, hrd x hx⟩⟩, by rw [hsz]; exact Nat.le_refl _, rfl⟩, ?_⟩
  have h1 := (Go.WideShapes.sorted_perm (ES.toList.map (Go.WideElems.rg P k RU))).map (·.1)
  refine h1.trans ?_
  have h2 : (ES.toList.map (Go.WideElems.rg P k RU)).map (·.1) = es.map fun x => f x.key := by
    have e1 : (ES.toList.map (Go.WideElems.rg P k RU)).map (·.1) = (ES.toList.map (·.key)).map f := by
      rw [List.map_map, List.map_map]
      refine List.map_congr_left fun x hx => ?_
      simp [Go.WideElems.rg, hrd x hx]
    rw [e1, ← k1, List.map_map]; rfl
  rw [h2]

/-- A row that the library has made. -/
theorem Inv.addRow {φ : Ren} {m : Mem} {w : World} (h : Inv φ m w) {g : Nat} {cur : Array Value} {e : TypeId} (hg : w.heap[g]? = some (.cells cur e (0, 0))) (hall : ∀ b l, φ b = some l → l.blk ≠ g) (c : List Value) (s : Nat)
    (hc : ∀ (i : Nat) v, c[i]? = some v → ∃ V, cur[i]? = some V ∧ VR φ v V) :
    Inv (φ.set m.next ⟨g, 0, some s, cur.size⟩) (m.add ⟨.cells c e, false, some s⟩) w ∧ Ren.le φ (φ.set m.next ⟨g, 0, some s, cur.size⟩) := by
  have hle := Ren.le_set (l := ⟨g, 0, some s, cur.size⟩) h.fresh
  have hlt : g < w.heap.size := (Array.getElem?_eq_some_iff.1 hg).1
  refine ⟨⟨fun b y hy => ?_, fun b d y z k j hy hz hk hj hr hbd => ?_, fun b k hk => ?_⟩, hle⟩
  · rw [Mem.get_add] at hy
    by_cases eb : b = m.next
    · rw [if_pos eb] at hy; cases hy
      exact ⟨_, by rw [eb]; exact Ren.set_self .., ⟨⟨rfl, fun _ h => (by cases h)⟩, cur, e, (0, 0), hg, fun i v hv => by obtain ⟨V, hV, r⟩ := hc i v hv; exact ⟨V, by simpa using hV, r.mono hle⟩, (fun _ i _ h => by simp at h), fun _ _ => rfl, (fun s h => rfl), fun _ => rfl⟩⟩
    · rw [if_neg eb] at hy
      obtain ⟨k, hk, ok⟩ := h.live b y hy
      exact ⟨k, hle _ _ hk, ok.mono hle⟩
  · rw [Mem.get_add] at hy hz
    by_cases eb : b = m.next
    · rw [eb, Ren.set_self] at hk; cases hk
      rw [if_neg (fun h => hbd (eb.trans h.symm))] at hz
      rw [Ren.set_other _ _ (fun h => hbd (eb.trans h.symm))] at hj
      exact fun e => hall d j hj e.symm
    · rw [if_neg eb] at hy
      rw [Ren.set_other _ _ eb] at hk
      by_cases ed : d = m.next
      · rw [ed, Ren.set_self] at hj; cases hj
        exact hall b k hk
      · rw [if_neg ed] at hz
        rw [Ren.set_other _ _ ed] at hj
        exact h.apart b d y z k j hy hz hk hj hr hbd
  · rw [Mem.next_add]
    by_cases eb : b = m.next
    · rw [eb, Ren.set_self] at hk; cases hk
      exact ⟨by omega, hlt⟩
    · rw [Ren.set_other _ _ eb] at hk
      have := h.below b k hk
      exact ⟨by omega, this.2⟩

/-- .. as what a call hands back. -/
theorem calls1_row {P : Program} {φ : Ren} {m : Mem} {w : World} {f : FuncId} {args : Array Value} {e : TypeId} {s n : Nat} {c : List Value} (hi : Inv φ m w) (hp : c.all plain = true)
    (h : Calls P f args w fun E w' => ∃ g cap cur, E = .returned (.slice (some ⟨g, 0, none⟩) n cap) ∧ w.heap.size ≤ g ∧ w'.heap[g]? = some (.cells cur e (0, 0)) ∧ n ≤ cap ∧ cur.size = cap * s ∧ cur.toList.take (n * s) = c ∧ Below w.heap.size w w') :
    Calls1 P φ m w f args (.slice (some ⟨m.next, 0, none⟩) n n) (m.add ⟨.cells c e, false, some s⟩) := by
  refine h.mono ?_
  rintro E w' ⟨g, cap, cur, rfl, hg, hC, hn, hcs, hct, hb⟩
  obtain ⟨h1, h2⟩ := hi.belowed hb
  obtain ⟨h3, h4⟩ := h1.addRow hC (fun b l hl => by have := hi.blk_lt hl; omega) c s (fun i v hv => by
    have hpv : Fx.plain v = true := List.all_eq_true.1 hp v (List.mem_of_getElem? hv)
    rw [← hct, List.getElem?_take] at hv
    split at hv
    · exact ⟨v, by simpa using hv, by have := (VRs.plain (φ := φ) (l := [v]) (by simp [hpv])).2 0 v v rfl rfl; exact this⟩
    · cases hv)
  refine ⟨_, _, rfl, .sliceLoose m.next 0 n n 0 cap s ⟨g, 0, some s, cur.size⟩ (Ren.set_self ..) rfl (fun _ => rfl) (Nat.le_refl _) hn (by rw [hcs]; simp), h3, ⟨h4, hb.size, h2.same, fun b x l hx hl hr => ?_, hb.os, hb.output, hb.tape, by simp, fun b hb' => Ren.set_other _ _ (by omega), fun b hb' hn => by rw [Mem.get_add, if_neg (by omega)]; exact hn, fun b x l hx hl => ?_⟩⟩
  · rw [Mem.get_add] at hx
    by_cases eb : b = m.next
    · rw [eb, Ren.set_self] at hl; cases hl; exact .inl hg
    · rw [if_neg eb] at hx
      rw [Ren.set_other _ _ eb] at hl
      exact .inr ⟨b, x, l, hx, hl, hr, rfl⟩
  · rw [Mem.get_add] at hx
    by_cases eb : b = m.next
    · rw [eb, Ren.set_self] at hl; cases hl; exact .inl hg
    · rw [if_neg eb] at hx
      rw [Ren.set_other _ _ eb] at hl
      exact .inr ⟨b, x, l, hx, hl, rfl⟩

end Go.Fx
