/- Maps whose keys are numbers or texts. -/
import Derived.Test.YtnngjdfadfblmaaGreatDoorFxOp
namespace Go.Fx
open Go
set_option linter.unusedSimpArgs false
set_option linter.unusedVariables false

/-- Another object in the place of one that is no row of cells. -/
theorem Inv.setObj {φ : Ren} {m : Mem} {w : World} (h : Inv φ m w) {b : Nat} {x : ABlk} {l : Loc} (hb : m.get b = some x) (hx : x.ro = false) (hl : φ b = some l) (y : ABlk) (O : Obj) (hy : y.ro = false)
    (ok : BlkOk φ { w with heap := w.heap.setIfInBounds l.blk O } y l) :
    Inv φ (m.put b y) { w with heap := w.heap.setIfInBounds l.blk O } ∧ Frm φ m w φ (m.put b y) { w with heap := w.heap.setIfInBounds l.blk O } := by
  have hoth : ∀ B, B ≠ l.blk → (w.heap.setIfInBounds l.blk O)[B]? = w.heap[B]? := fun B hB => by rw [Array.getElem?_setIfInBounds_ne (Ne.symm hB)]
  have hsz : (w.heap.setIfInBounds l.blk O).size = w.heap.size := Array.size_setIfInBounds ..
  refine ⟨⟨fun d z hz => ?_, fun d e z u k j hz hu hk hj hr hne => ?_, fun d k hk => by rw [show ({ w with heap := w.heap.setIfInBounds l.blk O } : World).heap.size = w.heap.size from hsz]; exact h.below d k hk⟩,
    ⟨Ren.le_refl φ, by rw [show ({ w with heap := w.heap.setIfInBounds l.blk O } : World).heap.size = w.heap.size from hsz]; exact Nat.le_refl _, fun B hB hno => hoth B (fun e => hno b x l hb hl hx e.symm), fun d z k hz hk hr => ?_, rfl, rfl, rfl, Nat.le_refl _, fun _ _ => rfl, fun d _ hn => ?_, fun d z k hz hk => ?_⟩⟩
  · rw [Mem.get_put] at hz
    by_cases e : d = b
    · rw [if_pos e] at hz; cases hz; subst e; exact ⟨l, hl, ok⟩
    · rw [if_neg e] at hz
      obtain ⟨k, hk, okk⟩ := h.live d z hz
      exact ⟨k, hk, okk.congr (hoth k.blk (fun e' => h.apart b d x z l k hb hz hl hk hx (Ne.symm e) e'.symm))⟩
  · rw [Mem.get_put] at hz hu
    have g : ∀ d (z : ABlk), (if d = b then some y else m.get d) = some z → ∃ z', m.get d = some z' ∧ (z.ro = false → z'.ro = false) := by
      intro d z hz
      by_cases e : d = b
      · rw [if_pos e] at hz; cases hz; exact ⟨x, by rw [e]; exact hb, fun _ => hx⟩
      · rw [if_neg e] at hz; exact ⟨z, hz, id⟩
    obtain ⟨z', hz', rz⟩ := g d z hz
    obtain ⟨u', hu', _⟩ := g e u hu
    exact h.apart d e z' u' k j hz' hu' hk hj (rz hr) hne
  · rw [Mem.get_put] at hz
    by_cases e : d = b
    · rw [e, hl] at hk; cases hk; exact .inr ⟨b, x, l, hb, hl, hx, rfl⟩
    · rw [if_neg e] at hz; exact .inr ⟨d, z, k, hz, hk, hr, rfl⟩
  · rw [Mem.get_put, if_neg (by rintro rfl; rw [hb] at hn; cases hn)]; exact hn
  · rw [Mem.get_put] at hz
    by_cases e : d = b
    · rw [e] at hk; exact .inr ⟨b, x, k, hb, hk, rfl⟩
    · rw [if_neg e] at hz; exact .inr ⟨d, z, k, hz, hk, rfl⟩

theorem ba_beq (a b : ByteArray) : (a == b) = true ↔ a = b := by
  cases a with | mk a => cases b with | mk b =>
  show (ByteArray.beq ⟨a⟩ ⟨b⟩) = true ↔ _
  simp [ByteArray.beq]
inductive KK where
  | int | str
  deriving DecidableEq
def kkT (P : Program) (t : TypeId) : Option KK := match P.underlying t with
  | some (.int _) => some .int
  | some .string => some .str
  | _ => none
def sameA : KK → Value → Value → Option Bool
  | .int, .int k a, .int k' b => if k = k' then some (a == b) else none
  | .str, .string a, .string b => some (a == b)
  | _, _, _ => none
def findA (kk : KK) (k : Value) : List MapEntry → Nat → Option (Option (Nat × Value))
  | [], _ => some none
  | e :: es, i => match sameA kk k e.key with
    | some true => some (some (i, e.val))
    | some false => findA kk k es (i + 1)
    | none => none
def Mem.mapAt (m : Mem) (b : Nat) : Option (List MapEntry × Nat) := match m.get b with
  | some ⟨.map es c, _, _⟩ => some (es, c)
  | _ => none
def Mem.ownMap (m : Mem) (b : Nat) : Option (List MapEntry × Nat × Option Nat) := match m.get b with
  | some ⟨.map es c, false, lo⟩ => some (es, c, lo)
  | _ => none
theorem Mem.mapAt_get {m : Mem} {b : Nat} {es : List MapEntry} {c : Nat} (h : m.mapAt b = some (es, c)) : ∃ ro lo, m.get b = some ⟨.map es c, ro, lo⟩ := by
  unfold Mem.mapAt at h
  split at h
  · rename_i es' c' ro lo hg; cases h; exact ⟨ro, lo, hg⟩
  · cases h
theorem Mem.ownMap_get {m : Mem} {b : Nat} {es : List MapEntry} {c : Nat} {lo : Option Nat} (h : m.ownMap b = some (es, c, lo)) : m.get b = some ⟨.map es c, false, lo⟩ := by
  unfold Mem.ownMap at h
  split at h
  · rename_i es' c' lo' hg; cases h; exact hg
  · cases h
theorem Inv.mapAt {φ : Ren} {m : Mem} {w : World} (h : Inv φ m w) {b : Nat} {es : List MapEntry} {c : Nat} {ro : Bool} {lo : Option Nat} {l : Loc} (hg : m.get b = some ⟨.map es c, ro, lo⟩) (hl : φ b = some l) : (l.loose = lo ∧ (ro = false → lo = none → l.base = 0)) ∧ ∃ ES, w.heap[l.blk]? = some (.map ES c) ∧ EsR φ es ES.toList := by
  obtain ⟨k, hk, h1, h2⟩ := h.live b _ hg
  rw [hl] at hk; cases hk
  exact ⟨h1, h2⟩

def runMakeM (m : Mem) : Value × Mem := (.map (some m.next), m.add ⟨.map [] 0, false, none⟩)
def runLenM (v : Value) (m : Mem) : Option Value := match v with
  | .map none => some (.int .i64 0)
  | .map (some b) => (m.mapAt b).map fun p => .int .i64 p.1.length
  | _ => none
def lookRes (ok : Bool) (v : Value) (t : Bool) : Value := if ok then .tuple #[v, .bool t] else v
def runLookup (kk : KK) (z : Value) (ok : Bool) (x k : Value) (m : Mem) : Option Value := match x with
  | .map none => (findA kk k [] 0).map fun _ => lookRes ok z false
  | .map (some b) => (m.mapAt b).bind fun p => (findA kk k p.1 0).map fun r => match r with
    | some (_, v) => lookRes ok v true
    | none => lookRes ok z false
  | _ => none
def keyOk : KK → Value → Bool
  | .int, .int _ _ => true
  | .str, .string _ => true
  | _, _ => false
def runMapUpd (kk : KK) (x k v : Value) (m : Mem) : Option Mem := match x with
  | .map (some b) => (m.ownMap b).bind fun p => if keyOk kk k = true then (findA kk k p.1 0).map fun r => match r with
    | some (i, _) => m.put b ⟨.map (p.1.modify i fun e => { e with val := v }) p.2.1, false, p.2.2⟩
    | none => m.put b ⟨.map (p.1 ++ [{ key := k, val := v, born := p.2.1 }]) (p.2.1 + 1), false, p.2.2⟩ else none
  | _ => none
def runDelM (kk : KK) (x k : Value) (m : Mem) : Option Mem := match x with
  | .map none => some m
  | .map (some b) => (m.ownMap b).bind fun p => (findA kk k p.1 0).map fun r => match r with
    | some (i, _) => m.put b ⟨.map (p.1.eraseIdx i) p.2.1, false, p.2.2⟩
    | none => m.put b ⟨.map p.1 p.2.1, false, p.2.2⟩
  | _ => none
def runClearM (x : Value) (m : Mem) : Option Mem := match x with
  | .map none => some m
  | .map (some b) => (m.ownMap b).map fun p => m.put b ⟨.map [] p.2.1, false, p.2.2⟩
  | _ => none

/- keys -/
theorem sameA_ok {P : Program} {φ : Ren} {t : TypeId} {kk : KK} (ht : kkT P t = some kk) {k K e : Value} {r : Bool} (hk : VR φ k K) (h : sameA kk k e = some r) : ∃ d, P.underlying t = some d ∧ Instr.sameNow d K e = some r := by
  unfold kkT at ht
  split at ht
  · rename_i kd hd
    cases ht
    refine ⟨_, hd, ?_⟩
    unfold sameA at h
    split at h
    · cases hk
      simpa [Instr.sameNow] using h
    · rename_i h0; cases h0
    · cases h
  · rename_i hd
    cases ht
    refine ⟨_, hd, ?_⟩
    unfold sameA at h
    split at h
    · rename_i h0; cases h0
    · cases hk
      simpa [Instr.sameNow] using h
    · cases h
  · cases ht

/-- What is found, held against the machine's. -/
def FR (φ : Ren) : Option (Nat × Value) → Option (Nat × Value) → Prop
  | none, none => True
  | some (i, v), some (j, V) => i = j ∧ VR φ v V
  | _, _ => False

theorem findA_ok {P : Program} {φ : Ren} {t : TypeId} {kk : KK} {d : TypeDesc} (ht : kkT P t = some kk) (hd : P.underlying t = some d) {k K : Value} (hk : VR φ k K) : ∀ (es ES : List MapEntry) (i : Nat) (r : Option (Nat × Value)), EsR φ es ES → findA kk k es i = some r →
    ∃ R, Instr.findNow d K ES i = some R ∧ FR φ r R
  | [], ES, i, r, he, h => by
    have : ES = [] := by have := he.1; simpa using this.symm
    subst this
    cases h
    exact ⟨none, rfl, trivial⟩
  | e :: es, [], i, r, he, h => by have := he.1; simp at this
  | e :: es, E :: ES, i, r, he, h => by
    obtain ⟨h1, h2, h3⟩ := he.2 0 e E rfl rfl
    have hr : EsR φ es ES := ⟨by have := he.1; simpa using this, fun j x y hx hy => he.2 (j + 1) x y (by simpa using hx) (by simpa using hy)⟩
    simp only [findA] at h
    split at h
    · rename_i hs
      cases h
      obtain ⟨d', hd', hs'⟩ := sameA_ok ht hk hs
      rw [hd] at hd'; cases hd'
      rw [h1] at hs'
      exact ⟨some (i, E.val), by simp [Instr.findNow, hs'], rfl, h3⟩
    · rename_i hs
      obtain ⟨d', hd', hs'⟩ := sameA_ok ht hk hs
      rw [hd] at hd'; cases hd'
      rw [h1] at hs'
      obtain ⟨R, g1, g2⟩ := findA_ok ht hd hk es ES (i + 1) r hr h
      exact ⟨R, by simp [Instr.findNow, hs', g1], g2⟩
    · cases h

theorem run_checkKeyN {P : Program} {w : World} {t : TypeId} {kk : KK} (ht : kkT P t = some kk) (e : Bool) (n : Nat) (K : Value) : (Instr.checkKey e (n + 1) t K).run P w = .ok () w := by
  unfold kkT at ht
  split at ht
  · rename_i kd hd; simp [Instr.checkKey, run_und hd]
  · rename_i hd; simp [Instr.checkKey, run_und hd]
  · cases ht
theorem run_checkKey {P : Program} {w : World} {t : TypeId} {kk : KK} (ht : kkT P t = some kk) (e : Bool) (K : Value) : (Instr.checkKey e 10000 t K).run P w = .ok () w := run_checkKeyN ht e 9999 K
theorem run_findKey {P : Program} {φ : Ren} {w : World} {t : TypeId} {kk : KK} (ht : kkT P t = some kk) {k K : Value} (hk : VR φ k K) {es ES : List MapEntry} {r : Option (Nat × Value)} (he : EsR φ es ES) (h : findA kk k es 0 = some r) :
    ∃ R, (Instr.findKey t K ES).run P w = .ok R w ∧ FR φ r R := by
  have hd : ∃ d, P.underlying t = some d := by
    unfold kkT at ht
    cases hd : P.underlying t with
    | none => rw [hd] at ht; cases ht
    | some d => exact ⟨d, rfl⟩
  obtain ⟨d, hd⟩ := hd
  obtain ⟨R, h1, h2⟩ := findA_ok ht hd hk es ES 0 r he h
  exact ⟨R, by simp [Instr.findKey, run_und hd, h1], h2⟩

theorem run_getMap {P : Program} {w : World} {r : Nat} {ES : Array MapEntry} {c : Nat} (h : w.heap[r]? = some (.map ES c)) : (getObj r).run P w = .ok (.map ES c) w := by
  simp [getObj, Sem.run, h]
theorem run_setMap {P : Program} {w : World} {r : Nat} {ES : Array MapEntry} {c : Nat} (h : w.heap[r]? = some (.map ES c)) (O : Obj) : (setObj r O).run P w = .ok () { w with heap := w.heap.setIfInBounds r O } := by
  simp [setObj, Sem.run, h]

theorem sound_makeM {P : Program} {φ : Ren} {m : Mem} {w : World} (hi : Inv φ m w) (t : TypeId) :
    ∃ V w' φ', (Instr.makeMap t none).run P w = .ok V w' ∧ VR φ' (runMakeM m).1 V ∧ Inv φ' (runMakeM m).2 w' ∧ Frm φ m w φ' (runMakeM m).2 w' := by
  have := hi.alloc (.map #[] 0) ⟨.map [] 0, false, none⟩ ⟨w.heap.size, 0, none, 0⟩ rfl ⟨⟨rfl, fun _ _ => rfl⟩, #[], by simp, rfl, fun i x y h => by simp at h⟩
  exact ⟨.map (some w.heap.size), _, _, (by simp [Instr.makeMap]), .map m.next _ (Ren.set_self ..), this.1, this.2⟩

theorem sound_lenM {P : Program} {φ : Ren} {m : Mem} {w : World} (hi : Inv φ m w) {ts key elem ty : TypeId} {v V u : Value} (ht : P.underlying ts = some (.map key elem)) (hv : VR φ v V) (h : runLenM v m = some u) :
    (Builtin.len_ #[ts] ty #[V]).run P w = .ok u w ∧ VR φ u u := by
  unfold runLenM at h
  split at h
  · cases h; cases hv; exact ⟨by simp [Builtin.len_, run_und ht, goInt], .int ..⟩
  · rename_i b
    simp only [Option.map_eq_some_iff] at h
    obtain ⟨⟨es, c⟩, hm, rfl⟩ := h
    obtain ⟨ro, lo, hg⟩ := Mem.mapAt_get hm
    cases hv with
    | map _ l hl =>
      obtain ⟨_, ES, h1, h2⟩ := hi.mapAt hg hl
      refine ⟨?_, .int ..⟩
      have : ES.size = es.length := by have := h2.1; simpa using this.symm
      simp [Builtin.len_, run_und ht, run_getMap h1, goInt, this]
  · cases h

theorem VR.lookRes {φ : Ren} {v V : Value} (h : VR φ v V) (ok t : Bool) : VR φ (lookRes ok v t) (if ok then .tuple #[V, .bool t] else V) := by
  cases ok
  · exact h
  · exact VRs.tuple (xs := [v, .bool t]) (ys := [V, .bool t]) (VRs.cons h (VRs.cons (.bool t) (VRs.nil φ)))

theorem sound_lookup {P : Program} {φ : Ren} {m : Mem} {w : World} (hi : Inv φ m w) {ts key elem : TypeId} {kk : KK} {i : TypeInfo} {z v V k K u : Value} {ok : Bool} (ht : P.underlying ts = some (.map key elem)) (hkt : kkT P key = some kk) (hti : P.info? elem = some i) (hz : i.zero = some z) (hzp : VR φ z z) (hv : VR φ v V) (hk : VR φ k K) (h : runLookup kk z ok v k m = some u) :
    ∃ U, (Instr.lookup ts V K ok).run P w = .ok U w ∧ VR φ u U := by
  unfold runLookup at h
  split at h
  · simp only [Option.map_eq_some_iff] at h
    obtain ⟨r, hf, rfl⟩ := h
    cases hv
    have hr : r = none := by simpa [findA] using hf.symm
    subst hr
    obtain ⟨R, h1, h2⟩ := run_findKey (P := P) (w := w) hkt hk (es := []) (ES := []) ⟨rfl, fun i x y h => by simp at h⟩ hf
    cases R with
    | some _ => exact h2.elim
    | none =>
      refine ⟨_, ?_, hzp.lookRes ok false⟩
      cases ok <;> simp [Instr.lookup, run_und ht, run_checkKey hkt, h1, run_zero hti hz]
  · rename_i b
    simp only [Option.bind_eq_some_iff, Option.map_eq_some_iff] at h
    obtain ⟨⟨es, c⟩, hm, r, hf, rfl⟩ := h
    obtain ⟨ro, lo, hg⟩ := Mem.mapAt_get hm
    cases hv with
    | map _ l hl =>
      obtain ⟨_, ES, h1, h2⟩ := hi.mapAt hg hl
      obtain ⟨R, h3, h4⟩ := run_findKey (P := P) (w := w) hkt hk h2 hf
      cases r with
      | none => cases R with
        | some _ => exact h4.elim
        | none =>
          refine ⟨_, ?_, hzp.lookRes ok false⟩
          cases ok <;> simp [Instr.lookup, run_und ht, run_getMap h1, run_checkKey hkt, h3, run_zero hti hz]
      | some p => cases R with
        | none => exact h4.elim
        | some q =>
          obtain ⟨j, y⟩ := p
          obtain ⟨j', Y⟩ := q
          obtain ⟨rfl, hvr⟩ := h4
          refine ⟨_, ?_, hvr.lookRes ok true⟩
          cases ok <;> simp [Instr.lookup, run_und ht, run_getMap h1, run_checkKey hkt, h3]
  · cases h

theorem EsR.modify {φ : Ren} {es ES : List MapEntry} (h : EsR φ es ES) {v V : Value} (hv : VR φ v V) (i : Nat) {K : Value} (hK : ∀ E, ES[i]? = some E → K = E.key) : EsR φ (es.modify i fun e => { e with val := v }) (ES.modify i fun e => { e with key := K, val := V }) := by
  refine ⟨by simp [h.1], fun j x y hx hy => ?_⟩
  rw [List.getElem?_modify] at hx hy
  simp only [Option.map_eq_map, Option.map_eq_some_iff] at hx hy
  obtain ⟨x', hx', rfl⟩ := hx
  obtain ⟨y', hy', rfl⟩ := hy
  obtain ⟨h1, h2, h3⟩ := h.2 j x' y' hx' hy'
  by_cases e : i = j
  · subst e
    simp only [if_true]
    exact ⟨by rw [hK y' hy', h1], h2, hv⟩
  · simp only [if_neg e]
    exact ⟨h1, h2, h3⟩

theorem sameNow_bits {d : TypeDesc} {a b : Value} (h : Instr.sameNow d a b = some true) (ha : (∃ k i, a = .int k i) ∨ ∃ s, a = .string s) : a = b ∧ Instr.sameBits 10000 b a = true := by
  rcases ha with ⟨k, i, rfl⟩ | ⟨s, rfl⟩
  · cases b <;> cases d <;> simp [Instr.sameNow] at h
    obtain ⟨rfl, rfl⟩ := h
    exact ⟨rfl, by simp [Instr.sameBits]⟩
  · cases b <;> cases d <;> simp [Instr.sameNow] at h
    have := (ba_beq _ _).1 h
    subst this
    exact ⟨rfl, by simp [Instr.sameBits, ba_beq]⟩

theorem findNow_at {d : TypeDesc} {K : Value} : ∀ (ES : List MapEntry) (i j : Nat) (V : Value), Instr.findNow d K ES i = some (some (j, V)) → ∃ q E, j = i + q ∧ ES[q]? = some E ∧ Instr.sameNow d K E.key = some true
  | [], i, j, V, h => by simp [Instr.findNow] at h
  | E :: ES, i, j, V, h => by
    simp only [Instr.findNow] at h
    split at h
    · rename_i hs
      cases h
      exact ⟨0, E, rfl, rfl, hs⟩
    · obtain ⟨q, E', h1, h2, h3⟩ := findNow_at ES (i + 1) j V h
      exact ⟨q + 1, E', by omega, by simpa using h2, h3⟩
    · cases h

theorem run_findKey' {P : Program} {φ : Ren} {w : World} {t : TypeId} {kk : KK} (ht : kkT P t = some kk) {k K : Value} (hk : VR φ k K) (hok : keyOk kk k = true) {es ES : List MapEntry} {r : Option (Nat × Value)} (he : EsR φ es ES) (h : findA kk k es 0 = some r) :
    ∃ R, (Instr.findKey t K ES).run P w = .ok R w ∧ FR φ r R ∧ ∀ i V, R = some (i, V) → ∃ E, ES[i]? = some E ∧ E.key = K ∧ (Instr.keyThatStays E.key K).run P w = .ok K w := by
  have hd : ∃ d, P.underlying t = some d := by
    unfold kkT at ht
    cases hd : P.underlying t with
    | none => rw [hd] at ht; cases ht
    | some d => exact ⟨d, rfl⟩
  obtain ⟨d, hd⟩ := hd
  obtain ⟨R, h1, h2⟩ := findA_ok ht hd hk es ES 0 r he h
  refine ⟨R, by simp [Instr.findKey, run_und hd, h1], h2, fun i V hR => ?_⟩
  subst hR
  obtain ⟨q, E, h3, h4, h5⟩ := findNow_at ES 0 i V h1
  rw [Nat.zero_add] at h3
  subst h3
  have hform : (∃ k i, K = .int k i) ∨ ∃ s, K = .string s := by
    unfold keyOk at hok
    split at hok
    · cases hk; exact .inl ⟨_, _, rfl⟩
    · cases hk; exact .inr ⟨_, rfl⟩
    · cases hok
  obtain ⟨h6, h7⟩ := sameNow_bits h5 hform
  exact ⟨E, h4, h6.symm, by simp [Instr.keyThatStays, h7]⟩

theorem sound_mapUpd {P : Program} {φ : Ren} {m m' : Mem} {w : World} (hi : Inv φ m w) {ts key elem : TypeId} {kk : KK} {v V k K x X : Value} (ht : P.underlying ts = some (.map key elem)) (hkt : kkT P key = some kk) (hv : VR φ v V) (hk : VR φ k K) (hx : VR φ x X) (h : runMapUpd kk v k x m = some m') :
    ∃ w', (Instr.mapUpdate ts V K X).run P w = .ok () w' ∧ Inv φ m' w' ∧ Frm φ m w φ m' w' := by
  unfold runMapUpd at h
  split at h
  · rename_i b
    simp only [Option.bind_eq_some_iff] at h
    obtain ⟨⟨es, c, lo⟩, hm, h⟩ := h
    have hg := Mem.ownMap_get hm
    split at h
    · rename_i hok
      simp only [Option.map_eq_some_iff] at h
      obtain ⟨r, hf, rfl⟩ := h
      cases hv with
      | map _ l hl =>
        obtain ⟨hlo, ES, h1, h2⟩ := hi.mapAt hg hl
        obtain ⟨R, h3, h4, h5⟩ := run_findKey' (P := P) (w := w) hkt hk hok h2 hf
        have hlt : l.blk < w.heap.size := hi.blk_lt hl
        cases r with
        | none => cases R with
          | some _ => exact h4.elim
          | none =>
            have := hi.setObj hg rfl hl ⟨.map (es ++ [{ key := k, val := x, born := c }]) (c + 1), false, lo⟩ (.map (ES.push { key := K, val := X, born := c }) (c + 1)) rfl ⟨hlo, ES.push { key := K, val := X, born := c }, by simp [hlt], ?_⟩
            · exact ⟨_, by simp [Instr.mapUpdate, run_und ht, run_getMap h1, run_checkKey hkt, h3, run_setMap h1], this.1, this.2⟩
            · have hkK : k = K := by
                unfold keyOk at hok
                split at hok
                · cases hk; rfl
                · cases hk; rfl
                · cases hok
              refine ⟨by have := h2.1; simp at this ⊢; exact this, fun j a b ha hb => ?_⟩
              have hlen : es.length = ES.toList.length := h2.1
              rw [Array.toList_push] at hb
              by_cases hj : j < es.length
              · rw [List.getElem?_append_left hj] at ha
                rw [List.getElem?_append_left (by omega)] at hb
                exact h2.2 j a b ha hb
              · rw [List.getElem?_append_right (by omega)] at ha
                rw [List.getElem?_append_right (by omega), ← hlen] at hb
                cases hjj : j - es.length with
                | zero => rw [hjj] at ha hb; simp at ha hb; subst ha; subst hb; exact ⟨hkK, rfl, hx⟩
                | succ n => rw [hjj] at ha; simp at ha
        | some p => cases R with
          | none => exact h4.elim
          | some q =>
            obtain ⟨j, y⟩ := p
            obtain ⟨j', Y⟩ := q
            obtain ⟨rfl, hvr⟩ := h4
            obtain ⟨E, h6, h7, h8⟩ := h5 j Y rfl
            have hE : ES[j]? = some E := by simpa using h6
            have hkey : ((ES[j]?).map (·.key)).getD K = E.key := by rw [hE]; rfl
            have := hi.setObj hg rfl hl ⟨.map (es.modify j fun e => { e with val := x }) c, false, lo⟩ (.map (ES.modify j fun e => { e with key := K, val := X }) c) rfl ⟨hlo, ES.modify j fun e => { e with key := K, val := X }, by simp [hlt], ?_⟩
            · exact ⟨_, by simp [Instr.mapUpdate, run_und ht, run_getMap h1, run_checkKey hkt, h3, hkey, h8, run_setMap h1], this.1, this.2⟩
            · rw [Array.toList_modify]
              exact h2.modify hx j (fun E' hE' => by rw [h6] at hE'; cases hE'; exact h7.symm)
    · cases h
  · cases h

theorem sound_delM {P : Program} {φ : Ren} {m m' : Mem} {w : World} (hi : Inv φ m w) {ts tk key elem ty : TypeId} {kk : KK} {v V k K : Value} (ht : P.underlying ts = some (.map key elem)) (hkt : kkT P key = some kk) (hv : VR φ v V) (hk : VR φ k K) (h : runDelM kk v k m = some m') :
    ∃ w', (Builtin.delete_ #[ts, tk] ty #[V, K]).run P w = .ok (.tuple #[]) w' ∧ Inv φ m' w' ∧ Frm φ m w φ m' w' := by
  unfold runDelM at h
  split at h
  · cases h; cases hv
    exact ⟨w, by simp [Builtin.delete_, run_und ht, run_checkKey hkt], hi, Frm.refl φ m w⟩
  · rename_i b
    simp only [Option.bind_eq_some_iff, Option.map_eq_some_iff] at h
    obtain ⟨⟨es, c, lo⟩, hm, r, hf, rfl⟩ := h
    have hg := Mem.ownMap_get hm
    cases hv with
    | map _ l hl =>
      obtain ⟨hlo, ES, h1, h2⟩ := hi.mapAt hg hl
      obtain ⟨R, h3, h4⟩ := run_findKey (P := P) (w := w) hkt hk h2 hf
      have hlt : l.blk < w.heap.size := hi.blk_lt hl
      cases r with
      | none => cases R with
        | some _ => exact h4.elim
        | none =>
          have := hi.setObj hg rfl hl ⟨.map es c, false, lo⟩ (.map ES c) rfl ⟨hlo, ES, by simp [hlt], h2⟩
          exact ⟨_, by simp [Builtin.delete_, run_und ht, run_getMap h1, run_checkKey hkt, h3, run_setMap h1], this.1, this.2⟩
      | some p => cases R with
        | none => exact h4.elim
        | some q =>
          obtain ⟨j, y⟩ := p
          obtain ⟨j', Y⟩ := q
          obtain ⟨rfl, hvr⟩ := h4
          have := hi.setObj hg rfl hl ⟨.map (es.eraseIdx j) c, false, lo⟩ (.map (ES.eraseIdxIfInBounds j) c) rfl ⟨hlo, ES.eraseIdxIfInBounds j, by simp [hlt], ?_⟩
          · exact ⟨_, by simp [Builtin.delete_, run_und ht, run_getMap h1, run_checkKey hkt, h3, run_setMap h1], this.1, this.2⟩
          · rw [Array.toList_eraseIdxIfInBounds]
            refine ⟨?_, fun i a b ha hb => ?_⟩
            · rw [List.length_eraseIdx, List.length_eraseIdx, h2.1]
            · rw [List.getElem?_eraseIdx] at ha hb
              split at ha
              · rename_i hij; rw [if_pos hij] at hb; exact h2.2 i a b ha hb
              · rename_i hij; rw [if_neg hij] at hb; exact h2.2 (i + 1) a b ha hb
  · cases h

theorem sound_clearM {P : Program} {φ : Ren} {m m' : Mem} {w : World} (hi : Inv φ m w) {ts key elem ty : TypeId} {v V : Value} (ht : P.underlying ts = some (.map key elem)) (hv : VR φ v V) (h : runClearM v m = some m') :
    ∃ w', (Builtin.clear_ #[ts] ty #[V]).run P w = .ok (.tuple #[]) w' ∧ Inv φ m' w' ∧ Frm φ m w φ m' w' := by
  unfold runClearM at h
  split at h
  · cases h; cases hv
    exact ⟨w, by simp [Builtin.clear_, run_und ht], hi, Frm.refl φ m w⟩
  · rename_i b
    simp only [Option.map_eq_some_iff] at h
    obtain ⟨⟨es, c, lo⟩, hm, rfl⟩ := h
    have hg := Mem.ownMap_get hm
    cases hv with
    | map _ l hl =>
      obtain ⟨hlo, ES, h1, h2⟩ := hi.mapAt hg hl
      have hlt : l.blk < w.heap.size := hi.blk_lt hl
      have := hi.setObj hg rfl hl ⟨.map [] c, false, lo⟩ (.map #[] c) rfl ⟨hlo, #[], by simp [hlt], rfl, fun i x y h => by simp at h⟩
      exact ⟨_, by simp [Builtin.clear_, run_und ht, run_getMap h1, run_setMap h1], this.1, this.2⟩
  · cases h

end Go.Fx
