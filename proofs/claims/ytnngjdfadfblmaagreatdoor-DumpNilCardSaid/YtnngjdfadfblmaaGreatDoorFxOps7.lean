/- Operations of one, two and three values, in classes by what they hang on. -/
import Derived.Test.YtnngjdfadfblmaaGreatDoorFxExt
import Derived.Lib.MakeNoZero
import Derived.Lib.Bytealg
import GoSem.Extern.Table
namespace Go.Fx
open Go
set_option linter.unusedSimpArgs false
set_option linter.unusedVariables false

inductive P1 where
  | sliceData
  | assert (t : TypeId) (ok : Bool) (z : Value)
inductive P2 where
  | eqIface (neg : Bool)
  | idxByte
inductive R1 where
  | lenM
  | cap
  | p2u
  | u2p (t : TypeId) (n : Nat)
inductive R2 where
  | lookup (kk : KK) (z : Value) (ok : Bool)
  | eqPtr (neg : Bool)
inductive E1 where
  | s2b (e : TypeId)
  | clearM
  | rangeS
  | nextS
  | noZero (e : TypeId)
  | cloneM
inductive E2 where
  | delM (kk : KK)
  | unsafeStr (e : TypeId)

def runAssert (t : TypeId) (ok : Bool) (z v : Value) : Option Value := match v with
  | .iface u x => if u = t then some (if ok then .tuple #[x, .bool true] else x) else if ok then some (.tuple #[z, .bool false]) else none
  | .nilIface => if ok then some (.tuple #[z, .bool false]) else none
  | _ => none
def runEqIface (neg : Bool) (a b : Value) : Option Value := match a, b with
  | .nilIface, .nilIface => some (.bool (!neg))
  | .nilIface, .iface _ _ => some (.bool neg)
  | .iface _ _, .nilIface => some (.bool neg)
  | _, _ => none
def runIdxByte (a b : Value) : Option Value := match a, b with
  | .string s, .int .u8 c => some (.int .i64 (Lib.indexByte s.data.toList c.toNat.toUInt8))
  | _, _ => none
def runNoZero (e : TypeId) (v : Value) (m : Mem) : Option (Value × Mem) := match v with
  | .int .i64 n => if 0 ≤ n ∧ n ≤ 281474976710656 then some (.slice (some ⟨m.next, 0, none⟩) n.toNat n.toNat, m.add ⟨.cells (List.replicate n.toNat junk) e, false, some 1⟩) else none
  | _ => none
def runCloneM (v : Value) (m : Mem) : Option (Value × Mem) := match v with
  | .iface t (.map (some b)) => (m.mapAt b).map fun q => (.iface t (.map (some m.next)), m.add ⟨.map q.1 q.2, false, none⟩)
  | _ => none

def P1.run (v : Value) : P1 → Option Value
  | .sliceData => runSliceData v
  | .assert t ok z => runAssert t ok z v
def P2.run (a b : Value) : P2 → Option Value
  | .eqIface neg => runEqIface neg a b
  | .idxByte => runIdxByte a b
def R1.run (v : Value) (m : Mem) : R1 → Option Value
  | .lenM => runLenM v m
  | .cap => runCap v m
  | .p2u => runP2U v m
  | .u2p t n => runU2P t n v m
def R2.run (a b : Value) (m : Mem) : R2 → Option Value
  | .lookup kk z ok => runLookup kk z ok a b m
  | .eqPtr neg => runEqPtr neg a b m
def E1.run (v : Value) (m : Mem) : E1 → Option (Value × Mem)
  | .s2b e => runS2B e v m
  | .clearM => (runClearM v m).map (undef, ·)
  | .rangeS => runRangeS v m
  | .nextS => runNextS v m
  | .noZero e => runNoZero e v m
  | .cloneM => runCloneM v m
def E2.run (a b : Value) (m : Mem) : E2 → Option (Value × Mem)
  | .delM kk => (runDelM kk a b m).map (undef, ·)
  | .unsafeStr e => runUnsafeStr e a b m

theorem liesAt_self {P : Program} {t : TypeId} (hc : P.cellsOf t ≠ 0) (k : Nat) (hk : 0 < k) : liesAt P P.depth t k 0 t 1 = true := by
  have hd : P.depth = (2 * (P.types.size + Made.depth) + 1) + 1 := rfl
  rw [hd]
  simp only [liesAt, Bool.or_eq_true]
  left
  rw [hd]
  simp [rowAt, hc, sameLayout]
  omega

theorem sound_assert {P : Program} {φ : Ren} {w : World} {xt t : TypeId} {ok : Bool} {d : TypeDesc} {i : TypeInfo} {z v V u : Value} (hd : P.underlying t = some d) (hni : ∀ ms, d ≠ .interface ms) (hti : P.info? t = some i) (hz : i.zero = some z) (hzp : VR φ z z) (hv : VR φ v V) (h : runAssert t ok z v = some u) :
    ∃ U, (Instr.typeAssert V xt t ok).run P w = .ok U w ∧ VR φ u U := by
  unfold runAssert at h
  split at h
  · rename_i tt x
    cases hv with
    | iface _ _ X hx =>
      split at h
      · rename_i he
        subst he
        cases h
        cases ok
        · refine ⟨X, ?_, hx⟩
          cases d <;> first | (exact absurd rfl (hni _)) | (simp [Instr.typeAssert, run_und hd])
        · refine ⟨.tuple #[X, .bool true], ?_, VRs.tuple (xs := [x, .bool true]) (ys := [X, .bool true]) (VRs.cons hx (VRs.cons (.bool true) (VRs.nil φ)))⟩
          cases d <;> first | (exact absurd rfl (hni _)) | (simp [Instr.typeAssert, run_und hd])
      · rename_i he
        split at h
        · rename_i hok
          subst hok
          cases h
          refine ⟨.tuple #[z, .bool false], ?_, VRs.tuple (xs := [z, .bool false]) (ys := [z, .bool false]) (VRs.cons hzp (VRs.cons (.bool false) (VRs.nil φ)))⟩
          cases d <;> first | (exact absurd rfl (hni _)) | (simp [Instr.typeAssert, run_und hd, he, run_zero hti hz])
        · cases h
  · split at h
    · rename_i hok
      subst hok
      cases h
      cases hv
      refine ⟨.tuple #[z, .bool false], ?_, VRs.tuple (xs := [z, .bool false]) (ys := [z, .bool false]) (VRs.cons hzp (VRs.cons (.bool false) (VRs.nil φ)))⟩
      cases d <;> first | (exact absurd rfl (hni _)) | (simp [Instr.typeAssert, run_und hd, run_zero hti hz])
    · cases h
  · cases h

def isC : Operand → Bool
  | .const _ => true
  | _ => false

theorem run_equal_iface {P : Program} {w : World} {t : TypeId} {ms : Array (String × TypeId)} (ht : P.underlying t = some (.interface ms)) (n : Nat) (tt : TypeId) (X : Value) :
    (Op.equalIn (n + 1) t .nilIface .nilIface).run P w = .ok true w ∧ (Op.equalIn (n + 1) t .nilIface (.iface tt X)).run P w = .ok false w ∧ (Op.equalIn (n + 1) t (.iface tt X) .nilIface).run P w = .ok false w := by
  refine ⟨?_, ?_, ?_⟩ <;> simp [Op.equalIn, run_und ht]

theorem run_guard_ifaces {P : Program} {w : World} {t : TypeId} {neg : Bool} {x y : Operand} (hxy : (isC x || isC y) = true) : (eqGuard (if neg then .neq else .eql) t x y .nilIface .nilIface).run P w = .ok () w := by
  cases neg <;> cases x <;> cases y <;> first | (cases hxy; done) | simp [eqGuard]

theorem run_binI {P : Program} {w : World} {neg : Bool} {t : TypeId} {x y : Operand} {A B : Value} {r : Bool} (hs : (A = .nilIface ∨ ∃ tt X, A = .iface tt X) ∧ (B = .nilIface ∨ ∃ tt X, B = .iface tt X)) (hg : (eqGuard (if neg then .neq else .eql) t x y A B).run P w = .ok () w) (h : (Op.equalIn 10000 t A B).run P w = .ok r w) :
    ((do eqGuard (if neg then .neq else .eql) t x y A B; Go.binOp (if neg then .neq else .eql) t A B : Sem Value)).run P w = .ok (.bool (if neg then !r else r)) w := by
  rw [show ∀ A B, Op.equalIn 10000 t A B = Op.equal t A B from fun _ _ => rfl] at h
  rw [Sem.run_bind, hg]
  obtain ⟨rfl | ⟨tt, X, rfl⟩, rfl | ⟨uu, Y, rfl⟩⟩ := hs <;> cases neg <;> simp only [Bool.false_eq_true, if_false, if_true, Result.andThen_ok, Go.binOp, Sem.run_bind, h, Sem.run_pure]

theorem sound_eqIface {P : Program} {φ : Ren} {w : World} {neg : Bool} {t : TypeId} {ms : Array (String × TypeId)} {x y : Operand} {v V k K u : Value} (ht : P.underlying t = some (.interface ms)) (hxy : (isC x || isC y) = true) (hv : VR φ v V) (hk : VR φ k K) (h : runEqIface neg v k = some u) :
    ((do eqGuard (if neg then .neq else .eql) t x y V K; Go.binOp (if neg then .neq else .eql) t V K : Sem Value)).run P w = .ok u w ∧ VR φ u u := by
  unfold runEqIface at h
  split at h
  · cases h
    cases hv; cases hk
    refine ⟨?_, .bool _⟩
    simpa using run_binI (x := x) (y := y) (neg := neg) ⟨.inl rfl, .inl rfl⟩ (run_guard_ifaces hxy) (run_equal_iface (P := P) (w := w) ht 9999 0 .nilIface).1
  · cases h
    cases hv; cases hk
    refine ⟨?_, .bool _⟩
    simpa using run_binI (x := x) (y := y) (neg := neg) ⟨.inl rfl, .inr ⟨_, _, rfl⟩⟩ (by cases neg <;> simp [eqGuard]) (run_equal_iface (P := P) (w := w) ht 9999 _ _).2.1
  · cases h
    cases hv; cases hk
    refine ⟨?_, .bool _⟩
    simpa using run_binI (x := x) (y := y) (neg := neg) ⟨.inr ⟨_, _, rfl⟩, .inl rfl⟩ (by cases neg <;> simp [eqGuard]) (run_equal_iface (P := P) (w := w) ht 9999 _ _).2.2
  · cases h

theorem digits_u8 : ∀ (n t : Nat) (acc : Array Value), (∀ (i : Nat) v, acc[i]? = some v → ∃ k, v = .int .u8 k) → ∀ (i : Nat) v, (Extern.BytealgMakeNoZero.digits n t acc)[i]? = some v → ∃ k, v = .int .u8 k
  | 0, _, _, h => h
  | n + 1, t, acc, h => by
    rw [Extern.BytealgMakeNoZero.digits]
    refine digits_u8 n _ _ fun i v hv => ?_
    rw [Array.getElem?_push] at hv
    split at hv
    · cases hv; exact ⟨_, rfl⟩
    · exact h i v hv

theorem sound_noZero {P : Program} {φ : Ren} {m m' : Mem} {w : World} (hi : Inv φ m w) {ps : Array TypeId} {t e : TypeId} (ht : P.underlying t = some (.slice e)) {v V u : Value} (hv : VR φ v V) (h : runNoZero e v m = some (u, m')) :
    ∃ U w' φ', (Extern.BytealgMakeNoZero.makeNoZero ps #[t] #[V]).run P w = .ok U w' ∧ VR φ' u U ∧ Inv φ' m' w' ∧ Frm φ m w φ' m' w' := by
  unfold runNoZero at h
  split at h
  · rename_i n
    split at h
    · rename_i hn
      cases h
      cases hv
      obtain ⟨n, rfl⟩ := Int.eq_ofNat_of_zero_le hn.1
      have hdef : Extern.BytealgMakeNoZero.makeNoZero ps #[t] #[.int .i64 n] =
          (do
            let .slice elem ← underlying t | stuck "bytealg.MakeNoZero: slice type expected"
            if (n : Int) < 0 || (n : Int) > 2 ^ 48 then runtimePanic (.error "makeslice: len out of range")
            let cap ← choose (.appendCap (n : Int).toNat 0 elem)
            askRoom cap
            let bytes ← choose (.extern "internal/bytealg.MakeNoZero.bytes" 0)
            let a ← newRow elem (Extern.BytealgMakeNoZero.digits cap bytes #[])
            pure (.slice (some a) (n : Int).toNat cap)) := rfl
      have h1 : ¬ (n : Int) < 0 := by omega
      have h2 : ¬ (281474976710656 : Int) < (n : Int) := by omega
      generalize hcap : (Question.appendCap n 0 e).cut (w.tape w.drawn (.appendCap n 0 e)) = cap
      have hcut : n ≤ cap := by rw [← hcap]; simp [Question.cut]
      generalize hby : (Question.extern "internal/bytealg.MakeNoZero.bytes" 0).cut (w.tape (w.drawn + 1) (.extern "internal/bytealg.MakeNoZero.bytes" 0)) = by'
      have hi1 : Inv φ m { w with drawn := w.drawn + 1 + 1 } := hi.drawn rfl
      generalize hD : Extern.BytealgMakeNoZero.digits cap by' #[] = D
      have hDs : D.size = cap := by rw [← hD, Lib.size_digits]; simp
      have hDu : ∀ (i : Nat) v, D[i]? = some v → ∃ k, v = .int .u8 k := by rw [← hD]; exact digits_u8 _ _ _ (fun i v h => by simp at h)
      have hr : VRs φ (List.replicate n junk) (D.toList.take n) := by
        refine ⟨by simp [hDs]; omega, fun i x y hx hy => ?_⟩
        rw [List.getElem?_replicate] at hx
        split at hx
        · rename_i hlt
          obtain rfl := Option.some.inj hx
          rw [List.getElem?_take, if_pos hlt] at hy
          obtain ⟨k, rfl⟩ := hDu i y (by simpa using hy)
          exact .junk k
        · cases hx
      obtain ⟨φ', h3, h4, h5⟩ := hi1.allocLoose (D.toList.drop n) e 1 hr
      have hall : (D.toList.take n ++ D.toList.drop n).toArray = D := by rw [List.take_append_drop]
      have hlen : (D.toList.take n ++ D.toList.drop n).length = cap := by rw [List.take_append_drop]; simpa using hDs
      rw [hall] at h3 h4
      rw [hlen] at h5
      have hto : ((n : Int)).toNat = n := by simp
      refine ⟨.slice (some ⟨w.heap.size, 0, none⟩) n cap, { w with drawn := w.drawn + 1 + 1, heap := w.heap.push (.cells D e) }, φ', ?_, ?_, ?_, ?_⟩
      · have hfor : (Question.appendCap n 0 e).forced = false := rfl
        have hfor2 : (Question.extern "internal/bytealg.MakeNoZero.bytes" 0).forced = false := rfl
        rw [hdef]
        simp [run_und ht, h1, h2, run_choose, hfor, hcap, hfor2, hby, hD, newRow]
        rfl
      · rw [hto]; exact .sliceLoose m.next 0 n n 0 cap 1 _ h5 rfl (fun _ => by simp) (Nat.le_refl _) hcut (by simp)
      · rw [hto]; exact h3
      · rw [hto]; exact (Frm.drawn (φ := φ) (m := m) (w := w) (w' := { w with drawn := w.drawn + 1 + 1 }) rfl rfl rfl rfl).trans h4
    · cases h
  · cases h

theorem sound_cloneM {P : Program} {φ : Ren} {m m' : Mem} {w : World} (hi : Inv φ m w) {v V u : Value} (hv : VR φ v V) (h : runCloneM v m = some (u, m')) :
    ∃ U w' φ', (Extern.MapsClone.clone #[V]).run P w = .ok U w' ∧ VR φ' u U ∧ Inv φ' m' w' ∧ Frm φ m w φ' m' w' := by
  unfold runCloneM at h
  split at h
  · rename_i t b
    simp only [Option.map_eq_some_iff] at h
    obtain ⟨⟨es, c⟩, hm, h⟩ := h
    cases h
    obtain ⟨ro, lo, hg⟩ := Mem.mapAt_get hm
    cases hv with
    | iface _ _ X hx =>
    cases hx with
    | map _ l hl =>
      obtain ⟨_, ES, h1, h2⟩ := hi.mapAt hg hl
      have hdef : ∀ r, Extern.MapsClone.clone #[.iface t (.map (some r))] = (do
        let .map entries clock ← getObj r | stuck "maps.clone: a map expected"
        pure (.iface t (.map (some (← newObj (.map entries clock)))))) := fun _ => rfl
      have hle := Ren.le_set (l := ⟨w.heap.size, 0, none, 0⟩) hi.fresh
      have := hi.alloc (.map ES c) ⟨.map es c, false, none⟩ ⟨w.heap.size, 0, none, 0⟩ rfl ⟨⟨rfl, fun _ _ => rfl⟩, ES, by simp, ⟨h2.1, fun i x y hx hy => ⟨(h2.2 i x y hx hy).1, (h2.2 i x y hx hy).2.1, (h2.2 i x y hx hy).2.2.mono hle⟩⟩⟩
      exact ⟨.iface t (.map (some w.heap.size)), _, _, by rw [hdef l.blk]; simp [run_getMap h1], .iface _ _ _ (.map m.next _ (Ren.set_self ..)), this.1, this.2⟩
  · cases h

/- functions without a text -/
inductive ExtK where
  | noEscape | noZero | idxByte | cloneM
  deriving DecidableEq
def extK (n : String) : Option ExtK :=
  if n = "internal/abi.NoEscape" then some .noEscape else if n = "internal/bytealg.MakeNoZero" then some .noZero else if n = "internal/bytealg.IndexByteString" then some .idxByte else if n = "maps.clone" then some .cloneM else none
def extOf (P : Program) (f : FuncId) : Option (ExtK × Func) := match P.funcs[f]? with
  | some fn => if fn.body.isNone = true ∧ fn.origin = "" then (extK fn.name).map (·, fn) else none
  | none => none

end Go.Fx
