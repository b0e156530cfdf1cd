/- Which slots an operation looks at; what hangs on memory. -/
import Derived.Test.YtnngjdfadfblmaaGreatDoorFxStep
namespace Go.Fx
open Go
set_option linter.unusedSimpArgs false
set_option linter.unusedVariables false

/- equality of values that can be computed -/
mutual
def veq : Value → Value → Bool
  | .bool a, .bool b => a == b
  | .int k a, .int l b => decide (k = l) && a == b
  | .float k a, .float l b => decide (k = l) && a == b
  | .complex k a b, .complex l c d => decide (k = l) && a == c && b == d
  | .string a, .string b => decide (a.data.toList = b.data.toList)
  | .pointer a, .pointer b => decide (a = b)
  | .slice a n c, .slice b m d => decide (a = b) && n == m && c == d
  | .map a, .map b => decide (a = b)
  | .chan a, .chan b => decide (a = b)
  | .func f ⟨xs⟩ ⟨ys⟩, .func g ⟨us⟩ ⟨vs⟩ => decide (f = g) && veqs xs us && veqs ys vs
  | .nilFunc, .nilFunc => true
  | .iface t v, .iface u w => t == u && veq v w
  | .nilIface, .nilIface => true
  | .agg ⟨xs⟩, .agg ⟨ys⟩ => veqs xs ys
  | .tuple ⟨xs⟩, .tuple ⟨ys⟩ => veqs xs ys
  | _, _ => false
def veqs : List Value → List Value → Bool
  | [], [] => true
  | x :: xs, y :: ys => veq x y && veqs xs ys
  | _, _ => false
end

mutual
theorem veq_eq : ∀ (a b : Value), veq a b = true → a = b
  | .bool a, b, h => by cases b <;> simp [veq] at h; subst h; rfl
  | .int k a, b, h => by cases b <;> simp [veq] at h; obtain ⟨rfl, rfl⟩ := h; rfl
  | .float k a, b, h => by cases b <;> simp [veq] at h; obtain ⟨rfl, rfl⟩ := h; rfl
  | .complex k a c, b, h => by cases b <;> simp [veq] at h; obtain ⟨⟨rfl, rfl⟩, rfl⟩ := h; rfl
  | .string a, b, h => by
    cases b <;> simp [veq] at h
    rename_i b
    obtain ⟨a⟩ := a; obtain ⟨b⟩ := b
    simp only at h
    subst h; rfl
  | .pointer a, b, h => by cases b <;> simp [veq] at h; subst h; rfl
  | .slice a n c, b, h => by cases b <;> simp [veq] at h; obtain ⟨⟨rfl, rfl⟩, rfl⟩ := h; rfl
  | .map a, b, h => by cases b <;> simp [veq] at h; subst h; rfl
  | .chan a, b, h => by cases b <;> simp [veq] at h; subst h; rfl
  | .func f ⟨xs⟩ ⟨ys⟩, b, h => by
    cases b <;> try (simp [veq] at h; done)
    rename_i g us vs
    obtain ⟨us⟩ := us; obtain ⟨vs⟩ := vs
    simp only [veq, Bool.and_eq_true, decide_eq_true_eq] at h
    obtain ⟨⟨rfl, h1⟩, h2⟩ := h
    rw [veqs_eq _ _ h1, veqs_eq _ _ h2]
  | .nilFunc, b, h => by cases b <;> simp [veq] at h; rfl
  | .iface t v, b, h => by
    cases b <;> try (simp [veq] at h; done)
    simp only [veq, Bool.and_eq_true, beq_iff_eq] at h
    obtain ⟨rfl, h1⟩ := h
    rw [veq_eq _ _ h1]
  | .nilIface, b, h => by cases b <;> simp [veq] at h; rfl
  | .agg ⟨xs⟩, b, h => by
    cases b <;> try (simp [veq] at h; done)
    rename_i ys
    obtain ⟨ys⟩ := ys
    simp only [veq] at h
    rw [veqs_eq _ _ h]
  | .tuple ⟨xs⟩, b, h => by
    cases b <;> try (simp [veq] at h; done)
    rename_i ys
    obtain ⟨ys⟩ := ys
    simp only [veq] at h
    rw [veqs_eq _ _ h]
theorem veqs_eq : ∀ (a b : List Value), veqs a b = true → a = b
  | [], b, h => by cases b <;> simp [veqs] at h; rfl
  | x :: xs, b, h => by
    cases b <;> simp [veqs] at h
    rw [veq_eq _ _ h.1, veqs_eq _ _ h.2]
end

mutual
theorem veq_refl : ∀ (a : Value), veq a a = true
  | .bool a => by simp [veq]
  | .int k a => by simp [veq]
  | .float k a => by simp [veq]
  | .complex k a c => by simp [veq]
  | .string a => by simp [veq]
  | .pointer a => by simp [veq]
  | .slice a n c => by simp [veq]
  | .map a => by simp [veq]
  | .chan a => by simp [veq]
  | .func f ⟨xs⟩ ⟨ys⟩ => by simp [veq, veqs_refl xs, veqs_refl ys]
  | .nilFunc => by simp [veq]
  | .iface t v => by simp [veq, veq_refl v]
  | .nilIface => by simp [veq]
  | .agg ⟨xs⟩ => by simp [veq, veqs_refl xs]
  | .tuple ⟨xs⟩ => by simp [veq, veqs_refl xs]
theorem veqs_refl : ∀ (a : List Value), veqs a a = true
  | [] => by simp [veqs]
  | x :: xs => by simp [veqs, veq_refl x, veqs_refl xs]
end

/- slots -/
def opT : Operand → List Nat
  | .tmp t => [t]
  | _ => []
def opTO : Option Operand → List Nat
  | some x => opT x
  | none => []

def AOp.slots : AOp → List Nat
  | .mov x | .nilck x | .box _ x | .load1 x | .loadN _ x | .un _ x | .conv _ x | .b2s x | .fieldAddr _ x | .field _ _ _ x | .extract _ x | .lenS x | .lenStr x => opT x
  | .pick c a b => opT c ++ opT a ++ opT b
  | .alloc _ _ | .stop => []
  | .flo _ o | .floAt _ o => o.slots
  | .clearS _ x | .mkiface _ x => opT x
  | .makeS _ _ _ a x => opT a ++ opT x
  | .slice3 _ x lo hi mx => opT x ++ opTO lo ++ opTO hi ++ opT mx
  | .build _ ps | .buildSlice _ _ _ ps => ps.flatMap fun p => opT p.2.2
  | .store _ a x | .arith _ a x | .eqD _ _ a x | .eqBool _ a x | .eqNil _ _ a x | .indexS _ a x | .indexA _ _ a x | .indexStr a x | .indexArr _ _ _ a x | .append _ _ _ a x | .copy _ a x => opT a ++ opT x
  | .sliceStr x lo hi | .sliceS _ x lo hi | .sliceA _ _ x lo hi => opT x ++ opTO lo ++ opTO hi
  | .min x xs | .max x xs | .callv x xs => opT x ++ xs.flatMap opT
  | .call _ xs => xs.flatMap opT
  | .mkfunc _ fs xs => fs.flatMap opT ++ xs.flatMap opT
  | .p1 _ x | .r1 _ x | .e1 _ x => opT x
  | .p2 _ x y | .r2 _ x y | .e2 _ x y => opT x ++ opT y
  | .mapUpd _ x k y => opT x ++ opT k ++ opT y
  | .makeM x => opTO x

/-- Two frames that agree on slots. -/
def Agree (l : List Nat) (ts us : List Value) : Prop := ∀ t, t ∈ l → ts[t]? = us[t]?

theorem Agree.left {l k : List Nat} {ts us : List Value} (h : Agree (l ++ k) ts us) : Agree l ts us := fun t ht => h t (List.mem_append_left _ ht)
theorem Agree.right {l k : List Nat} {ts us : List Value} (h : Agree (l ++ k) ts us) : Agree k ts us := fun t ht => h t (List.mem_append_right _ ht)

theorem aval_agree {ts us : List Value} {x : Operand} (h : Agree (opT x) ts us) : aval ts x = aval us x := by
  cases x with
  | tmp t => simp only [aval]; rw [h t (by simp [opT])]
  | _ => rfl
theorem avalO_agree {ts us : List Value} {x : Option Operand} (h : Agree (opTO x) ts us) : avalO ts x = avalO us x := by
  cases x with
  | none => rfl
  | some x => simp only [avalO]; rw [aval_agree h]
theorem avals_agree {ts us : List Value} : ∀ {xs : List Operand}, Agree (xs.flatMap opT) ts us → avals ts xs = avals us xs
  | [], _ => rfl
  | x :: xs, h => by
    rw [List.flatMap_cons] at h
    simp only [avals]; rw [aval_agree h.left, avals_agree h.right]
theorem aparts_agree {ts us : List Value} : ∀ {ps : List (Nat × Nat × Operand)}, Agree (ps.flatMap fun p => opT p.2.2) ts us → aparts ts ps = aparts us ps
  | [], _ => rfl
  | (o, s, x) :: ps, h => by
    rw [List.flatMap_cons] at h
    simp only [aparts]; rw [aval_agree h.left, aparts_agree h.right]

theorem newBlk_agree {ts us : List Value} {ao : AOp} (h : Agree ao.slots ts us) : newBlk ts ao = newBlk us ao := by
  cases ao <;> try rfl
  · simp only [AOp.slots] at h; simp only [newBlk]; rw [aval_agree h]
  · simp only [AOp.slots] at h; simp only [newBlk]; rw [aparts_agree h]

theorem stepOp_agree (call : CallF) {ts us : List Value} (m : Mem) {ao : AOp} (h : Agree ao.slots ts us) : stepOp call ts m ao = stepOp call us m ao := by
  cases ao <;> simp only [AOp.slots] at h <;> simp only [stepOp, AOp.run]
  all_goals first
    | rw [aval_agree h]
    | rw [aval_agree h.left, aval_agree h.right]
    | rw [aval_agree h.left.left, aval_agree h.left.right, aval_agree h.right]
    | rw [aval_agree h.left.left, avalO_agree h.left.right, avalO_agree h.right]
    | rw [aval_agree h.left.left.left, avalO_agree h.left.left.right, avalO_agree h.left.right, aval_agree h.right]
    | rw [aval_agree h.left, avals_agree h.right]
    | rw [avals_agree h]
    | rw [avals_agree h.left, avals_agree h.right]
    | rw [avalO_agree h]
    | rw [aparts_agree h]
    | rw [newBlk_agree h]
    | rfl

/- what hangs on memory -/
inductive Cls where
  | pure | read | eff
  deriving DecidableEq

def AOp.cls : AOp → Cls
  | .alloc _ _ | .box _ _ | .buildSlice _ _ _ _ | .store _ _ _ | .append _ _ _ _ _ | .copy _ _ _ | .clearS _ _ | .makeS _ _ _ _ _ | .call _ _ | .callv _ _ | .flo _ _ | .floAt _ _ | .e1 _ _ | .e2 _ _ _ | .mapUpd _ _ _ _ | .makeM _ => .eff
  | .load1 _ | .loadN _ _ | .b2s _ | .sliceS _ _ _ _ | .sliceA _ _ _ _ _ | .slice3 _ _ _ _ _ | .r1 _ _ | .r2 _ _ _ => .read
  | _ => .pure

inductive Req where
  | load1 (v : Value)
  | loadN (n : Nat) (v : Value)
  | b2s (v : Value)
  | sliceS (size : Nat) (v : Value) (lo hi : Option Value)
  | sliceA (n size : Nat) (v : Value) (lo hi : Option Value)
  | slice3 (size : Nat) (v : Value) (lo hi : Option Value) (mx : Value)
  | r1 (k : R1) (v : Value)
  | r2 (k : R2) (v u : Value)

def Req.run (m : Mem) : Req → Option Value
  | .load1 v => runLoad1 v m
  | .loadN n v => runLoadN n v m
  | .b2s v => runB2S v m
  | .sliceS size v lo hi => runSliceS size v lo hi m
  | .sliceA n size v lo hi => runSliceA n size v lo hi m
  | .slice3 size v lo hi mx => runSlice3 size v lo hi mx m
  | .r1 k v => k.run v m
  | .r2 k v u => k.run v u m

def AOp.req (ts : List Value) : AOp → Option Req
  | .load1 x => (aval ts x).map .load1
  | .loadN n x => (aval ts x).map (.loadN n)
  | .b2s x => (aval ts x).map .b2s
  | .sliceS size x lo hi => (aval ts x).bind fun v => (avalO ts lo).bind fun l => (avalO ts hi).map fun h => .sliceS size v l h
  | .sliceA n size x lo hi => (aval ts x).bind fun v => (avalO ts lo).bind fun l => (avalO ts hi).map fun h => .sliceA n size v l h
  | .slice3 size x lo hi mx => (aval ts x).bind fun v => (avalO ts lo).bind fun l => (avalO ts hi).bind fun h => (aval ts mx).map fun k => .slice3 size v l h k
  | .r1 k x => (aval ts x).map (.r1 k)
  | .r2 k x y => (aval ts x).bind fun v => (aval ts y).map fun u => .r2 k v u
  | _ => none

theorem run_of_req {ts : List Value} {ao : AOp} {q : Req} {m : Mem} {v : Value} (hq : ao.req ts = some q) (h : q.run m = some v) : ao.run ts m = some (v, m) := by
  cases ao <;> simp only [AOp.req] at hq <;> try (cases hq; done)
  · simp only [Option.map_eq_some_iff] at hq; obtain ⟨p, hp, rfl⟩ := hq; simp only [Req.run] at h; simp [AOp.run, hp, h]
  · simp only [Option.map_eq_some_iff] at hq; obtain ⟨p, hp, rfl⟩ := hq; simp only [Req.run] at h; simp [AOp.run, hp, h]
  · simp only [Option.map_eq_some_iff] at hq; obtain ⟨p, hp, rfl⟩ := hq; simp only [Req.run] at h; simp [AOp.run, hp, h]
  · simp only [Option.bind_eq_some_iff, Option.map_eq_some_iff] at hq; obtain ⟨p, hp, l, hl, r, hr, rfl⟩ := hq; simp only [Req.run] at h; simp [AOp.run, hp, hl, hr, h]
  · simp only [Option.bind_eq_some_iff, Option.map_eq_some_iff] at hq; obtain ⟨p, hp, l, hl, r, hr, rfl⟩ := hq; simp only [Req.run] at h; simp [AOp.run, hp, hl, hr, h]
  · simp only [Option.map_eq_some_iff] at hq; obtain ⟨p, hp, rfl⟩ := hq; simp only [Req.run] at h; simp [AOp.run, hp, h]
  · simp only [Option.bind_eq_some_iff, Option.map_eq_some_iff] at hq; obtain ⟨p, hp, l, hl, rfl⟩ := hq; simp only [Req.run] at h; simp [AOp.run, hp, hl, h]
  · simp only [Option.bind_eq_some_iff, Option.map_eq_some_iff] at hq; obtain ⟨p, hp, l, hl, r, hr, k, hk, rfl⟩ := hq; simp only [Req.run] at h; simp [AOp.run, hp, hl, hr, hk, h]

theorem req_isCall {ts : List Value} {ao : AOp} {q : Req} (hq : ao.req ts = some q) : ao.isCall = false := by
  cases ao <;> simp only [AOp.req] at hq <;> first | (cases hq; done) | rfl

theorem req_agree {ts us : List Value} {ao : AOp} (h : Agree ao.slots ts us) : ao.req ts = ao.req us := by
  cases ao <;> simp only [AOp.slots] at h <;> simp only [AOp.req]
  · rw [aval_agree h]
  · rw [aval_agree h]
  · rw [aval_agree h]
  · rw [aval_agree h.left.left, avalO_agree h.left.right, avalO_agree h.right]
  · rw [aval_agree h.left.left, avalO_agree h.left.right, avalO_agree h.right]
  · rw [aval_agree h]
  · rw [aval_agree h.left, aval_agree h.right]
  · rw [aval_agree h.left.left.left, avalO_agree h.left.left.right, avalO_agree h.left.right, aval_agree h.right]

theorem run_pure {ts : List Value} {ao : AOp} {m m' : Mem} {v : Value} (hc : ao.cls = .pure) (h : ao.run ts m = some (v, m')) : m' = m ∧ ∀ M, ao.run ts M = some (v, M) := by
  cases ao <;> simp only [AOp.cls] at hc <;> first
    | (cases hc; done)
    | (simp [AOp.run] at h; done)
    | (simp only [AOp.run, Option.bind_eq_some_iff, Option.map_eq_some_iff, Prod.mk.injEq] at h
       first
         | (obtain ⟨p, hp, rfl, rfl⟩ := h; exact ⟨rfl, fun M => by simp [AOp.run, hp]⟩)
         | (obtain ⟨p, hp, u, hu, rfl, rfl⟩ := h; exact ⟨rfl, fun M => by simp [AOp.run, hp, hu]⟩)
         | (obtain ⟨p, hp, q, hq, u, hu, rfl, rfl⟩ := h; exact ⟨rfl, fun M => by simp [AOp.run, hp, hq, hu]⟩)
         | (obtain ⟨p, hp, q, hq, r, hr, u, hu, rfl, rfl⟩ := h; exact ⟨rfl, fun M => by simp [AOp.run, hp, hq, hr, hu]⟩))

end Go.Fx
