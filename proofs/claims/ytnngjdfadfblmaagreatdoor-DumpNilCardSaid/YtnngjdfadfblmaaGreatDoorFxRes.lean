/- The operations read out of the program's text, and their soundness. -/
import Derived.Test.YtnngjdfadfblmaaGreatDoorFxOps7
namespace Go.Fx
open Go
set_option linter.unusedSimpArgs false
set_option linter.unusedVariables false

inductive AOp where
  | mov (x : Operand)
  | nilck (x : Operand)
  | pick (c a b : Operand)
  | alloc (e : TypeId) (z : Value)
  | box (e : TypeId) (x : Operand)
  | build (z : List Value) (ps : List (Nat × Nat × Operand))
  | buildSlice (e : TypeId) (len : Nat) (z : List Value) (ps : List (Nat × Nat × Operand))
  | load1 (x : Operand)
  | loadN (n : Nat) (x : Operand)
  | store (n : Nat) (a x : Operand)
  | arith (op : BinOp) (x y : Operand)
  | eqD (neg : Bool) (d : List (Nat × Nat × Bool × EqD)) (x y : Operand)
  | eqBool (neg : Bool) (x y : Operand)
  | eqNil (k : NilK) (neg : Bool) (x y : Operand)
  | un (op : UnOp) (x : Operand)
  | conv (k : IntKind) (x : Operand)
  | b2s (x : Operand)
  | fieldAddr (off : Nat) (x : Operand)
  | field (off size : Nat) (agg : Bool) (x : Operand)
  | indexS (size : Nat) (x i : Operand)
  | indexA (len size : Nat) (x i : Operand)
  | indexStr (x i : Operand)
  | indexArr (len size : Nat) (agg : Bool) (x i : Operand)
  | sliceStr (x : Operand) (lo hi : Option Operand)
  | sliceS (size : Nat) (x : Operand) (lo hi : Option Operand)
  | sliceA (n size : Nat) (x : Operand) (lo hi : Option Operand)
  | extract (i : Nat) (x : Operand)
  | lenS (x : Operand)
  | lenStr (x : Operand)
  | append (e : TypeId) (size eb : Nat) (x y : Operand)
  | copy (size : Nat) (x y : Operand)
  | min (x : Operand) (xs : List Operand)
  | max (x : Operand) (xs : List Operand)
  | mkfunc (f : FuncId) (fs xs : List Operand)
  | p1 (k : P1) (x : Operand)
  | p2 (k : P2) (x y : Operand)
  | r1 (k : R1) (x : Operand)
  | r2 (k : R2) (x y : Operand)
  | e1 (k : E1) (x : Operand)
  | e2 (k : E2) (x y : Operand)
  | mapUpd (kk : KK) (m k x : Operand)
  | makeM (x : Option Operand)
  | slice3 (size : Nat) (x : Operand) (lo hi : Option Operand) (mx : Operand)
  | clearS (z : List Value) (x : Operand)
  | makeS (e : TypeId) (bytes : Nat) (z : List Value) (n c : Operand)
  | mkiface (t : TypeId) (x : Operand)
  | call (f : FuncId) (xs : List Operand)
  | callv (x : Operand) (xs : List Operand)
  /-- A new block whose place in the order is open: its number among those that are kept; its number. -/
  | flo (j : Nat) (o : AOp)
  | floAt (b : Nat) (o : AOp)
  | stop

def avals (ts : List Value) : List Operand → Option (List Value)
  | [] => some []
  | x :: r => match aval ts x, avals ts r with
    | some v, some l => some (v :: l)
    | _, _ => none

def avalO (ts : List Value) : Option Operand → Option (Option Value)
  | none => some none
  | some x => (aval ts x).map some

def aparts (ts : List Value) : List (Nat × Nat × Operand) → Option (List (Nat × Nat × Value))
  | [] => some []
  | (o, s, x) :: r => match aval ts x, aparts ts r with
    | some v, some l => some ((o, s, v) :: l)
    | _, _ => none

def runBuildSlice (e : TypeId) (len : Nat) (cells : List Value) (m : Mem) : Value × Mem := (.slice (some ⟨m.next, 0, none⟩) len len, m.add ⟨.cells cells e, false, none⟩)

def hintOk : Option Value → Bool
  | none => true
  | some (.int _ _) => true
  | _ => false

def runExtract (i : Nat) (v : Value) : Option Value :=
  match v with
  | .tuple vs => vs[i]?
  | _ => none

def runNilck (v : Value) : Option Value :=
  match v with
  | .pointer (some _) => some v
  | .func (.func _) _ _ => some v
  | _ => none

def asB (v : Value) : Option Bool :=
  match v with
  | .bool b => some b
  | _ => none

/-- A slice with a bound on its room. -/
def runSlice3 (size : Nat) (v : Value) (lo hi : Option Value) (mx : Value) (m : Mem) : Option Value :=
  match v, hi, mx with
  | .slice (some ⟨b, off, none⟩) len cap, some h, .int _ k =>
    if 0 ≤ k ∧ k ≤ cap ∧ len ≤ cap then (boundsV len k.toNat lo (some h)).bind fun p =>
      if p.1 = 0 ∨ m.known b = .exact ∨ m.known b = .loose size then some (.slice (some ⟨b, if k.toNat = p.1 then off else off + p.1 * size, none⟩) (p.2 - p.1) (k.toNat - p.1)) else none
    else none
  | _, _, _ => none

def runClear (z : List Value) (v : Value) (m : Mem) : Option Mem :=
  match v with
  | .slice none _ _ => some m
  | .slice (some ⟨b, off, none⟩) len cap =>
    if len = 0 then some m
    else (m.ownAt b).bind fun q => if off + len * z.length ≤ q.1.length ∧ cap ≠ 0 ∧ z.all (·.oneCell') = true then some (m.put b ⟨.cells (setRange q.1 off (List.replicate len z).flatten) q.2.1, false, q.2.2⟩) else none
  | _ => none

def runMakeS (e : TypeId) (bytes : Nat) (z : List Value) (n c : Value) (m : Mem) : Option (Value × Mem) :=
  match n, c with
  | .int _ n, .int _ c =>
    if 0 ≤ n ∧ n ≤ c ∧ c ≤ 2 ^ 47 ∧ bytes * c ≤ 2 ^ 47 then some (.slice (some ⟨m.next, 0, none⟩) n.toNat c.toNat, m.add ⟨.cells (List.replicate c.toNat z).flatten e, false, none⟩) else none
  | _, _ => none

/-- What a new block holds, and whether a slice of it is meant. -/
def newBlk (ts : List Value) : AOp → Option (ABlk × Option Nat)
  | .alloc e z => some (⟨.cells z.cells.toList e, false, none⟩, none)
  | .box e x => (aval ts x).map fun v => (⟨.cells v.cells.toList e, false, none⟩, none)
  | .buildSlice e len z ps => (aparts ts ps).bind fun l => (afill z l).map fun c => (⟨.cells c e, false, none⟩, some len)
  | _ => none
def newVal (b : Nat) : Option Nat → Value
  | none => .pointer (some ⟨b, 0, none⟩)
  | some n => .slice (some ⟨b, 0, none⟩) n n

def AOp.run (ts : List Value) (m : Mem) : AOp → Option (Value × Mem)
  | .mov x => (aval ts x).map (·, m)
  | .nilck x => (aval ts x).bind fun v => (runNilck v).map (·, m)
  | .pick c a b => (aval ts c).bind fun v => (asB v).bind fun t => (aval ts a).bind fun p => (aval ts b).map fun q => (if t then p else q, m)
  | .alloc e z => some (runBox e z m)
  | .box e x => (aval ts x).map fun v => runBox e v m
  | .build z ps => (aparts ts ps).bind fun l => (afill z l).map fun c => (.agg c.toArray, m)
  | .buildSlice e len z ps => (aparts ts ps).bind fun l => (afill z l).map fun c => runBuildSlice e len c m
  | .load1 x => (aval ts x).bind fun v => (runLoad1 v m).map (·, m)
  | .loadN n x => (aval ts x).bind fun v => (runLoadN n v m).map (·, m)
  | .store n a x => (aval ts a).bind fun v => (aval ts x).bind fun u => (runStore n v u m).map (undef, ·)
  | .arith op x y => (aval ts x).bind fun v => (aval ts y).bind fun u => (Fx.arith op v u).map (·, m)
  | .eqD neg d x y => (aval ts x).bind fun v => (aval ts y).bind fun u => (runEq neg (.st d) v u).map (·, m)
  | .eqBool neg x y => (aval ts x).bind fun v => (aval ts y).bind fun u => (runEqBool neg v u).map (·, m)
  | .eqNil k neg x y => (aval ts x).bind fun v => (aval ts y).bind fun u => (runEqNil k neg v u).map (·, m)
  | .un op x => (aval ts x).bind fun v => (runUn op v).map (·, m)
  | .conv k x => (aval ts x).bind fun v => (runConv k v).map (·, m)
  | .b2s x => (aval ts x).bind fun v => (runB2S v m).map (·, m)
  | .fieldAddr off x => (aval ts x).bind fun v => (runFieldAddr off v).map (·, m)
  | .field off size agg x => (aval ts x).bind fun v => (runField off size agg v).map (·, m)
  | .indexS size x i => (aval ts x).bind fun v => (aval ts i).bind fun u => (runIndexS size v u).map (·, m)
  | .indexA len size x i => (aval ts x).bind fun v => (aval ts i).bind fun u => (runIndexA len size v u).map (·, m)
  | .indexStr x i => (aval ts x).bind fun v => (aval ts i).bind fun u => (runIndexStr v u).map (·, m)
  | .indexArr len size agg x i => (aval ts x).bind fun v => (aval ts i).bind fun u => (runIndexArr len size agg v u).map (·, m)
  | .sliceStr x lo hi => (aval ts x).bind fun v => (avalO ts lo).bind fun l => (avalO ts hi).bind fun h => (runSliceStr v l h).map (·, m)
  | .sliceS size x lo hi => (aval ts x).bind fun v => (avalO ts lo).bind fun l => (avalO ts hi).bind fun h => (runSliceS size v l h m).map (·, m)
  | .sliceA n size x lo hi => (aval ts x).bind fun v => (avalO ts lo).bind fun l => (avalO ts hi).bind fun h => (runSliceA n size v l h m).map (·, m)
  | .extract i x => (aval ts x).bind fun v => (runExtract i v).map (·, m)
  | .lenS x => (aval ts x).bind fun v => (runLenSlice v).map (·, m)
  | .lenStr x => (aval ts x).bind fun v => (runLenStr v).map (·, m)
  | .append e size eb x y => (aval ts x).bind fun v => (aval ts y).bind fun u => (runSrc size u m).bind fun p => runAppend e size eb v p.1 p.2 m
  | .copy size x y => (aval ts x).bind fun v => (aval ts y).bind fun u => (runSrc size u m).bind fun p => runCopy size v p.1 p.2 m
  | .min x xs => (aval ts x).bind fun v => (avals ts xs).bind fun l => (foldV min2 v l).map (·, m)
  | .max x xs => (aval ts x).bind fun v => (avals ts xs).bind fun l => (foldV max2 v l).map (·, m)
  | .mkfunc f fs xs => (avals ts fs).bind fun h => (avals ts xs).map fun l => (.func (.func f) h.toArray l.toArray, m)
  | .p1 k x => (aval ts x).bind fun v => (k.run v).map (·, m)
  | .p2 k x y => (aval ts x).bind fun v => (aval ts y).bind fun u => (k.run v u).map (·, m)
  | .r1 k x => (aval ts x).bind fun v => (k.run v m).map (·, m)
  | .r2 k x y => (aval ts x).bind fun v => (aval ts y).bind fun u => (k.run v u m).map (·, m)
  | .e1 k x => (aval ts x).bind fun v => k.run v m
  | .e2 k x y => (aval ts x).bind fun v => (aval ts y).bind fun u => k.run v u m
  | .mapUpd kk x k y => (aval ts x).bind fun v => (aval ts k).bind fun q => (aval ts y).bind fun u => (runMapUpd kk v q u m).map (undef, ·)
  | .makeM x => (avalO ts x).bind fun h => if hintOk h = true then some (runMakeM m) else none
  | .slice3 size x lo hi mx => (aval ts x).bind fun v => (avalO ts lo).bind fun l => (avalO ts hi).bind fun h => (aval ts mx).bind fun u => (runSlice3 size v l h u m).map (·, m)
  | .clearS z x => (aval ts x).bind fun v => (runClear z v m).map (undef, ·)
  | .makeS e bytes z n c => (aval ts n).bind fun v => (aval ts c).bind fun u => runMakeS e bytes z v u m
  | .mkiface t x => (aval ts x).map fun v => (.iface t v, m)
  | .call _ _ => none
  | .callv _ _ => none
  | .floAt b o => (newBlk ts o).map fun p => (newVal b p.2, m.put b p.1)
  | .flo _ _ => none
  | .stop => none

/- reading the program's text -/
def sizeT (P : Program) (t : TypeId) : Option Nat := (P.info? t).map (·.size)
def elemT (P : Program) (t : TypeId) : Option TypeId :=
  match P.underlying t with
  | some (.slice e) => some e
  | _ => none
def arrT (P : Program) (t : TypeId) : Option (Nat × TypeId) :=
  match P.underlying t with
  | some (.array n e) => some (n, e)
  | _ => none
def fieldsT (P : Program) (t : TypeId) : Option (Array Field) :=
  match P.underlying t with
  | some (.struct fs) => some fs
  | _ => none
/-- The cells of a type's zero value, where they are plain. -/
def zeroT (P : Program) (t : TypeId) : Option Value :=
  (P.info? t).bind fun i => i.zero.bind fun z => if z.cells.toList.all plain then some z else none

mutual
def mkEqD (P : Program) : Nat → TypeId → Option EqD
  | 0, _ => none
  | n + 1, t => match P.underlying t with
    | some .bool => some (.sc .bool)
    | some (.int _) => some (.sc .int)
    | some .string => some (.sc .string)
    | some (.struct fs) => (mkEqFs P n fs.toList).map .st
    | _ => none
def mkEqFs (P : Program) : Nat → List Field → Option (List (Nat × Nat × Bool × EqD))
  | _, [] => some []
  | 0, _ :: _ => none
  | n + 1, f :: fs => (sizeT P f.type).bind fun s => (aggT P f.type).bind fun a => (mkEqD P n f.type).bind fun d => (mkEqFs P n fs).map fun r => (f.offset, s, a, d) :: r
end

def mapT (P : Program) (t : TypeId) : Option (TypeId × TypeId) :=
  match P.underlying t with
  | some (.map k e) => some (k, e)
  | _ => none

def resEq (P : Program) (neg : Bool) (t : TypeId) (x y : Operand) : Option AOp :=
  match P.underlying t with
  | some (.interface _) => if (isC x || isC y) = true then some (.p2 (.eqIface neg) x y) else none
  | some (.pointer e) => if (isC x || isC y) = true then some (.eqNil .ptr neg x y) else (sizeT P e).bind fun s => if s ≠ 0 then some (.r2 (.eqPtr neg) x y) else none
  | some (.int _) | some .string => some (.arith (if neg then .neq else .eql) x y)
  | some .bool => some (.eqBool neg x y)
  | some (.struct _) => match mkEqD P 40 t with
    | some (.st d) => if eqOk P (.st d) t = true ∧ P.eqGuardType P.depth t = false ∧ (EqD.st d).depth ≤ 10000 then some (.eqD neg d x y) else none
    | _ => none
  | _ => (nilKindT P t).map fun k => .eqNil k neg x y

def resParts (place : Nat → Option (Nat × Nat)) : List (Nat × Operand) → Option (List (Nat × Nat × Operand))
  | [] => some []
  | (i, x) :: r => (place i).bind fun p => (resParts place r).map fun l => (p.1, p.2, x) :: l

def fieldPlaces (P : Program) (fs : Array Field) : Option (List (Nat × Nat)) := fs.toList.mapM fun f => (sizeT P f.type).map fun s => (f.offset, s)

def resBuiltin (P : Program) (b : Builtin) (ts : List TypeId) (xs : List Operand) : Option AOp :=
  match b, ts, xs with
  | .len, [t], [x] => match P.underlying t with
    | some (.slice _) => some (.lenS x)
    | some .string => some (.lenStr x)
    | some (.map _ _) => some (.r1 .lenM x)
    | _ => none
  | .cap, [t], [x] => (elemT P t).map fun _ => .r1 .cap x
  | .delete, [t, _], [x, k] => (mapT P t).bind fun p => (kkT P p.1).map fun kk => .e2 (.delM kk) x k
  | .unsafeSliceData, _, [x] => some (.p1 .sliceData x)
  | .unsafeString, [t, _], [x, n] => match P.underlying t with
    | some (.pointer e) => if P.cellsOf e = 1 then some (.e2 (.unsafeStr e) x n) else none
    | _ => none
  | .append, [t, u], [x, y] => (elemT P t).bind fun e => (P.info? e).bind fun i => i.zero.bind fun z => if z.cells.size = i.size ∧ srcT P u = true then some (.append e i.size i.bytes x y) else none
  | .copy, [t, _], [x, y] => (elemT P t).bind fun e => (sizeT P e).map fun s => .copy s x y
  | .min, _, x :: xs => some (.min x xs)
  | .max, _, x :: xs => some (.max x xs)
  | .clear, [t], [x] => match P.underlying t with
    | some (.map _ _) => some (.e1 .clearM x)
    | some (.slice e) => (sizeT P e).bind fun s => (zeroT P e).bind fun z => if z.cells.size = s then some (.clearS z.cells.toList x) else none
    | _ => none
  | _, _, _ => none

/-- Numbers from here on are calls of a round. -/
def yBase : Nat := 1152921504606846976
def goodFn (P : Program) (f : FuncId) : Bool :=
  match P.funcs[f]? with
  | some fn => Nat.blt f yBase && fn.name != "runtime.NumGoroutine" && fn.body.isSome
  | none => false

/-- A function without a text. -/
def resExt (P : Program) (f : FuncId) (xs : List Operand) : Option AOp :=
  (extOf P f).bind fun p => match p.1, xs with
    | .noEscape, [x] => some (.mov x)
    | .noZero, [x] => match p.2.resultTypes.toList with
      | [t] => (elemT P t).map fun e => .e1 (.noZero e) x
      | _ => none
    | .idxByte, [x, y] => some (.p2 .idxByte x y)
    | .cloneM, [x] => some (.e1 .cloneM x)
    | _, _ => none

def AOp.isCall : AOp → Bool
  | .call _ _ | .callv _ _ => true
  | _ => false
def notCall (a : Option AOp) : Option AOp := a.bind fun o => if o.isCall = true then none else some o

def resCall (P : Program) (c : Call) : Option AOp :=
  match c.callee with
  | .builtin b => notCall (resBuiltin P b c.argTypes.toList c.args.toList)
  | .value (.func f) => if goodFn P f then some (.call f c.args.toList) else notCall (resExt P f c.args.toList)
  | .value x => some (.callv x c.args.toList)
  | _ => none

def resO (P : Program) (o : Oper) : Option AOp :=
  match o.op with
  | .move x | .assign x => some (.mov x)
  | .nilCheck x => some (.nilck x)
  | .pick c a b => some (.pick c a b)
  | .alloc e => (zeroT P e).map fun z => .alloc e z
  | .box e x => some (.box e x)
  | .lookup t x k ok => (mapT P t).bind fun p => (kkT P p.1).bind fun kk => (zeroT P p.2).map fun z => .r2 (.lookup kk z ok) x k
  | .mapUpdate t x k y | .insert t x k y => (mapT P t).bind fun p => (kkT P p.1).map fun kk => .mapUpd kk x k y
  | .makeMap t x => (mapT P t).map fun _ => .makeM x
  | .range t x => match P.underlying t with
    | some .string => some (.e1 .rangeS x)
    | _ => none
  | .next x true => some (.e1 .nextS x)
  | .typeAssert x _ t ok => match P.underlying t with
    | some (.interface _) => none
    | some _ => (zeroT P t).map fun z => .p1 (.assert t ok z) x
    | none => none
  | .build t ps => match arrT P t with
    | some p => (sizeT P p.2).bind fun s => (zeroT P t).bind fun z => (resParts (fun i => some (i * s, s)) ps.toList).map fun l => .build z.cells.toList l
    | none => (fieldsT P t).bind fun fs => (zeroT P t).bind fun z => (fieldPlaces P fs).bind fun pl => (resParts (fun i => pl[i]?) ps.toList).map fun l => .build z.cells.toList l
  | .buildSlice t len ps => (elemT P t).bind fun e => (sizeT P e).bind fun s => (zeroT P e).bind fun z =>
      if len * s ≤ 2 ^ 24 ∧ z.cells.size = s ∧ z.cells.toList.all plain = true then (resParts (fun i => some (i * s, s)) ps.toList).map fun l => .buildSlice e len (List.replicate len z.cells.toList).flatten l else none
  | .load t x => (aggT P t).bind fun a => if a then (sizeT P t).map fun n => .loadN n x else some (.load1 x)
  | .store t a x => (sizeT P t).map fun n => .store n a x
  | .binOp op t x y _ => match op with
    | .eql => resEq P false t x y
    | .neq => resEq P true t x y
    | _ => some (.arith op x y)
  | .unOp op _ x => some (.un op x)
  | .convert s d x => match P.underlying s, P.underlying d with
    | some _, some (.int k) => some (.conv k x)
    | some .string, some (.slice e) => match P.underlying e with
      | some (.int .u8) => some (.e1 (.s2b e) x)
      | _ => none
    | some (.pointer t), some .unsafePointer => (sizeT P t).bind fun s => if s ≠ 0 then some (.r1 .p2u x) else none
    | some .unsafePointer, some (.pointer t) => (sizeT P t).bind fun s => if s ≠ 0 ∧ P.cellsOf t = s then some (.r1 (.u2p t s) x) else none
    | some (.slice e), some .string => match P.underlying e with
      | some (.int .u8) => some (.b2s x)
      | _ => none
    | _, _ => none
  | .fieldAddr t x k => (fieldsT P t).bind fun fs => (fs[k]?).bind fun f => (sizeT P f.type).bind fun s => if s ≠ 0 then some (.fieldAddr f.offset x) else none
  | .field t x k => (fieldsT P t).bind fun fs => (fs[k]?).bind fun f => (sizeT P f.type).bind fun s => (aggT P f.type).map fun a => .field f.offset s a x
  | .indexAddr t x i => match elemT P t with
    | some e => (sizeT P e).map fun s => .indexS s x i
    | none => (arrT P t).bind fun p => (sizeT P p.2).map fun s => .indexA p.1 s x i
  | .index t x i => match P.underlying t with
    | some .string => some (.indexStr x i)
    | some (.array n e) => (sizeT P e).bind fun s => (aggT P e).map fun a => .indexArr n s a x i
    | _ => none
  | .slice t x lo hi none => match P.underlying t with
    | some .string => some (.sliceStr x lo hi)
    | some (.slice e) => (sizeT P e).map fun s => .sliceS s x lo hi
    | some (.array n e) => (sizeT P e).map fun s => .sliceA n s x lo hi
    | _ => none
  | .slice t x lo hi (some mx) => (elemT P t).bind fun e => (sizeT P e).map fun s => .slice3 s x lo hi mx
  | .makeSlice t n c => (elemT P t).bind fun e => (P.info? e).bind fun i => (zeroT P e).bind fun z => if z.cells.size = i.size then some (.makeS e i.bytes z.cells.toList n c) else none
  | .makeInterface t x => (P.underlying t).bind fun d => match d with
    | .interface _ => none
    | _ => some (.mkiface t x)
  | .extract x i => some (.extract i x)
  | .makeFunc (.func f) first captured => some (.mkfunc f first.toList captured.toList)
  | _ => none

def res (P : Program) (o : Oper) : Option AOp :=
  match o.op with
  | .call c => resCall P c
  | _ => notCall (resO P o)

end Go.Fx
