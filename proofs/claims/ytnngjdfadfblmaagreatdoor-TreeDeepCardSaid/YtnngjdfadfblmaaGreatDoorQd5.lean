/- Parts of a proof: FxRes, FxOps6, FxSound. Conditions: none. -/
import Derived.Test.YtnngjdfadfblmaaGreatDoorQd4
namespace Go.Fx
open Go
set_option linter.unusedSimpArgs false
set_option linter.unusedVariables false
inductive AOp where
 | mov (x:Operand)
 | nilck (x:Operand)
 | pick (c a b:Operand)
 | alloc (e:TypeId) (z:Value)
 | box (e:TypeId) (x:Operand)
 | build (z:List Value) (ps:List (Nat × Nat × Operand))
 | buildSlice (e:TypeId) (len:Nat) (z:List Value) (ps:List (Nat × Nat × Operand))
 | load1 (x:Operand)
 | loadN (n:Nat) (x:Operand)
 | store (n:Nat) (a x:Operand)
 | arith (op:BinOp) (x y:Operand)
 | eqD (neg:Bool) (d:List (Nat × Nat × Bool × EqD)) (x y:Operand)
 | eqBool (neg:Bool) (x y:Operand)
 | eqNil (k:NilK) (neg:Bool) (x y:Operand)
 | un (op:UnOp) (x:Operand)
 | conv (k:IntKind) (x:Operand)
 | b2s (x:Operand)
 | fieldAddr (off:Nat) (x:Operand)
 | field (off size:Nat) (agg:Bool) (x:Operand)
 | indexS (size:Nat) (x i:Operand)
 | indexA (len size:Nat) (x i:Operand)
 | indexStr (x i:Operand)
 | indexArr (len size:Nat) (agg:Bool) (x i:Operand)
 | sliceStr (x:Operand) (lo hi:Option Operand)
 | sliceS (size:Nat) (x:Operand) (lo hi:Option Operand)
 | sliceA (n size:Nat) (x:Operand) (lo hi:Option Operand)
 | extract (i:Nat) (x:Operand)
 | lenS (x:Operand)
 | lenStr (x:Operand)
 | append (e:TypeId) (size eb:Nat) (x y:Operand)
 | copy (size:Nat) (x y:Operand)
 | min (x:Operand) (xs:List Operand)
 | max (x:Operand) (xs:List Operand)
 | mkfunc (f:FuncId) (fs xs:List Operand)
 | p1 (k:P1) (x:Operand)
 | p2 (k:P2) (x y:Operand)
 | r1 (k:R1) (x:Operand)
 | r2 (k:R2) (x y:Operand)
 | e1 (k:E1) (x:Operand)
 | e2 (k:E2) (x y:Operand)
 | mapUpd (kk:KK) (m k x:Operand)
 | makeM (x:Option Operand)
 | slice3 (size:Nat) (x:Operand) (lo hi:Option Operand) (mx:Operand)
 | clearS (z:List Value) (x:Operand)
 | makeS (e:TypeId) (bytes:Nat) (z:List Value) (n c:Operand)
 | mkiface (t:TypeId) (x:Operand)
 | call (f:FuncId) (xs:List Operand)
 | callv (x:Operand) (xs:List Operand)
 | flo (j:Nat) (o:AOp)
 | floAt (b:Nat) (o:AOp)
 | stop
def avals (ts:List Value):List Operand→Option (List Value)
 | []=>some []
 | x::r=>match aval ts x,avals ts r with
  | some v,some l=>some (v::l)
  | _,_=>none
def avalO (ts:List Value):Option Operand→Option (Option Value)
 | none=>some none
 | some x=>(aval ts x).map some
def aparts (ts:List Value):List (Nat × Nat × Operand)→Option (List (Nat × Nat × Value))
 | []=>some []
 | (o,s,x)::r=>match aval ts x,aparts ts r with
  | some v,some l=>some ((o,s,v)::l)
  | _,_=>none
def runBuildSlice (e:TypeId) (len:Nat) (cells:List Value) (m:Mem):Value × Mem:=(.slice (some ⟨m.next,0,none⟩) len len,m.add ⟨.cells cells e,false,none⟩)
def hintOk:Option Value→Bool
 | none=>true
 | some (.int _ _)=>true
 | _=>false
def runExtract (i:Nat) (v:Value):Option Value :=
 match v with
 | .tuple vs=>vs[i]?
 | _=>none
def runNilck (v:Value):Option Value :=
 match v with
 | .pointer (some _)=>some v
 | .func (.func _) _ _=>some v
 | _=>none
def asB (v:Value):Option Bool :=
 match v with
 | .bool b=>some b
 | _=>none
def runSlice3 (size:Nat) (v:Value) (lo hi:Option Value) (mx:Value) (m:Mem):Option Value :=
 match v,hi,mx with
 | .slice (some ⟨b,off,none⟩) len cap,some h,.int _ k =>
  if 0≤k∧k≤cap∧len≤cap then (boundsV len k.toNat lo (some h)).bind fun p =>
   if p.1=0∨m.known b=.exact∨m.known b=.loose size then some (.slice (some ⟨b,if k.toNat=p.1 then off else off+p.1 * size,none⟩) (p.2 - p.1) (k.toNat - p.1)) else none
  else none
 | _,_,_=>none
def runClear (z:List Value) (v:Value) (m:Mem):Option Mem :=
 match v with
 | .slice none _ _=>some m
 | .slice (some ⟨b,off,none⟩) len cap =>
  if len=0 then some m
  else (m.ownAt b).bind fun q=>if off+len * z.length≤q.1.length∧cap≠0∧z.all (·.oneCell')=true then some (m.put b ⟨.cells (setRange q.1 off (List.replicate len z).flatten) q.2.1,false,q.2.2⟩) else none
 | _=>none
def runMakeS (e:TypeId) (bytes:Nat) (z:List Value) (n c:Value) (m:Mem):Option (Value × Mem) :=
 match n,c with
 | .int _ n,.int _ c =>
  if 0≤n∧n≤c∧c≤2 ^ 47∧bytes * c≤2 ^ 47 then some (.slice (some ⟨m.next,0,none⟩) n.toNat c.toNat,m.add ⟨.cells (List.replicate c.toNat z).flatten e,false,none⟩) else none
 | _,_=>none
def newBlk (ts:List Value):AOp→Option (ABlk × Option Nat)
 | .alloc e z=>some (⟨.cells z.cells.toList e,false,none⟩,none)
 | .box e x=>(aval ts x).map fun v=>(⟨.cells v.cells.toList e,false,none⟩,none)
 | .buildSlice e len z ps=>(aparts ts ps).bind fun l=>(afill z l).map fun c=>(⟨.cells c e,false,none⟩,some len)
 | _=>none
def newVal (b:Nat):Option Nat→Value
 | none=>.pointer (some ⟨b,0,none⟩)
 | some n=>.slice (some ⟨b,0,none⟩) n n
def AOp.run (ts:List Value) (m:Mem):AOp→Option (Value × Mem)
 | .mov x=>(aval ts x).map (·,m)
 | .nilck x=>(aval ts x).bind fun v=>(runNilck v).map (·,m)
 | .pick c a b=>(aval ts c).bind fun v=>(asB v).bind fun t=>(aval ts a).bind fun p=>(aval ts b).map fun q=>(if t then p else q,m)
 | .alloc e z=>some (runBox e z m)
 | .box e x=>(aval ts x).map fun v=>runBox e v m
 | .build z ps=>(aparts ts ps).bind fun l=>(afill z l).map fun c=>(.agg c.toArray,m)
 | .buildSlice e len z ps=>(aparts ts ps).bind fun l=>(afill z l).map fun c=>runBuildSlice e len c m
 | .load1 x=>(aval ts x).bind fun v=>(runLoad1 v m).map (·,m)
 | .loadN n x=>(aval ts x).bind fun v=>(runLoadN n v m).map (·,m)
 | .store n a x=>(aval ts a).bind fun v=>(aval ts x).bind fun u=>(runStore n v u m).map (undef,·)
 | .arith op x y=>(aval ts x).bind fun v=>(aval ts y).bind fun u=>(Fx.arith op v u).map (·,m)
 | .eqD neg d x y=>(aval ts x).bind fun v=>(aval ts y).bind fun u=>(runEq neg (.st d) v u).map (·,m)
 | .eqBool neg x y=>(aval ts x).bind fun v=>(aval ts y).bind fun u=>(runEqBool neg v u).map (·,m)
 | .eqNil k neg x y=>(aval ts x).bind fun v=>(aval ts y).bind fun u=>(runEqNil k neg v u).map (·,m)
 | .un op x=>(aval ts x).bind fun v=>(runUn op v).map (·,m)
 | .conv k x=>(aval ts x).bind fun v=>(runConv k v).map (·,m)
 | .b2s x=>(aval ts x).bind fun v=>(runB2S v m).map (·,m)
 | .fieldAddr off x=>(aval ts x).bind fun v=>(runFieldAddr off v).map (·,m)
 | .field off size agg x=>(aval ts x).bind fun v=>(runField off size agg v).map (·,m)
 | .indexS size x i=>(aval ts x).bind fun v=>(aval ts i).bind fun u=>(runIndexS size v u).map (·,m)
 | .indexA len size x i=>(aval ts x).bind fun v=>(aval ts i).bind fun u=>(runIndexA len size v u).map (·,m)
 | .indexStr x i=>(aval ts x).bind fun v=>(aval ts i).bind fun u=>(runIndexStr v u).map (·,m)
 | .indexArr len size agg x i=>(aval ts x).bind fun v=>(aval ts i).bind fun u=>(runIndexArr len size agg v u).map (·,m)
 | .sliceStr x lo hi=>(aval ts x).bind fun v=>(avalO ts lo).bind fun l=>(avalO ts hi).bind fun h=>(runSliceStr v l h).map (·,m)
 | .sliceS size x lo hi=>(aval ts x).bind fun v=>(avalO ts lo).bind fun l=>(avalO ts hi).bind fun h=>(runSliceS size v l h m).map (·,m)
 | .sliceA n size x lo hi=>(aval ts x).bind fun v=>(avalO ts lo).bind fun l=>(avalO ts hi).bind fun h=>(runSliceA n size v l h m).map (·,m)
 | .extract i x=>(aval ts x).bind fun v=>(runExtract i v).map (·,m)
 | .lenS x=>(aval ts x).bind fun v=>(runLenSlice v).map (·,m)
 | .lenStr x=>(aval ts x).bind fun v=>(runLenStr v).map (·,m)
 | .append e size eb x y=>(aval ts x).bind fun v=>(aval ts y).bind fun u=>(runSrc size u m).bind fun p=>runAppend e size eb v p.1 p.2 m
 | .copy size x y=>(aval ts x).bind fun v=>(aval ts y).bind fun u=>(runSrc size u m).bind fun p=>runCopy size v p.1 p.2 m
 | .min x xs=>(aval ts x).bind fun v=>(avals ts xs).bind fun l=>(foldV min2 v l).map (·,m)
 | .max x xs=>(aval ts x).bind fun v=>(avals ts xs).bind fun l=>(foldV max2 v l).map (·,m)
 | .mkfunc f fs xs=>(avals ts fs).bind fun h=>(avals ts xs).map fun l=>(.func (.func f) h.toArray l.toArray,m)
 | .p1 k x=>(aval ts x).bind fun v=>(k.run v).map (·,m)
 | .p2 k x y=>(aval ts x).bind fun v=>(aval ts y).bind fun u=>(k.run v u).map (·,m)
 | .r1 k x=>(aval ts x).bind fun v=>(k.run v m).map (·,m)
 | .r2 k x y=>(aval ts x).bind fun v=>(aval ts y).bind fun u=>(k.run v u m).map (·,m)
 | .e1 k x=>(aval ts x).bind fun v=>k.run v m
 | .e2 k x y=>(aval ts x).bind fun v=>(aval ts y).bind fun u=>k.run v u m
 | .mapUpd kk x k y=>(aval ts x).bind fun v=>(aval ts k).bind fun q=>(aval ts y).bind fun u=>(runMapUpd kk v q u m).map (undef,·)
 | .makeM x=>(avalO ts x).bind fun h=>if hintOk h=true then some (runMakeM m) else none
 | .slice3 size x lo hi mx=>(aval ts x).bind fun v=>(avalO ts lo).bind fun l=>(avalO ts hi).bind fun h=>(aval ts mx).bind fun u=>(runSlice3 size v l h u m).map (·,m)
 | .clearS z x=>(aval ts x).bind fun v=>(runClear z v m).map (undef,·)
 | .makeS e bytes z n c=>(aval ts n).bind fun v=>(aval ts c).bind fun u=>runMakeS e bytes z v u m
 | .mkiface t x=>(aval ts x).map fun v=>(.iface t v,m)
 | .call _ _=>none
 | .callv _ _=>none
 | .floAt b o=>(newBlk ts o).map fun p=>(newVal b p.2,m.put b p.1)
 | .flo _ _=>none
 | .stop=>none
def sizeT (P:Program) (t:TypeId):Option Nat:=(P.info? t).map (·.size)
def elemT (P:Program) (t:TypeId):Option TypeId :=
 match P.underlying t with
 | some (.slice e)=>some e
 | _=>none
def arrT (P:Program) (t:TypeId):Option (Nat × TypeId) :=
 match P.underlying t with
 | some (.array n e)=>some (n,e)
 | _=>none
def fieldsT (P:Program) (t:TypeId):Option (Array Field) :=
 match P.underlying t with
 | some (.struct fs)=>some fs
 | _=>none
def zeroT (P:Program) (t:TypeId):Option Value :=
 (P.info? t).bind fun i=>i.zero.bind fun z=>if z.cells.toList.all plain then some z else none
mutual
def mkEqD (P:Program):Nat→TypeId→Option EqD
 | 0,_=>none
 | n+1,t=>match P.underlying t with
  | some .bool=>some (.sc .bool)
  | some (.int _)=>some (.sc .int)
  | some .string=>some (.sc .string)
  | some (.struct fs)=>(mkEqFs P n fs.toList).map .st
  | _=>none
def mkEqFs (P:Program):Nat→List Field→Option (List (Nat × Nat × Bool × EqD))
 | _,[]=>some []
 | 0,_::_=>none
 | n+1,f::fs=>(sizeT P f.type).bind fun s=>(aggT P f.type).bind fun a=>(mkEqD P n f.type).bind fun d=>(mkEqFs P n fs).map fun r=>(f.offset,s,a,d)::r
end
def mapT (P:Program) (t:TypeId):Option (TypeId × TypeId) :=
 match P.underlying t with
 | some (.map k e)=>some (k,e)
 | _=>none
def resEq (P:Program) (neg:Bool) (t:TypeId) (x y:Operand):Option AOp :=
 match P.underlying t with
 | some (.interface _)=>if (isC x||isC y)=true then some (.p2 (.eqIface neg) x y) else none
 | some (.pointer e)=>if (isC x||isC y)=true then some (.eqNil .ptr neg x y) else (sizeT P e).bind fun s=>if s≠0 then some (.r2 (.eqPtr neg) x y) else none
 | some (.int _)|some .string=>some (.arith (if neg then .neq else .eql) x y)
 | some .bool=>some (.eqBool neg x y)
 | some (.struct _)=>match mkEqD P 40 t with
  | some (.st d)=>if eqOk P (.st d) t=true∧P.eqGuardType P.depth t=false∧(EqD.st d).depth≤10000 then some (.eqD neg d x y) else none
  | _=>none
 | _=>(nilKindT P t).map fun k=>.eqNil k neg x y
def resParts (place:Nat→Option (Nat × Nat)):List (Nat × Operand)→Option (List (Nat × Nat × Operand))
 | []=>some []
 | (i,x)::r=>(place i).bind fun p=>(resParts place r).map fun l=>(p.1,p.2,x)::l
def fieldPlaces (P:Program) (fs:Array Field):Option (List (Nat × Nat)):=fs.toList.mapM fun f=>(sizeT P f.type).map fun s=>(f.offset,s)
def intT (P:Program) (t:TypeId):Bool :=
 match P.underlying t with
 | some (.int _)=>true
 | _=>false
def resBuiltin (P:Program) (b:Builtin) (ts:List TypeId) (xs:List Operand):Option AOp :=
 match b,ts,xs with
 | .len,[t],[x]=>match P.underlying t with
  | some (.slice _)=>some (.lenS x)
  | some .string=>some (.lenStr x)
  | some (.map _ _)=>some (.r1 .lenM x)
  | _=>none
 | .cap,[t],[x]=>(elemT P t).map fun _=>.r1 .cap x
 | .delete,[t,_],[x,k]=>(mapT P t).bind fun p=>(kkT P p.1).map fun kk=>.e2 (.delM kk) x k
 | .unsafeSliceData,_,[x]=>some (.p1 .sliceData x)
 | .unsafeString,[t,_],[x,n]=>match P.underlying t with
  | some (.pointer e)=>if P.cellsOf e=1 then some (.e2 (.unsafeStr e) x n) else none
  | _=>none
 | .append,[t,u],[x,y]=>(elemT P t).bind fun e=>(P.info? e).bind fun i=>i.zero.bind fun z=>if z.cells.size=i.size∧srcT P u=true then some (.append e i.size i.bytes x y) else if z.cells.size=i.size∧z.cells.toList.all plain=true∧intT P u=true then some (.e2 (.appendN e i.size i.bytes z) x y) else none
 | .copy,[t,_],[x,y]=>(elemT P t).bind fun e=>(sizeT P e).map fun s=>.copy s x y
 | .min,_,x::xs=>some (.min x xs)
 | .max,_,x::xs=>some (.max x xs)
 | .clear,[t],[x]=>match P.underlying t with
  | some (.map _ _)=>some (.e1 .clearM x)
  | some (.slice e)=>(sizeT P e).bind fun s=>(zeroT P e).bind fun z=>if z.cells.size=s then some (.clearS z.cells.toList x) else none
  | _=>none
 | _,_,_=>none
def yBase:Nat:=1152921504606846976
def goodFn (P:Program) (f:FuncId):Bool :=
 match P.funcs[f]? with
 | some fn => Nat.blt f yBase && fn.name != "runtime.NumGoroutine" && fn.body.isSome
 | none=>false
def resExt (P:Program) (f:FuncId) (xs:List Operand):Option AOp :=
 (extOf P f).bind fun p=>match p.1,xs with
  | .noEscape,[x]=>some (.mov x)
  | .noZero,[x]=>match p.2.resultTypes.toList with
   | [t]=>(elemT P t).map fun e=>.e1 (.noZero e) x
   | _=>none
  | .idxByte,[x,y]=>some (.p2 .idxByte x y)
  | .cloneM,[x]=>some (.e1 .cloneM x)
  | _,_=>none
def AOp.isCall:AOp→Bool
 | .call _ _|.callv _ _=>true
 | _=>false
def notCall (a:Option AOp):Option AOp:=a.bind fun o=>if o.isCall=true then none else some o
def resCall (P:Program) (c:Call):Option AOp :=
 match c.callee with
 | .builtin b=>notCall (resBuiltin P b c.argTypes.toList c.args.toList)
 | .value (.func f)=>if goodFn P f then some (.call f c.args.toList) else notCall (resExt P f c.args.toList)
 | .value x=>some (.callv x c.args.toList)
 | _=>none
def resO (P:Program) (o:Oper):Option AOp :=
 match o.op with
 | .move x|.assign x=>some (.mov x)
 | .nilCheck x=>some (.nilck x)
 | .pick c a b=>some (.pick c a b)
 | .alloc e=>(zeroT P e).map fun z=>.alloc e z
 | .box e x=>some (.box e x)
 | .lookup t x k ok=>(mapT P t).bind fun p=>(kkT P p.1).bind fun kk=>(zeroT P p.2).map fun z=>.r2 (.lookup kk z ok) x k
 | .mapUpdate t x k y|.insert t x k y=>(mapT P t).bind fun p=>(kkT P p.1).map fun kk=>.mapUpd kk x k y
 | .makeMap t x=>(mapT P t).map fun _=>.makeM x
 | .range t x=>match P.underlying t with
  | some .string=>some (.e1 .rangeS x)
  | _=>none
 | .next x true=>some (.e1 .nextS x)
 | .typeAssert x _ t ok=>match P.underlying t with
  | some (.interface _)=>none
  | some _=>(zeroT P t).map fun z=>.p1 (.assert t ok z) x
  | none=>none
 | .build t ps=>match arrT P t with
  | some p=>(sizeT P p.2).bind fun s=>(zeroT P t).bind fun z=>(resParts (fun i=>some (i * s,s)) ps.toList).map fun l=>.build z.cells.toList l
  | none=>(fieldsT P t).bind fun fs=>(zeroT P t).bind fun z=>(fieldPlaces P fs).bind fun pl=>(resParts (fun i=>pl[i]?) ps.toList).map fun l=>.build z.cells.toList l
 | .buildSlice t len ps=>(elemT P t).bind fun e=>(sizeT P e).bind fun s=>(zeroT P e).bind fun z =>
   if len * s≤2 ^ 24∧z.cells.size=s∧z.cells.toList.all plain=true then (resParts (fun i=>some (i * s,s)) ps.toList).map fun l=>.buildSlice e len (List.replicate len z.cells.toList).flatten l else none
 | .load t x=>(aggT P t).bind fun a=>if a then (sizeT P t).map fun n=>.loadN n x else some (.load1 x)
 | .store t a x=>(sizeT P t).map fun n=>.store n a x
 | .binOp op t x y _=>match op with
  | .eql=>resEq P false t x y
  | .neq=>resEq P true t x y
  | _=>some (.arith op x y)
 | .unOp op _ x=>some (.un op x)
 | .convert s d x=>match P.underlying s,P.underlying d with
  | some _,some (.int k)=>some (.conv k x)
  | some .string,some (.slice e)=>match P.underlying e with
   | some (.int .u8)=>some (.e1 (.s2b e) x)
   | _=>none
  | some (.pointer t),some .unsafePointer=>(sizeT P t).bind fun s=>if s≠0 then some (.r1 .p2u x) else none
  | some .unsafePointer,some (.pointer t)=>(sizeT P t).bind fun s=>if s≠0∧P.cellsOf t=s then some (.r1 (.u2p t s) x) else none
  | some (.slice e),some .string=>match P.underlying e with
   | some (.int .u8)=>some (.b2s x)
   | _=>none
  | _,_=>none
 | .fieldAddr t x k=>(fieldsT P t).bind fun fs=>(fs[k]?).bind fun f=>(sizeT P f.type).bind fun s=>if s≠0 then some (.fieldAddr f.offset x) else none
 | .field t x k=>(fieldsT P t).bind fun fs=>(fs[k]?).bind fun f=>(sizeT P f.type).bind fun s=>(aggT P f.type).map fun a=>.field f.offset s a x
 | .indexAddr t x i=>match elemT P t with
  | some e=>(sizeT P e).map fun s=>.indexS s x i
  | none=>(arrT P t).bind fun p=>(sizeT P p.2).map fun s=>.indexA p.1 s x i
 | .index t x i=>match P.underlying t with
  | some .string=>some (.indexStr x i)
  | some (.array n e)=>(sizeT P e).bind fun s=>(aggT P e).map fun a=>.indexArr n s a x i
  | _=>none
 | .slice t x lo hi none=>match P.underlying t with
  | some .string=>some (.sliceStr x lo hi)
  | some (.slice e)=>(sizeT P e).map fun s=>.sliceS s x lo hi
  | some (.array n e)=>(sizeT P e).map fun s=>.sliceA n s x lo hi
  | _=>none
 | .slice t x lo hi (some mx)=>(elemT P t).bind fun e=>(sizeT P e).map fun s=>.slice3 s x lo hi mx
 | .makeSlice t n c=>(elemT P t).bind fun e=>(P.info? e).bind fun i=>(zeroT P e).bind fun z=>if z.cells.size=i.size then some (.makeS e i.bytes z.cells.toList n c) else none
 | .makeInterface t x=>(P.underlying t).bind fun d=>match d with
  | .interface _=>none
  | _=>some (.mkiface t x)
 | .extract x i=>some (.extract i x)
 | .makeFunc (.func f) first captured=>some (.mkfunc f first.toList captured.toList)
 | _=>none
def res (P:Program) (o:Oper):Option AOp :=
 match o.op with
 | .call c=>resCall P c
 | _=>notCall (resO P o)
end Go.Fx
namespace Go.Fx
open Go
set_option linter.unusedSimpArgs false
set_option linter.unusedVariables false
theorem boundV_ok {φ:Ren} {x X:Option Value} {dflt most k:Nat} (hx:ORel φ x X) (h:boundV x dflt most=some k):(x=none∧X=none∧k=dflt)∨∃ kd n,x=some (.int kd n)∧X=some (.int kd n)∧0≤n∧n≤most∧k=n.toNat:=by
 unfold boundV at h
 split at h
 ·cases X with
  | none=>cases h; exact .inl ⟨rfl,rfl,rfl⟩
  | some _=>exact hx.elim
 ·split at h
  ·rename_i hn
   cases h
   cases X with
   | none=>exact hx.elim
   | some V =>
    simp only [ORel] at hx
    cases hx
    exact .inr ⟨_,_,rfl,rfl,hn.1,hn.2,rfl⟩
  ·cases h
 ·cases h
theorem run_sliceBounds3 {P:Program} {φ:Ren} {w:World} {len cap cap':Nat} {lo LO:Option Value} {h H:Value} {kd:IntKind} {k:Int} {l r:Nat} (hlo:ORel φ lo LO) (hh:VR φ h H) (hb:boundsV len k.toNat lo (some h)=some (l,r)) (hk:0≤k∧k≤cap) (hc:cap≤cap') :
  (Instr.sliceBounds true len cap' LO (some H) (some (.int kd k))).run P w=.ok (l,r,k.toNat) w:=by
 simp only [boundsV,Option.bind_eq_some_iff,Option.map_eq_some_iff,Prod.mk.injEq] at hb
 obtain ⟨h1,hh1,l1,hl,rfl,rfl⟩:=hb
 rcases boundV_ok (φ:=φ) (x:=some h) (X:=some H) hh hh1 with ⟨h0,_⟩|⟨kd1,n1,e1,e2,g1,g2,rfl⟩
 ·cases h0
 ·cases e2
  have b1:=run_sliceBound (P:=P) (w:=w) (k:=kd) (n:=k) (y:=cap) (y':=cap') .slice3Acap ⟨hk.1,hk.2⟩ hc
  have b2:=run_sliceBound (P:=P) (w:=w) (k:=kd1) (n:=n1) (y:=k.toNat) (y':=k.toNat) .slice3B ⟨g1,g2⟩ (Nat.le_refl _)
  rcases boundV_ok hlo hl with ⟨_,rfl,rfl⟩|⟨kd2,n2,_,rfl,g3,g4,rfl⟩
  ·simp only [Instr.sliceBounds,Sem.run_bind,Sem.run_pure,Result.andThen_ok,if_true,b1,b2]
  ·have b3:=run_sliceBound (P:=P) (w:=w) (k:=kd2) (n:=n2) (y:=n1.toNat) (y':=n1.toNat) .slice3C ⟨g3,g4⟩ (Nat.le_refl _)
   simp only [Instr.sliceBounds,Sem.run_bind,Sem.run_pure,Result.andThen_ok,if_true,b1,b2,Option.isSome_some,b3]
theorem sound_slice3 {P:Program} {φ:Ren} {m:Mem} {w:World} (hi:Inv φ m w) {t e:TypeId} {i:TypeInfo} {v V u mx MX:Value} {lo hi' LO HI:Option Value} (ht:P.underlying t=some (.slice e)) (hti:P.info? e=some i) (hv:VR φ v V) (hlo:ORel φ lo LO) (hhi:ORel φ hi' HI) (hmx:VR φ mx MX)
  (h:runSlice3 i.size v lo hi' mx m=some u):∃ U,(Instr.sliceAt t V LO HI (some MX)).run P w=.ok U w∧VR φ u U:=by
 unfold runSlice3 at h
 split at h
 ·rename_i b off len cap hv' kd k
  cases HI with
  | none=>exact hhi.elim
  | some H =>
  simp only [ORel] at hhi
  cases hmx
  split at h
  ·rename_i hk0
   obtain ⟨hk1,hk2,hlc⟩:=hk0
   simp only [Option.bind_eq_some_iff] at h
   obtain ⟨⟨l,r⟩,hb,h⟩:=h
   split at h
   ·rename_i hk
    cases h
    have hle:l≤r∧r≤k.toNat:=by
     simp only [boundsV,Option.bind_eq_some_iff,Option.map_eq_some_iff,Prod.mk.injEq] at hb
     obtain ⟨h1,hh1,l1,hl,rfl,rfl⟩:=hb
     rcases boundV_ok (φ:=φ) (x:=some hv') (X:=some H) hhi hh1 with ⟨h0,_⟩|⟨kd1,n1,e1,e2,g1,g2,rfl⟩
     ·cases h0
     ·rcases boundV_ok hlo hl with ⟨_,_,rfl⟩|⟨kd2,n2,_,_,g3,g4,rfl⟩<;>omega
    cases hv with
    | sliceEx _ _ _ _ q hl hlo' =>
     refine ⟨.slice (some ⟨q.blk,q.base+(if k.toNat=l then off else off+l * i.size),none⟩) (r - l) (k.toNat - l),?_,.sliceEx _ _ _ _ q hl hlo'⟩
     simp only [Instr.sliceAt,Sem.run_bind,run_und ht,Result.andThen_ok,Instr.slice,run_sliceBounds3 hlo hhi hb ⟨hk1,hk2⟩ (Nat.le_refl _),run_size hti,Sem.run_pure]
     by_cases hc:k.toNat=l
     ·simp [hc]
     ·simp [hc,add_mk,Nat.add_assoc]
    | sliceZero _ _ A =>
     obtain rfl:k=0:=by omega
     have hl0:l=0:=by have:=hle; simp at this; omega
     have hr0:r=0:=by have:=hle; simp at this; omega
     subst hl0; subst hr0
     refine ⟨.slice (some A) 0 0,?_,.sliceZero _ _ A⟩
     simp only [Instr.sliceAt,Sem.run_bind,run_und ht,Result.andThen_ok,Instr.slice,run_sliceBounds3 hlo hhi hb ⟨hk1,hk2⟩ (Nat.le_refl _),run_size hti,Sem.run_pure]
     simp
    | sliceLoose _ _ _ _ off' cap' s q hl hlo' hoff hlen hcap hroom =>
     refine ⟨.slice (some ⟨q.blk,if k.toNat=l then off' else off'+l * i.size,none⟩) (r - l) (k.toNat - l),?_,.sliceLoose _ _ _ _ _ _ s q hl hlo' ?_ (by omega) (Nat.le_refl _) ?_⟩
     ·simp only [Instr.sliceAt,Sem.run_bind,run_und ht,Result.andThen_ok,Instr.slice,run_sliceBounds3 hlo hhi hb ⟨hk1,hk2⟩ hcap,run_size hti,Sem.run_pure]
      by_cases hc:k.toNat=l
      ·simp [hc]
      ·simp [hc,add_mk]
     ·intro hne
      have hne':k.toNat - l≠0:=hne
      show (if k.toNat=l then off' else off'+l * i.size)=q.base+(if k.toNat=l then off else off+l * i.size)
      rw [if_neg (show ¬ k.toNat=l by omega),if_neg (show ¬ k.toNat=l by omega),hoff (by omega)]; omega
     ·have hkm:k.toNat * s≤cap' * s:=Nat.mul_le_mul_right _ (by omega)
      by_cases hc:k.toNat=l
      ·rw [if_pos hc,hc,Nat.sub_self,Nat.zero_mul]; omega
      ·rw [if_neg hc]
       rcases hk with hk|hk|hk
       ·have hk':l=0:=hk
        subst hk'; simp; omega
       ·have:=hi.known_exact hl hk
        rw [hlo'] at this; cases this
       ·have:=hi.known_loose hl hk
        rw [hlo'] at this; cases this
        have:l * i.size+(k.toNat - l) * i.size=k.toNat * i.size:=by rw [← Nat.add_mul]; congr 1; omega
        omega
   ·cases h
  ·cases h
 ·cases h
theorem all_replicate {p:Value→Bool} {l:List Value} (n:Nat) (h:l.all p=true):(List.replicate n l).flatten.all p=true:=by
 rw [List.all_eq_true] at h ⊢
 intro v hv
 simp only [List.mem_flatten,List.mem_replicate] at hv
 obtain ⟨k,⟨_,rfl⟩,hv⟩:=hv
 exact h v hv
theorem sound_clear {P:Program} {φ:Ren} {m m':Mem} {w:World} (hi:Inv φ m w) {t e ty:TypeId} {i:TypeInfo} {z:Value} (ht:P.underlying t=some (.slice e)) (hti:P.info? e=some i) (hz:i.zero=some z) (hp:z.cells.toList.all plain=true) {v V:Value} (hv:VR φ v V) (h:runClear z.cells.toList v m=some m') :
  ∃ w' U,(Builtin.clear_ #[t] ty #[V]).run P w=.ok U w'∧VR φ undef U∧Inv φ m' w'∧Frm φ m w φ m' w':=by
 unfold runClear at h
 split at h
 ·cases h
  cases hv
  exact ⟨w,_,by simp [Builtin.clear_,run_und ht]; rfl,VR.undef φ,hi,Frm.refl φ m w⟩
 ·rename_i b off len cap
  split at h
  ·rename_i h0
   cases h
   subst h0
   refine ⟨w,undef,?_,VR.undef φ,hi,Frm.refl φ m w⟩
   cases hv<;>(simp [Builtin.clear_,run_und ht]; rfl)
  ·rename_i h0
   simp only [Option.bind_eq_some_iff] at h
   obtain ⟨⟨c,e',lo⟩,hq,h⟩:=h
   have hg:=Mem.ownAt_get hq
   split at h
   ·rename_i hh
    cases h
    obtain ⟨h1,h2,h3⟩:=hh
    simp only [Array.length_toList] at h1
    have hzc:(Builtin.zeroCells z.cells len).toList=(List.replicate len z.cells.toList).flatten:=replicate_flatten_eq z.cells z.cells.size len rfl
    have hl2:(List.replicate len z.cells.toList).flatten.length=len * z.cells.size:=by simp [List.length_flatten]
    have run:∀ (a:Addr) (C:Nat) (w':World),(Go.storeCells a (List.replicate len z.cells.toList).flatten).run P w=.ok () w'→(Builtin.clear_ #[t] ty #[.slice (some a) len C]).run P w=.ok undef w':=by
     intro a C w' hrun
     cases len with
     | zero=>exact absurd rfl h0
     | succ n =>
      simp only [Builtin.clear_,Sem.run_bind,run_und ht,Result.andThen_ok,Sem.run_pure,List.getElem?_toArray,List.getElem?_cons_zero,run_zero hti hz,hzc,hrun]
      rfl
    cases hv with
    | sliceEx _ _ _ _ l hl hlo =>
     obtain ⟨w',hrun,h5,h6⟩:=Inv.storeCells (P:=P) hl off _ _ 0 c m w hi hg (VRs.plain (all_replicate len hp)) (fun v hv=>List.all_eq_true.1 (all_replicate len h3) v hv) (by omega)
     exact ⟨w',undef,run _ _ w' hrun,VR.undef φ,h5,h6⟩
    | sliceZero _ _ A=>exact absurd rfl h0
    | sliceLoose _ _ _ _ off' cap' s l hl hlo hoff hlen' hcap hroom =>
     have:off'=l.base+off:=hoff h2
     subst this
     obtain ⟨w',hrun,h5,h6⟩:=Inv.storeCells (P:=P) hl off _ _ 0 c m w hi hg (VRs.plain (all_replicate len hp)) (fun v hv=>List.all_eq_true.1 (all_replicate len h3) v hv) (by omega)
     exact ⟨w',undef,run _ _ w' hrun,VR.undef φ,h5,h6⟩
   ·cases h
 ·cases h
theorem sound_makeS {P:Program} {φ:Ren} {m m':Mem} {w:World} (hi:Inv φ m w) {t e:TypeId} {i:TypeInfo} {z:Value} (ht:P.underlying t=some (.slice e)) (hti:P.info? e=some i) (hz:i.zero=some z) (hp:z.cells.toList.all plain=true) (hs:z.cells.size=i.size) {n N c C u:Value} (hn:VR φ n N) (hc:VR φ c C)
  (h:runMakeS e i.bytes z.cells.toList n c m=some (u,m')) :
  ∃ V w' φ',(Instr.makeSlice t N C).run P w=.ok V w'∧VR φ' u V∧Inv φ' m' w'∧Frm φ m w φ' m' w':=by
 unfold runMakeS at h
 split at h
 ·rename_i k1 n k2 c
  split at h
  ·rename_i hh
   obtain ⟨g1,g2,g3,g4⟩:=hh
   cases h
   cases hn; cases hc
   obtain ⟨φ',h1,h2,h3⟩:=hi.allocCells e (VRs.plain (φ:=φ) (all_replicate c.toNat hp))
   refine ⟨.slice (some ⟨w.heap.size,0,none⟩) n.toNat c.toNat,_,φ',?_,.sliceEx m.next 0 n.toNat c.toNat ⟨w.heap.size,0,none,0⟩ h3 rfl,h1,h2⟩
   have hwn:=wrap_small g1 (by omega)
   have hwc:=wrap_small (n:=c) (by omega) g3
   have hrep:=replicate_flatten_eq z.cells i.size c.toNat hs
   have hrep':(Array.range (c.toNat * i.size)).map (z.cells[· % z.cells.size]!)=(List.replicate c.toNat z.cells.toList).flatten.toArray:=by
    apply Array.toList_inj.1; rw [hrep]
   have hnc:¬ (c<n):=by omega
   have hc0:¬ (c<0):=by omega
   have hb:¬ (2 ^ 48<(i.bytes:Int) * c):=by omega
   simp only [Instr.makeSlice,Sem.run_bind,run_und ht,Result.andThen_ok,asInt,asIntOf,Sem.run_pure,run_tinfo hti,hwn,hwc,run_size hti]
   have hcond:(decide (c<0)||decide ((i.bytes:Int) * c > 2 ^ 48)||decide (n<0)||decide (n > c))=false:=by
    simp only [Bool.or_eq_false_iff,decide_eq_false_iff_not]
    omega
   rw [hcond]
   simp only [Bool.false_eq_true,if_false,Sem.run_bind,Sem.run_pure,Result.andThen_ok,run_askRoom,run_size hti,Sem.run_ite]
   by_cases h0:c.toNat * i.size=0
   ·rw [if_pos h0]
    have e0:(Array.range (c.toNat * i.size)).map ((#[]:Array Value)[· % (#[]:Array Value).size]!)=(Array.range (c.toNat * i.size)).map (z.cells[· % z.cells.size]!):=by rw [h0]; simp
    rw [e0,hrep']
    simp [newRow]
   ·rw [if_neg h0]
    simp only [run_zero hti hz,Result.andThen_ok]
    rw [hrep']
    simp [newRow]
  ·cases h
 ·cases h
end Go.Fx
namespace Go.Fx
open Go
set_option linter.unusedSimpArgs false
set_option linter.unusedVariables false
theorem avals_ok {φ:Ren} {ts:List Value} {a:Act} (ht:VRs φ ts a.tmps.toList):∀ {xs:List Operand} {l:List Value},avals ts xs=some l→VRs φ l (xs.map a.eval)
 | [],l,h=>by simp [avals] at h; subst h; exact VRs.nil φ
 | x::xs,l,h=>by
  simp only [avals] at h
  split at h
  ·rename_i v r hv hr
   cases h
   exact VRs.cons (aval_ok ht hv) (avals_ok ht hr)
  ·cases h
theorem avalO_ok {φ:Ren} {ts:List Value} {a:Act} (ht:VRs φ ts a.tmps.toList) {x:Option Operand} {v:Option Value} (h:avalO ts x=some v):ORel φ v (x.map a.eval):=by
 cases x with
 | none=>cases h; trivial
 | some x =>
  simp only [avalO,Option.map_eq_some_iff] at h
  obtain ⟨u,hu,rfl⟩:=h
  exact aval_ok ht hu
theorem aparts_ok {φ:Ren} {ts:List Value} {a:Act} (ht:VRs φ ts a.tmps.toList) {place:Nat→Option (Nat × Nat)}:∀ {ps:List (Nat × Operand)} {l:List (Nat × Nat × Operand)} {r:List (Nat × Nat × Value)},resParts place ps=some l→aparts ts l=some r→PartsR φ place r (ps.map fun p=>(p.1,a.eval p.2))
 | [],l,r,h,h'=>by
  simp [resParts] at h; subst h
  simp [aparts] at h'; subst h'
  exact ⟨rfl,fun i p q hp=>by simp at hp⟩
 | (i,x)::ps,l,r,h,h'=>by
  simp only [resParts,Option.bind_eq_some_iff,Option.map_eq_some_iff] at h
  obtain ⟨⟨o,s⟩,hp,l',hl,rfl⟩:=h
  simp only [aparts] at h'
  split at h'
  ·rename_i v r' hv hr
   cases h'
   obtain ⟨h1,h2⟩:=aparts_ok ht hl hr
   refine ⟨by simpa using h1,fun j p q hp' hq=>?_⟩
   cases j with
   | zero=>simp at hp' hq; subst hp'; subst hq; exact ⟨hp,aval_ok ht hv⟩
   | succ j=>exact h2 j p q (by simpa using hp') (by simpa using hq)
  ·cases h'
theorem Comes1.val {P:Program} {φ φ':Ren} {m m':Mem} {w w':World} {s:Sem Value} {v V:Value} (hs:s.run P w=.ok V w') (hv:VR φ' v V) (hi:Inv φ' m' w') (hf:Frm φ m w φ' m' w') :
  Comes1 φ m w ((do pure (Next.value (← s)):Sem Next).run P w) v m' :=
 ⟨V,w',φ',.inl (by simp [hs]),hv,hi,hf⟩
theorem Comes1.still {P:Program} {φ:Ren} {m:Mem} {w:World} {s:Sem Value} {v V:Value} (hi:Inv φ m w) (hs:s.run P w=.ok V w) (hv:VR φ v V) :
  Comes1 φ m w ((do pure (Next.value (← s)):Sem Next).run P w) v m:=Comes1.val hs hv hi (Frm.refl φ m w)
theorem sizeT_some {P:Program} {t:TypeId} {s:Nat} (h:sizeT P t=some s):∃ i,P.info? t=some i∧i.size=s:=by
 simp only [sizeT,Option.map_eq_some_iff] at h; exact h
theorem elemT_some {P:Program} {t e:TypeId} (h:elemT P t=some e):P.underlying t=some (.slice e):=by
 unfold elemT at h
 split at h
 ·cases h; assumption
 ·cases h
theorem arrT_some {P:Program} {t:TypeId} {p:Nat × TypeId} (h:arrT P t=some p):P.underlying t=some (.array p.1 p.2):=by
 unfold arrT at h
 split at h
 ·cases h; assumption
 ·cases h
theorem mapT_some {P:Program} {t:TypeId} {p:TypeId × TypeId} (h:mapT P t=some p):P.underlying t=some (.map p.1 p.2):=by
 unfold mapT at h
 split at h
 ·cases h; assumption
 ·cases h
theorem fieldsT_some {P:Program} {t:TypeId} {fs:Array Field} (h:fieldsT P t=some fs):P.underlying t=some (.struct fs):=by
 unfold fieldsT at h
 split at h
 ·cases h; assumption
 ·cases h
theorem zeroT_some {P:Program} {t:TypeId} {z:Value} (h:zeroT P t=some z):∃ i,P.info? t=some i∧i.zero=some z∧z.cells.toList.all plain=true:=by
 simp only [zeroT,Option.bind_eq_some_iff] at h
 obtain ⟨i,hi,z',hz,h⟩:=h
 split at h
 ·cases h; exact ⟨i,hi,hz,by assumption⟩
 ·cases h
theorem VR.of_cells {φ:Ren} {z:Value} (h:z.cells.toList.all Fx.plain=true):VR φ z z:=by
 cases z with
 | agg xs =>
  have:VRs φ xs.toList xs.toList:=VRs.plain h
  have:=this.agg
  simpa using this
 | bool b=>exact .bool b
 | int k n=>exact .int k n
 | string s=>exact .string s
 | _=>exact VR.plain (by simpa [Value.cells] using h)
theorem res_eq {P:Program} {neg:Bool} {t:TypeId} {x y:Operand} {ao:AOp} (hr:resEq P neg t x y=some ao) {φ:Ren} {m m':Mem} {w:World} (hi:Inv φ m w) {ts:List Value} {a:Act} (ht:VRs φ ts a.tmps.toList) {v:Value} (h:ao.run ts m=some (v,m')) :
  Comes1 φ m w ((do pure (Next.value (← (do eqGuard (if neg then .neq else .eql) t x y (a.eval x) (a.eval y); Go.binOp (if neg then .neq else .eql) t (a.eval x) (a.eval y):Sem Value))):Sem Next).run P w) v m':=by
 have ar:∀ {op},(AOp.arith op x y).run ts m=some (v,m')→op=(if neg then .neq else .eql)→Comes1 φ m w ((do pure (Next.value (← (do eqGuard (if neg then .neq else .eql) t x y (a.eval x) (a.eval y); Go.binOp (if neg then .neq else .eql) t (a.eval x) (a.eval y):Sem Value))):Sem Next).run P w) v m':=by
  intro op h hop
  subst hop
  simp only [AOp.run,Option.bind_eq_some_iff,Option.map_eq_some_iff,Prod.mk.injEq] at h
  obtain ⟨p,hp,q,hq,u,hu,rfl,rfl⟩:=h
  obtain ⟨h1,h2⟩:=sound_arith (P:=P) (w:=w) (t:=t) (x:=x) (y:=y) (aval_ok ht hp) (aval_ok ht hq) hu
  exact Comes1.still hi h1 h2
 unfold resEq at hr
 split at hr
 ·rename_i hd
  split at hr
  ·rename_i hc
   cases hr
   simp only [AOp.run,P2.run,Option.bind_eq_some_iff,Option.map_eq_some_iff,Prod.mk.injEq] at h
   obtain ⟨p,hp,q,hq,u,hu,rfl,rfl⟩:=h
   obtain ⟨h1,h2⟩:=sound_eqIface (P:=P) (w:=w) (x:=x) (y:=y) hd hc (aval_ok ht hp) (aval_ok ht hq) hu
   exact Comes1.still hi h1 h2
  ·cases hr
 ·rename_i e hd
  split at hr
  ·cases hr
   simp only [AOp.run,Option.bind_eq_some_iff,Option.map_eq_some_iff,Prod.mk.injEq] at h
   obtain ⟨p,hp,q,hq,u,hu,rfl,rfl⟩:=h
   obtain ⟨h1,h2⟩:=sound_eqNil (P:=P) (w:=w) (t:=t) (x:=x) (y:=y) (by simp [nilKindT,hd]) (aval_ok ht hp) (aval_ok ht hq) hu
   exact Comes1.still hi h1 h2
  ·simp only [Option.bind_eq_some_iff] at hr
   obtain ⟨s,hs,hr⟩:=hr
   obtain ⟨i,hti,rfl⟩:=sizeT_some hs
   split at hr
   ·rename_i hz
    cases hr
    simp only [AOp.run,R2.run,Option.bind_eq_some_iff,Option.map_eq_some_iff,Prod.mk.injEq] at h
    obtain ⟨p,hp,q,hq,u,hu,rfl,rfl⟩:=h
    obtain ⟨h1,h2⟩:=sound_eqPtr (P:=P) (x:=x) (y:=y) hi hd hti hz (aval_ok ht hp) (aval_ok ht hq) hu
    exact Comes1.still hi h1 h2
   ·cases hr
 ·cases hr; exact ar h rfl
 ·cases hr; exact ar h rfl
 ·rename_i hd
  cases hr
  simp only [AOp.run,Option.bind_eq_some_iff,Option.map_eq_some_iff,Prod.mk.injEq] at h
  obtain ⟨p,hp,q,hq,u,hu,rfl,rfl⟩:=h
  obtain ⟨h1,h2⟩:=sound_eqBool (P:=P) (w:=w) (x:=x) (y:=y) hd (aval_ok ht hp) (aval_ok ht hq) hu
  exact Comes1.still hi h1 h2
 ·split at hr
  ·rename_i d hd
   split at hr
   ·rename_i hh
    cases hr
    simp only [AOp.run,Option.bind_eq_some_iff,Option.map_eq_some_iff,Prod.mk.injEq] at h
    obtain ⟨p,hp,q,hq,u,hu,rfl,rfl⟩:=h
    obtain ⟨h1,h2⟩:=sound_eq (P:=P) (w:=w) (x:=x) (y:=y) hh.1 hh.2.1 hh.2.2 (aval_ok ht hp) (aval_ok ht hq) hu
    exact Comes1.still hi h1 h2
   ·cases hr
  ·cases hr
 ·simp only [Option.map_eq_some_iff] at hr
  obtain ⟨k,hk,rfl⟩:=hr
  simp only [AOp.run,Option.bind_eq_some_iff,Option.map_eq_some_iff,Prod.mk.injEq] at h
  obtain ⟨p,hp,q,hq,u,hu,rfl,rfl⟩:=h
  obtain ⟨h1,h2⟩:=sound_eqNil (P:=P) (w:=w) (x:=x) (y:=y) hk (aval_ok ht hp) (aval_ok ht hq) hu
  exact Comes1.still hi h1 h2
theorem run_resolve_builtin {P:Program} {w:World} {ρ:Operand→Value} {b:Builtin} {xs:Array Operand} {tys:Array TypeId} {ty:TypeId} {s:Sem Value} {d:Option Tmp} {pos:String} {af:Array Edge} {g:Option (Nat × Bool)}
  (hb:∀ cs,builtin b tys ty cs (xs.map ρ)=(do pure (.value (← s)))) :
  (execOp ρ ⟨d,.call { callee:=.builtin b,args:=xs,argTypes:=tys },ty,pos,af,g⟩).run P w=(do pure (Next.value (← s)):Sem Next).run P w:=by
 simp only [execOp,resolve,Sem.run_bind,Sem.run_pure,Result.andThen_ok,invoke]
 rw [hb]
 simp
theorem res_builtin {P:Program} {b:Builtin} {tys:Array TypeId} {xs:Array Operand} {ao:AOp} (hr:resBuiltin P b tys.toList xs.toList=some ao) {φ:Ren} {m m':Mem} {w:World} (hi:Inv φ m w) {ts:List Value} {a:Act} (ht:VRs φ ts a.tmps.toList) {v:Value} (h:ao.run ts m=some (v,m'))
  {ty:TypeId} {d:Option Tmp} {pos:String} {af:Array Edge} {g:Option (Nat × Bool)} :
  Comes1 φ m w ((execOp a.eval ⟨d,.call { callee:=.builtin b,args:=xs,argTypes:=tys },ty,pos,af,g⟩).run P w) v m':=by
 unfold resBuiltin at hr
 split at hr
 ·rename_i t x h1 h2
  have e1:tys=#[t]:=by apply Array.toList_inj.1; simpa using h1
  have e2:xs=#[x]:=by apply Array.toList_inj.1; simpa using h2
  subst e1; subst e2
  rw [run_resolve_builtin (s:=Builtin.len_ #[t] ty #[a.eval x]) (fun _=>by simp [builtin])]
  split at hr
  ·rename_i hd
   cases hr
   simp only [AOp.run,Option.bind_eq_some_iff,Option.map_eq_some_iff,Prod.mk.injEq] at h
   obtain ⟨p,hp,u,hu,rfl,rfl⟩:=h
   obtain ⟨h3,h4⟩:=sound_lenSlice (P:=P) (w:=w) (ty:=ty) hd (aval_ok ht hp) hu
   exact Comes1.still hi h3 h4
  ·rename_i hd
   cases hr
   simp only [AOp.run,Option.bind_eq_some_iff,Option.map_eq_some_iff,Prod.mk.injEq] at h
   obtain ⟨p,hp,u,hu,rfl,rfl⟩:=h
   obtain ⟨h3,h4⟩:=sound_lenStr (P:=P) (w:=w) (ty:=ty) hd (aval_ok ht hp) hu
   exact Comes1.still hi h3 h4
  ·rename_i hd
   cases hr
   simp only [AOp.run,R1.run,Option.bind_eq_some_iff,Option.map_eq_some_iff,Prod.mk.injEq] at h
   obtain ⟨p,hp,u,hu,rfl,rfl⟩:=h
   obtain ⟨h3,h4⟩:=sound_lenM (P:=P) (ty:=ty) hi hd (aval_ok ht hp) hu
   exact Comes1.still hi h3 h4
  ·cases hr
 ·rename_i t x h1 h2
  have e1:tys=#[t]:=by apply Array.toList_inj.1; simpa using h1
  have e2:xs=#[x]:=by apply Array.toList_inj.1; simpa using h2
  subst e1; subst e2
  rw [run_resolve_builtin (s:=Builtin.cap_ #[t] ty #[a.eval x]) (fun _=>by simp [builtin])]
  simp only [Option.map_eq_some_iff] at hr
  obtain ⟨e,he,rfl⟩:=hr
  simp only [AOp.run,R1.run,Option.bind_eq_some_iff,Option.map_eq_some_iff,Prod.mk.injEq] at h
  obtain ⟨p,hp,u,hu,rfl,rfl⟩:=h
  obtain ⟨h3,h4⟩:=sound_cap (P:=P) (ty:=ty) hi (elemT_some he) (aval_ok ht hp) hu
  exact Comes1.still hi h3 h4
 ·rename_i t u x k h1 h2
  have e1:tys=#[t,u]:=by apply Array.toList_inj.1; simpa using h1
  have e2:xs=#[x,k]:=by apply Array.toList_inj.1; simpa using h2
  subst e1; subst e2
  rw [run_resolve_builtin (s:=Builtin.delete_ #[t,u] ty #[a.eval x,a.eval k]) (fun _=>by simp [builtin])]
  simp only [Option.bind_eq_some_iff,Option.map_eq_some_iff] at hr
  obtain ⟨q,hq,kk,hkk,rfl⟩:=hr
  simp only [AOp.run,E2.run,Option.bind_eq_some_iff,Option.map_eq_some_iff,Prod.mk.injEq] at h
  obtain ⟨p,hp,q',hq',u',hu,rfl,rfl⟩:=h
  obtain ⟨w',h3,h4,h5⟩:=sound_delM (P:=P) (ty:=ty) (tk:=u) hi (mapT_some hq) hkk (aval_ok ht hp) (aval_ok ht hq') hu
  exact Comes1.val h3 (VR.undef φ) h4 h5
 ·rename_i x h2
  have e2:xs=#[x]:=by apply Array.toList_inj.1; simpa using h2
  subst e2
  rw [run_resolve_builtin (s:=Builtin.unsafeSliceData_ tys ty #[a.eval x]) (fun _=>by simp [builtin])]
  cases hr
  simp only [AOp.run,P1.run,Option.bind_eq_some_iff,Option.map_eq_some_iff,Prod.mk.injEq] at h
  obtain ⟨p,hp,u,hu,rfl,rfl⟩:=h
  obtain ⟨U,h3,h4⟩:=sound_sliceData (P:=P) (w:=w) (ts:=tys) (ty:=ty) (aval_ok ht hp) hu
  exact Comes1.still hi h3 h4
 ·rename_i t u x n h1 h2
  have e1:tys=#[t,u]:=by apply Array.toList_inj.1; simpa using h1
  have e2:xs=#[x,n]:=by apply Array.toList_inj.1; simpa using h2
  subst e1; subst e2
  rw [run_resolve_builtin (s:=Builtin.unsafeString_ #[t,u] ty #[a.eval x,a.eval n]) (fun _=>by simp [builtin])]
  split at hr
  ·rename_i e he
   split at hr
   ·rename_i hc
    cases hr
    simp only [AOp.run,E2.run,Option.bind_eq_some_iff] at h
    obtain ⟨p,hp,q,hq,hu⟩:=h
    obtain ⟨w',h3,h4,h5,h6⟩:=sound_unsafeStr (P:=P) (ty:=ty) (it:=u) hi he hc (aval_ok ht hp) (aval_ok ht hq) hu
    exact Comes1.val h3 h4 h5 h6
   ·cases hr
  ·cases hr
 ·rename_i t u x y h1 h2
  have e1:tys=#[t,u]:=by apply Array.toList_inj.1; simpa using h1
  have e2:xs=#[x,y]:=by apply Array.toList_inj.1; simpa using h2
  subst e1; subst e2
  rw [run_resolve_builtin (s:=Builtin.append_ #[t,u] ty #[a.eval x,a.eval y]) (fun _=>by simp [builtin])]
  simp only [Option.bind_eq_some_iff] at hr
  obtain ⟨e,he,i,hti,z,hz,hr⟩:=hr
  split at hr
  ·rename_i hh
   cases hr
   simp only [AOp.run,Option.bind_eq_some_iff] at h
   obtain ⟨p,hp,q,hq,⟨n,nc⟩,hsrc,h⟩:=h
   obtain ⟨U,w',φ',h3,h4,h5,h6⟩:=sound_append (P:=P) (ty:=ty) hi (elemT_some he) hti hz hh.1 hh.2 (aval_ok ht hp) (aval_ok ht hq) hsrc h
   exact Comes1.val h3 h4 h5 h6
  ·split at hr
   ·rename_i hh
    cases hr
    obtain ⟨h31,h32,h33⟩:=hh
    have hk:∃ k,P.underlying u=some (.int k):=by
     unfold intT at h33
     split at h33
     ·exact ⟨_,‹_›⟩
     ·cases h33
    obtain ⟨k,hk⟩:=hk
    simp only [AOp.run,E2.run,Option.bind_eq_some_iff] at h
    obtain ⟨p,hp,q,hq,h⟩:=h
    obtain ⟨U,w',φ',h3,h4,h5,h6⟩:=sound_appendN (P:=P) (ty:=ty) hi (elemT_some he) hti hz h31 h32 hk (aval_ok ht hp) (aval_ok ht hq) h
    exact Comes1.val h3 h4 h5 h6
   ·cases hr
 ·rename_i t u x y h1 h2
  have e1:tys=#[t,u]:=by apply Array.toList_inj.1; simpa using h1
  have e2:xs=#[x,y]:=by apply Array.toList_inj.1; simpa using h2
  subst e1; subst e2
  rw [run_resolve_builtin (s:=Builtin.copy_ #[t,u] ty #[a.eval x,a.eval y]) (fun _=>by simp [builtin])]
  simp only [Option.bind_eq_some_iff,Option.map_eq_some_iff] at hr
  obtain ⟨e,he,s,hs,rfl⟩:=hr
  obtain ⟨i,hti,rfl⟩:=sizeT_some hs
  simp only [AOp.run,Option.bind_eq_some_iff] at h
  obtain ⟨p,hp,q,hq,⟨n,nc⟩,hsrc,h⟩:=h
  obtain ⟨w',h3,h4,h5,h6⟩:=sound_copy (P:=P) (ty:=ty) (ts:=t) (tx:=u) hi (elemT_some he) hti (aval_ok ht hp) (aval_ok ht hq) hsrc h
  exact Comes1.val h3 h4 h5 h6
 ·rename_i x r h2
  have e2:xs=(x::r).toArray:=by apply Array.toList_inj.1; simpa using h2
  subst e2
  rw [run_resolve_builtin (s:=Builtin.min_ tys ty ((x::r).toArray.map a.eval)) (fun _=>rfl)]
  cases hr
  simp only [AOp.run,Option.bind_eq_some_iff,Option.map_eq_some_iff,Prod.mk.injEq] at h
  obtain ⟨p,hp,l,hl,u,hu,rfl,rfl⟩:=h
  obtain ⟨U,h3,h4⟩:=sound_foldV (P:=P) (w:=w) sound_min2 _ _ _ _ _ (aval_ok ht hp) (avals_ok ht hl) hu
  exact Comes1.still hi (by simpa [Builtin.min_] using h3) h4
 ·rename_i x r h2
  have e2:xs=(x::r).toArray:=by apply Array.toList_inj.1; simpa using h2
  subst e2
  rw [run_resolve_builtin (s:=Builtin.max_ tys ty ((x::r).toArray.map a.eval)) (fun _=>rfl)]
  cases hr
  simp only [AOp.run,Option.bind_eq_some_iff,Option.map_eq_some_iff,Prod.mk.injEq] at h
  obtain ⟨p,hp,l,hl,u,hu,rfl,rfl⟩:=h
  obtain ⟨U,h3,h4⟩:=sound_foldV (P:=P) (w:=w) sound_max2 _ _ _ _ _ (aval_ok ht hp) (avals_ok ht hl) hu
  exact Comes1.still hi (by simpa [Builtin.max_] using h3) h4
 ·rename_i t x h1 h2
  have e1:tys=#[t]:=by apply Array.toList_inj.1; simpa using h1
  have e2:xs=#[x]:=by apply Array.toList_inj.1; simpa using h2
  subst e1; subst e2
  rw [run_resolve_builtin (s:=Builtin.clear_ #[t] ty #[a.eval x]) (fun _=>by simp [builtin])]
  split at hr
  ·rename_i hd
   cases hr
   simp only [AOp.run,E1.run,Option.bind_eq_some_iff,Option.map_eq_some_iff,Prod.mk.injEq] at h
   obtain ⟨p,hp',u,hu,rfl,rfl⟩:=h
   obtain ⟨w',h3,h4,h5⟩:=sound_clearM (P:=P) (ty:=ty) hi hd (aval_ok ht hp') hu
   exact Comes1.val h3 (VR.undef φ) h4 h5
  ·rename_i e he
   simp only [Option.bind_eq_some_iff] at hr
   obtain ⟨s,hs,z,hz,hr⟩:=hr
   obtain ⟨i,hti,rfl⟩:=sizeT_some hs
   obtain ⟨i',hti',hzi,hp⟩:=zeroT_some hz
   rw [hti] at hti'; cases hti'
   split at hr
   ·cases hr
    simp only [AOp.run,Option.bind_eq_some_iff,Option.map_eq_some_iff,Prod.mk.injEq] at h
    obtain ⟨p,hp',u,hu,rfl,rfl⟩:=h
    obtain ⟨w',U,h3,h4,h5,h6⟩:=sound_clear (P:=P) (ty:=ty) hi he hti hzi hp (aval_ok ht hp') hu
    exact Comes1.val h3 h4 h5 h6
   ·cases hr
  ·cases hr
 ·cases hr
end Go.Fx
