/- Parts of a proof: FxOps, FxOps2, FxOps3, FxOps4. Conditions: none. -/
import GoSem.Dispatch
import Derived.Laws.StructEq
import Derived.Test.YtbhdhhgpfanmcaaGreatDoorQw1
set_option linter.unusedSimpArgs false
set_option linter.unusedVariables false
namespace Go.Fx
open Go
def plain:Value->Bool
 | .bool _|.int _ _|.string _|.pointer none|.slice none 0 0|.map none|.nilFunc|.nilIface=>true
 | _=>false
theorem VR.plain {φ:Ren} {v:Value} (h:plain v=true):VR φ v v:=by
 cases v with
 | bool b=>exact .bool b
 | int k n=>exact .int k n
 | string s=>exact .string s
 | pointer a=>cases a with
  | none=>exact .ptrNil
  | some a=>simp [Fx.plain] at h
 | slice a n c =>
  cases a with
  | some a=>simp [Fx.plain] at h
  | none =>
   cases n with
   | succ n=>simp [Fx.plain] at h
   | zero=>cases c with
    | succ n=>simp [Fx.plain] at h
    | zero=>exact .sliceNil
 | map r=>cases r with
  | none=>exact .mapNil
  | some a=>simp [Fx.plain] at h
 | nilFunc=>exact .nilFunc
 | nilIface=>exact .nilIface
 | _=>simp [Fx.plain] at h
theorem VRs.plain {φ:Ren}:∀ {l:List Value},l.all Fx.plain=true->VRs φ l l
 | [],_=>VRs.nil φ
 | v::l,h=>by
  simp only [List.all_cons,baI] at h;exact VRs.cons (VR.plain h.1) (VRs.plain h.2)
theorem VR.undef (φ:Ren):VR φ undef undef:=.tuple #[] #[] rfl (λi x y h=>by simp at h)
def zc (ts:List Value):Operand->Option Value
 | .tmp t=>some (ts[t]?.getD undef)
 | .const v=>if plain v then some v else none
 | .func f=>some (.func (.func f) #[] #[])
 | .global _=>none
theorem qw {φ:Ren} {ts:List Value} {a:Act} (ht:VRs φ ts a.tmps.toList) {x:Operand} {v:Value} (h:zc ts x=some v):VR φ v (a.eval x):=by
 cases x with
 | tmp t =>
  simp only [zc,sjI] at h;subst h;simp only [Act.eval];rw [Array.getD_eq_getD_getElem?];cases e:ts[t]? with
  | none =>
   have:a.tmps[t]? = none:=by
    rw [Array.getElem?_eq_none_iff];rw [List.getElem?_eq_none_iff] at e;have:=ht.1; simp at this; omega
   rw [this]; exact VR.undef φ
  | some u =>
   obtain ⟨V,hV,r⟩:=ht.get e;have:a.tmps[t]? = some V:=by simpa using hV
   rw [this]; exact r
 | const v =>
  simp only [zc] at h;split at h
  ·cases h; exact VR.plain (by assumption)
  ·cases h
 | func f =>
  simp only [zc,sjI] at h;subst h;exact .func f #[] #[] #[] #[] rfl (λi x y h=>by simp at h) rfl (λi x y h=>by simp at h)
 | global g=>simp [zc] at h
def qI (φ:Ren) (m:Mem) (w:World) (r:Result Next) (v:Value) (m':Mem):Prop :=
 ∃ V w' φ',(r=.ok (.value V) w'∨(r=.ok .skip w'/\V=undef))/\VR φ' v V/\Inv φ' m' w'/\Frm φ m w φ' m' w'
theorem qI.quiet {φ:Ren} {m:Mem} {w:World} {r:Result Next} {v V:Value} (hi:Inv φ m w) (hv:VR φ v V) (hr:r=.ok (.value V) w):qI φ m w r v m :=
 ⟨V,w,φ,.inl hr,hv,hi,Frm.refl φ m w⟩
@[simp] theorem qy {P:Program} {t:TypeId} {d:TypeDesc} {w:World} (h:P.underlying t=some d):(underlying t).run P w=.ok d w:=by simp [underlying,h]
@[simp] theorem js {P:Program} {t:TypeId} {i:TypeInfo} {w:World} (h:P.info? t=some i):(typeInfo t).run P w=.ok i w:=by simp [typeInfo,h]
theorem ze {P:Program} {t:TypeId} {i:TypeInfo} {w:World} (h:P.info? t=some i):(sizeOf t).run P w=.ok i.size w:=by simp [sizeOf,js h]
theorem zV {P:Program} {t:TypeId} {i:TypeInfo} {z:Value} {w:World} (h:P.info? t=some i) (hz:i.zero=some z):(zeroValue t).run P w=.ok z w:=by simp [zeroValue,js h,hz]
def aggT (P:Program) (t:TypeId):Option Bool :=
 match P.underlying t with
 | some (.struct _)|some (.array ..)=>some true
 | some _=>some false
 | none=>none
theorem ZC {P:Program} {t:TypeId} {b:Bool} {w:World} (h:aggT P t=some b):(isAgg t).run P w=.ok b w:=by
 unfold aggT at h;cases hd:P.underlying t with
 | none=>rw [hd] at h; cases h
 | some d =>
  rw [hd] at h;simp only [isAgg,Sem.run_bind,qy hd,Result.andThen_ok];cases d<;>simp at h<;>subst h<;>rfl
def jV:Value->Option (Nat × Nat)
 | .pointer (some ⟨b,off,none⟩)=>some (b,off)
 | _=>none
theorem yu {φ:Ren} {v V:Value} (h:VR φ v V) {b off:Nat} (hp:jV v=some (b,off)):∃ l,φ b=some l/\V=.pointer (some ⟨l.blk,l.base+off,none⟩):=by
 cases h<;>simp [jV] at hp
 case ptr b' off' l h=>obtain ⟨rfl,rfl⟩:=hp; exact ⟨l,h,rfl⟩
def Mem.xp (m:Mem) (b:Nat):Option (List Value) :=
 match m.get b with
 | some ⟨.cells c _,_,_⟩=>some c
 | _=>none
theorem Mem.jl {m:Mem} {b:Nat} {c:List Value} (h:m.xp b=some c):∃ e ro lo,m.get b=some ⟨.cells c e,ro,lo⟩:=by
 unfold Mem.xp at h;split at h
 ·rename_i c' e ro lo hg;simp only [sjI] at h;subst h;exact ⟨e,ro,lo,hg⟩
 ·cases h
def Mem.jF (m:Mem) (b:Nat):Option (List Value × TypeId × Option Nat) :=
 match m.get b with
 | some ⟨.cells c e,false,lo⟩=>some (c,e,lo)
 | _=>none
theorem Mem.wg {m:Mem} {b:Nat} {x:List Value × TypeId × Option Nat} (h:m.jF b=some x):m.get b=some ⟨.cells x.1 x.2.1,false,x.2.2⟩:=by
 unfold Mem.jF at h;split at h
 ·rename_i c e lo hg;simp only [sjI] at h;subst h;exact hg
 ·cases h
def qa (v:Value) (m:Mem):Option Value :=
 (jV v).bind λp=>(m.xp p.1).bind λc=>c[p.2]?
def ql (n:Nat) (v:Value) (m:Mem):Option Value :=
 (jV v).bind λp=>(m.xp p.1).bind λc=>if p.2+n<=c.length then some (.agg ((c.drop p.2).take n).toArray) else none
theorem Xf {P:Program} {φ:Ren} {m:Mem} {w:World} (hi:Inv φ m w) {t:TypeId} (ht:aggT P t=some false) {v V u:Value} (hv:VR φ v V) (h:qa v m=some u) :
  ∃ U,(Instr.loadAt t V).run P w=.ok U w/\VR φ u U:=by
 simp only [qa,bsI] at h;obtain ⟨⟨b,off⟩,hp,c,hc,hu⟩:=h;obtain ⟨l,hl,rfl⟩:=yu hv hp;obtain ⟨e,ro,lo,hg⟩:=Mem.jl hc;obtain ⟨U,hU,r⟩:=hi.load hg hl hu;refine ⟨U,?_,r⟩;simp [Instr.loadAt,Instr.sureAddr,loadVar,ZC ht,hU]
theorem Xe {P:Program} {φ:Ren} {m:Mem} {w:World} (hi:Inv φ m w) {t:TypeId} {i:TypeInfo} (ht:aggT P t=some true) (hti:P.info? t=some i) {v V u:Value} (hv:VR φ v V) (h:ql i.size v m=some u) :
  ∃ U,(Instr.loadAt t V).run P w=.ok U w/\VR φ u U:=by
 simp only [ql,bsI] at h;obtain ⟨⟨b,off⟩,hp,c,hc,hu⟩:=h;obtain ⟨l,hl,rfl⟩:=yu hv hp;obtain ⟨e,ro,lo,hg⟩:=Mem.jl hc;split at hu
 ·rename_i hlen;cases hu
  obtain ⟨Vs,hrun,hr⟩:=hi.loadCells (P:=P) hg hl off i.size hlen;refine ⟨.agg Vs.toArray,?_,hr.agg⟩;simp [Instr.loadAt,Instr.sureAddr,loadVar,ZC ht,ze hti,hrun]
 ·cases hu
def qj (n:Nat) (v x:Value) (m:Mem):Option Mem :=
 (jV v).bind λp=>(m.jF p.1).bind λq =>
  if x.cells.size=n/\p.2+n<=q.1.length/\x.cells.toList.all (·.oneCell')=true then some (m.put p.1 ⟨.cells (qQ q.1 p.2 x.cells.toList) q.2.1,false,q.2.2⟩) else none
theorem VR.Kk {φ:Ren} {v V:Value} (h:VR φ v V):V.cells.size=v.cells.size:=by
 have:=h.cells.1; simpa using this.symm
theorem YK {P:Program} {φ:Ren} {m m':Mem} {w:World} (hi:Inv φ m w) {t:TypeId} {i:TypeInfo} (hti:P.info? t=some i) {v V x X:Value} (hv:VR φ v V) (hx:VR φ x X) (h:qj i.size v x m=some m') :
  ∃ w',(Instr.storeAt t V X).run P w=.ok () w'/\Inv φ m' w'/\Frm φ m w φ m' w':=by
 simp only [qj,bsI] at h;obtain ⟨⟨b,off⟩,hp,⟨c,e,lo⟩,hc,hu⟩:=h;obtain ⟨l,hl,rfl⟩:=yu hv hp;have hg:=Mem.wg hc;split at hu
 ·rename_i hh;obtain ⟨h1,h2,h3⟩:=hh;cases hu
  obtain ⟨w',hrun,h4,h5⟩:=Inv.storeCells (P:=P) hl off x.cells.toList X.cells.toList 0 c m w hi hg hx.cells (λv hv=>List.all_eq_true.1 h3 v hv) (by simp only [Array.length_toList]; simp only at h2; omega);refine ⟨w',?_,h4,h5⟩;simp only [Instr.storeAt,Instr.sureAddr,storeVar,Sem.run_bind,Sem.run_pure,Result.andThen_ok,ze hti,hx.Kk,h1];simpa using hrun
 ·cases hu
theorem QD {P:Program} {φ:Ren} {m:Mem} {w:World} (hi:Inv φ m w) (t:TypeId) {x X:Value} (hx:VR φ x X) :
  ∃ w' φ',(newVar t X).run P w=.ok ⟨w.heap.size,0,none⟩ w'/\φ' m.next=some ⟨w.heap.size,0,none,0⟩/\Inv φ' (m.add ⟨.cells x.cells.toList t,false,none⟩) w'/\Frm φ m w φ' (m.add ⟨.cells x.cells.toList t,false,none⟩) w':=by
 obtain ⟨φ',h1,h2,h3⟩:=hi.Qt t hx.cells;simp only [Array.toArray_toList] at h1 h2;exact ⟨_,φ',rfl,h3,h1,h2⟩
def jK (e:TypeId) (x:Value) (m:Mem):Value × Mem:=(.pointer (some ⟨m.next,0,none⟩),m.add ⟨.cells x.cells.toList e,false,none⟩)
theorem qdi {P:Program} {φ:Ren} {m:Mem} {w:World} (hi:Inv φ m w) (t:TypeId) {x X:Value} (hx:VR φ x X) :
  ∃ V w' φ',(Instr.box t X).run P w=.ok V w'/\VR φ' (jK t x m).1 V/\Inv φ' (jK t x m).2 w'/\Frm φ m w φ' (jK t x m).2 w':=by
 obtain ⟨w',φ',h1,h2,h3,h4⟩:=QD (P:=P) hi t hx;refine ⟨_,w',φ',by simp [Instr.box,h1]; rfl,?_,h3,h4⟩;have:=VR.ptr m.next 0 _ h2;simpa [jK] using this
theorem YS {P:Program} {φ:Ren} {m:Mem} {w:World} (hi:Inv φ m w) {t:TypeId} {i:TypeInfo} (hti:P.info? t=some i) {z:Value} (hz:i.zero=some z) (hp:VR φ z z) :
  ∃ V w' φ',(Instr.alloc t true (.tuple #[])).run P w=.ok V w'/\VR φ' (jK t z m).1 V/\Inv φ' (jK t z m).2 w'/\Frm φ m w φ' (jK t z m).2 w':=by
 obtain ⟨w',φ',h1,h2,h3,h4⟩:=QD (P:=P) hi t hp;refine ⟨_,w',φ',by simp [Instr.alloc,zV hti hz,h1]; rfl,?_,h3,h4⟩;have:=VR.ptr m.next 0 _ h2;simpa [jK] using this
def qt:List Value->List (Nat × Nat × Value)->Option (List Value)
 | cells,[]=>some cells
 | cells,(off,size,v)::r=>if v.cells.size≠size∨off+size > cells.length then none else qt (qQ cells off v.cells.toList) r
theorem JU (l:List Value):∀ (k off:Nat) (cs:Array Value),
  (l.zipIdx k).foldl (λcs (p:Value × Nat)=>cs.setIfInBounds (off+p.2) p.1) cs=(qQ cs.toList (off+k) l).toArray:=by
 induction l with
 | nil=>intro k off cs; simp [xm]
 | cons v l ih =>
  intro k off cs;simp only [List.zipIdx_cons,List.foldl_cons,zY];rw [ih (k+1) off];simp [Nat.add_assoc]
def ZZ (φ:Ren) (place:Nat->Option (Nat × Nat)) (ps:List (Nat × Nat × Value)) (PS:List (Nat × Value)):Prop :=
 ps.length=PS.length/\∀ (i:Nat) (p:Nat × Nat × Value) (q:Nat × Value),ps[i]? = some p->PS[i]? = some q->place q.1=some (p.1,p.2.1)/\VR φ p.2.2 q.2
theorem VRs.qQ {φ:Ren} {vs Vs:List Value} (h:VRs φ vs Vs):∀ {c C:List Value} (o:Nat),VRs φ c C->VRs φ (Fx.qQ c o vs) (Fx.qQ C o Vs):=by
 induction vs generalizing Vs with
 | nil =>
  intro c C o hc;have:Vs=[]:=by have:=h.1; simpa using this.symm
  subst this; rw [xm,xm]; exact hc
 | cons v r ih =>
  intro c C o hc;cases Vs with
  | nil=>have:=h.1; simp at this
  | cons V R =>
   have hv:VR φ v V:=h.2 0 v V rfl rfl;have hR:VRs φ r R:=⟨by have:=h.1; simpa using this,λj x y hx hy=>h.2 (j+1) x y (by simpa using hx) (by simpa using hy)⟩;rw [zY,zY]; exact ih hR (o+1) (hc.set hv o)
theorem Zq {φ:Ren} {place:Nat->Option (Nat × Nat)}:∀ (ps:List (Nat × Nat × Value)) (PS:List (Nat × Value)) (c:List Value) (C:Array Value) (r:List Value),ZZ φ place ps PS->VRs φ c C.toList->qt c ps=some r ->
  ∃ R,Instr.fill place C PS=some R/\VRs φ r R.toList:=by
 intro ps
 induction ps with
 | nil =>
  intro PS c C r hP hc h;have:PS=[]:=by have:=hP.1; simpa using this.symm
  subst this;simp only [qt,sjI] at h;subst h;exact ⟨C,rfl,hc⟩
 | cons p ps ih =>
  intro PS c C r hP hc h;cases PS with
  | nil=>have:=hP.1; simp at this
  | cons q PS =>
   obtain ⟨off,size,v⟩:=p;obtain ⟨i,V⟩:=q;obtain ⟨hpl,hv⟩:=hP.2 0 (off,size,v) (i,V) rfl rfl;simp only at hpl hv;have hP':ZZ φ place ps PS:=⟨by have:=hP.1; simpa using this,λj x y hx hy=>hP.2 (j+1) x y (by simpa using hx) (by simpa using hy)⟩;simp only [qt] at h;split at h
   ·cases h
   ·rename_i hn;have hn1:v.cells.size=size:=by
     rcases Nat.decEq v.cells.size size with h'|h'
     ·exact absurd (Or.inl h') hn
     ·exact h'
    have hn2:¬ (off+size > c.length):=λh'=>hn (.inr h')
    have hsz:=hv.Kk;have hlen:C.size=c.length:=by have:=hc.1; simpa using this.symm
    have hset:V.cells.zipIdx.foldl (λcs (x:Value × Nat)=>cs.setIfInBounds (off+x.2) x.1) C=(qQ C.toList off V.cells.toList).toArray:=by
     have:=JU V.cells.toList 0 off C;rw [<- Array.foldl_toList,Array.toList_zipIdx];simpa using this
    have hc':VRs φ (Fx.qQ c off v.cells.toList) (qQ C.toList off V.cells.toList).toArray.toList:=by simpa using hv.cells.qQ off hc
    obtain ⟨R,hR,hr⟩:=ih PS _ _ r hP' hc' h;refine ⟨R,?_,hr⟩;simp only [Instr.fill,hpl];rw [if_neg (by simp only [hsz,ne_eq,Bool.or_eq_true,decide_eq_true_eq,not_or,Decidable.not_not]; omega)];rw [<- hset] at hR;exact hR
end Go.Fx
namespace Go.Fx
open Go
def Xp (op:BinOp) (k:IntKind) (x y:Int):Option Int :=
 let a:=BitVec.ofInt k.bits x
 let b:=BitVec.ofInt k.bits y
 match op with
 | .and=>some (k.wrap ((a &&& b).toNat:Int))
 | .or=>some (k.wrap ((a ||| b).toNat:Int))
 | .xor=>some (k.wrap ((a ^^^ b).toNat:Int))
 | .andNot=>some (k.wrap ((a &&& ~~~b).toNat:Int))
 | _=>none
def iop (op:BinOp) (k:IntKind) (x y:Int):Option Value :=
 match op with
 | .add=>some (.int k (k.wrap (x+y)))
 | .sub=>some (.int k (k.wrap (x - y)))
 | .mul=>some (.int k (k.wrap (x * y)))
 | .quo=>if y=0 then none else some (.int k (k.wrap (x.tdiv y)))
 | .rem=>if y=0 then none else some (.int k (x.tmod y))
 | .eql=>some (.bool (x == y))
 | .neq=>some (.bool (x != y))
 | .lss=>some (.bool (x<y))
 | .leq=>some (.bool (x<=y))
 | .gtr=>some (.bool (x > y))
 | .geq=>some (.bool (x ≥ y))
 | .and|.or|.xor|.andNot=>(Xp op k x y).map (.int k)
 | _=>none
def sop (op:BinOp) (x y:ByteArray):Option Value :=
 match op with
 | .add=>if ((x.size+y.size:Nat):Int) > IntKind.i64.max then none else some (.string (x++y))
 | .eql=>some (.bool (x.data.toList == y.data.toList))
 | .neq=>some (.bool !(x.data.toList == y.data.toList))
 | .lss=>some (.bool (Op.bytesLess x.data.toList y.data.toList))
 | .leq=>some (.bool (Op.bytesLess x.data.toList y.data.toList||x.data.toList == y.data.toList))
 | .gtr=>some (.bool !(Op.bytesLess x.data.toList y.data.toList||x.data.toList == y.data.toList))
 | .geq=>some (.bool !(Op.bytesLess x.data.toList y.data.toList))
 | _=>none
def arith (op:BinOp) (a b:Value):Option Value :=
 match op,a,b with
 | .shl,.int k x,.int _ y=>if y<0 then none else some (.int k (k.wrap (x * 2 ^ (min y.toNat k.bits))))
 | .shr,.int k x,.int _ y=>if y<0 then none else some (.int k (x.fdiv (2 ^ (min y.toNat k.bits))))
 | op,.int k x,.int k' y=>if k=k' then iop op k x y else none
 | op,.string x,.string y=>sop op x y
 | _,_,_=>none
theorem KL {P:Program} {w:World} {op:BinOp} {t:TypeId} {k:IntKind} {x y:Int} {v:Value} (h1:op≠.shl) (h2:op≠.shr) (h:iop op k x y=some v) :
  (Go.binOp op t (.int k x) (.int k y)).run P w=.ok v w:=by
 cases op<;>simp [iop,Xp] at h h1 h2<;>simp [Go.binOp,Op.intArith,Op.intDiv,Op.intBits,Op.intCmp,h]
 all_goals (obtain ⟨h3,h4⟩:=h; simp [h3,h4])
theorem KJ {P:Program} {w:World} {op:BinOp} {t:TypeId} {x y:ByteArray} {v:Value} (h:sop op x y=some v) :
  (Go.binOp op t (.string x) (.string y)).run P w=.ok v w:=by
 cases op<;>simp [sop] at h<;>simp [Go.binOp,Op.stringOp,ByteArray.toList_eq,h]
 all_goals (obtain ⟨h3,h4⟩:=h; simp [h4]; omega)
theorem run_eqGuard_int {P:Program} {w:World} {op:BinOp} {t:TypeId} {x y:Operand} {k k':IntKind} {a b:Int}:(eqGuard op t x y (.int k a) (.int k' b)).run P w=.ok () w:=by
 cases op<;>simp [eqGuard]
theorem run_eqGuard_str {P:Program} {w:World} {op:BinOp} {t:TypeId} {x y:Operand} {a b:ByteArray}:(eqGuard op t x y (.string a) (.string b)).run P w=.ok () w:=by
 cases op<;>simp [eqGuard]
theorem Xh {P:Program} {φ:Ren} {w:World} {op:BinOp} {t:TypeId} {x y:Operand} {a b A B u:Value} (ha:VR φ a A) (hb:VR φ b B) (h:arith op a b=some u) :
  ((do eqGuard op t x y A B; Go.binOp op t A B:Sem Value)).run P w=.ok u w/\VR φ u u:=by
 have hg:A=a/\B=b/\((∃ k i,a=.int k i)/\(∃ k i,b=.int k i)∨(∃ s,a=.string s)/\(∃ s,b=.string s)):=by
  unfold arith at h;split at h
  ·cases ha; cases hb; exact ⟨rfl,rfl,.inl ⟨⟨_,_,rfl⟩,⟨_,_,rfl⟩⟩⟩
  ·cases ha; cases hb; exact ⟨rfl,rfl,.inl ⟨⟨_,_,rfl⟩,⟨_,_,rfl⟩⟩⟩
  ·cases ha; cases hb; exact ⟨rfl,rfl,.inl ⟨⟨_,_,rfl⟩,⟨_,_,rfl⟩⟩⟩
  ·cases ha; cases hb; exact ⟨rfl,rfl,.inr ⟨⟨_,rfl⟩,⟨_,rfl⟩⟩⟩
  ·cases h
 obtain ⟨rfl,rfl,hs⟩:=hg;have he:(eqGuard op t x y A B).run P w=.ok () w:=by
  rcases hs with ⟨⟨k,i,rfl⟩,⟨k',i',rfl⟩⟩|⟨⟨s,rfl⟩,⟨s',rfl⟩⟩
  ·exact run_eqGuard_int
  ·exact run_eqGuard_str
 simp only [Sem.run_bind,he,Result.andThen_ok];rcases hs with ⟨⟨k,i,rfl⟩,⟨k',i',rfl⟩⟩|⟨⟨s,rfl⟩,⟨s',rfl⟩⟩
 ·by_cases h1:op=.shl
  ·subst h1;simp only [arith] at h;split at h
   ·cases h
   ·cases h
    rename_i hn;exact ⟨by simp [Go.binOp,Op.shift,hn],.int ..⟩
  ·by_cases h2:op=.shr
   ·subst h2;simp only [arith] at h;split at h
    ·cases h
    ·cases h
     rename_i hn;exact ⟨by simp [Go.binOp,Op.shift,hn],.int ..⟩
   ·have h3:(if k=k' then iop op k i i' else none)=some u:=by
     cases op<;>simp [arith] at h h1 h2 ⊢<;>exact h
    split at h3
    ·rename_i hk;subst hk;refine ⟨KL h1 h2 h3,?_⟩;cases op<;>simp [iop,Xp] at h3
     all_goals first
      | (subst h3; first|exact .int ..|exact .bool ..)
      | (obtain ⟨_,h4⟩:=h3; subst h4; first|exact .int ..|exact .bool ..)
    ·cases h3
 ·have h3:sop op s s'=some u:=by cases op<;>simpa [arith] using h
  refine ⟨KJ h3,?_⟩;cases op<;>simp [sop] at h3
  all_goals first
   | (subst h3; first|exact .string ..|exact .bool ..)
   | (obtain ⟨_,h4⟩:=h3; subst h4; first|exact .string ..|exact .bool ..)
inductive ScK where
 | bool|int|string
inductive EqD where
 | sc (k:ScK)
 | st (fs:List (Nat × Nat × Bool × EqD))
def qgI:ScK->Value->Value->Option Bool
 | .bool,.bool a,.bool b=>some (a == b)
 | .int,.int k a,.int k' b=>if k=k' then some (a == b) else none
 | .string,.string a,.string b=>some (a == b)
 | _,_,_=>none
def partOf (cs:Array Value) (off size:Nat) (agg:Bool):Option Value :=
 if agg then some (.agg (cs.extract off (off+size))) else cs[off]?
mutual
def Kp:EqD->Value->Value->Option Bool
 | .sc k,a,b=>qgI k a b
 | .st fs,.agg xs,.agg ys=>Zr fs xs ys
 | .st _,_,_=>none
def Zr:List (Nat × Nat × Bool × EqD)->Array Value->Array Value->Option Bool
 | [],_,_=>some true
 | (off,size,agg,d)::r,xs,ys =>
  match partOf xs off size agg,partOf ys off size agg with
  | some x,some y =>
   match Kp d x y with
   | some true=>Zr r xs ys
   | some false=>some false
   | none=>none
  | _,_=>none
end
mutual
def eqOk (P:Program):EqD->TypeId->Bool
 | .sc .bool,t=>match P.underlying t with
  | some .bool=>true
  | _=>false
 | .sc .int,t=>match P.underlying t with
  | some (.int _)=>true
  | _=>false
 | .sc .string,t=>match P.underlying t with
  | some .string=>true
  | _=>false
 | .st fs,t=>match P.underlying t with
  | some (.struct fields)=>!P.stoodInHeld t&&eqOkFs P fs fields.toList
  | _=>false
def eqOkFs (P:Program):List (Nat × Nat × Bool × EqD)->List Field->Bool
 | [],[]=>true
 | (off,size,agg,d)::r,f::fs =>
  f.name != "_" && f.offset == off && (P.info? f.type).map (·.size) == some size && aggT P f.type == some agg && eqOk P d f.type && eqOkFs P r fs
 | _,_=>false
end
mutual
def EqD.depth:EqD->Nat
 | .sc _=>1
 | .st fs=>EqD.WU fs+1
def EqD.WU:List (Nat × Nat × Bool × EqD)->Nat
 | []=>0
 | (_,_,_,d)::r=>max (EqD.depth d) (EqD.WU r)
end
theorem QI {P:Program} {w:World} {t:TypeId} {b:Bool} {n off:Nat} {cs:Array Value} {v:Value} (hb:aggT P t=some b) (hn:(P.info? t).map (·.size)=some n) (h:partOf cs off n b=some v) :
  (part t cs off).run P w=.ok v w:=by
 cases hi:P.info? t with
 | none=>rw [hi] at hn; cases hn
 | some i =>
  rw [hi] at hn;simp only [Option.map_some,sjI] at hn;subst hn;simp only [part,Sem.run_bind,ZC hb,Result.andThen_ok];cases b
  ·simp only [partOf,Bool.false_eq_true,if_false] at h;simp [h]
  ·simp only [partOf,if_true,sjI] at h;subst h;simp [ze hi]
theorem run_eq1 {P:Program} {w:World} {n:Nat} {t:TypeId} {k:ScK} {x y:Value} {r:Bool} (hok:eqOk P (.sc k) t=true) (h:qgI k x y=some r):(Op.equalIn (n+1) t x y).run P w=.ok r w:=by
 unfold qgI at h;split at h
 ·simp only [eqOk] at hok;split at hok
  ·rename_i hd;cases h
   simp [Op.equalIn,qy hd]
  ·cases hok
 ·simp only [eqOk] at hok;split at hok
  ·rename_i hd;split at h
   ·rename_i hk;subst hk;cases h
    simp [Op.equalIn,qy hd]
   ·cases h
  ·cases hok
 ·simp only [eqOk] at hok;split at hok
  ·rename_i hd;cases h
   simp [Op.equalIn,qy hd]
  ·cases hok
 ·cases h
mutual
theorem run_eqD {P:Program} {w:World}:∀ (d:EqD) (n:Nat) (t:TypeId) (x y:Value) (r:Bool),d.depth<=n->eqOk P d t=true->Kp d x y=some r->(Op.equalIn n t x y).run P w=.ok r w
 | .sc _,0,_,_,_,_,hn,_,_=>by simp [EqD.depth] at hn
 | .st _,0,_,_,_,_,hn,_,_=>by simp [EqD.depth] at hn
 | .sc k,n+1,t,x,y,r,_,hok,h=>run_eq1 hok (by simpa [Kp] using h)
 | .st fs,n+1,t,x,y,r,hn,hok,h=>by
  simp only [EqD.depth] at hn;simp only [eqOk] at hok;split at hok
  ·rename_i fields hd;simp only [baI,Bool.not_eq_true'] at hok;have hf:P.fieldsOf t=fields:=by simp [Program.fieldsOf,hd]
   unfold Kp at h;split at h
   ·rename_i he;cases he
   ·rename_i he;cases he
    rw [run_equalIn_struct w n t _ _ (by rw [hf]; exact hd) hok.1,hf];exact run_eqFs fs n fields.toList _ _ r (by omega) hok.2 h
   ·cases h
  ·cases hok
theorem run_eqFs {P:Program} {w:World}:∀ (fs:List (Nat × Nat × Bool × EqD)) (n:Nat) (fields:List Field) (xs ys:Array Value) (r:Bool),EqD.WU fs<=n->eqOkFs P fs fields=true->Zr fs xs ys=some r ->
  (Op.eqFields n xs ys fields).run P w=.ok r w
 | [],n,[],xs,ys,r,_,_,h=>by
  simp only [Zr,sjI] at h;subst h;simp [Op.eqFields]
 | [],n,_::_,xs,ys,r,_,hok,_=>by simp [eqOkFs] at hok
 | _::_,n,[],xs,ys,r,_,hok,_=>by simp [eqOkFs] at hok
 | (off,size,agg,d)::rest,n,f::fields,xs,ys,r,hn,hok,h=>by
  simp only [EqD.WU] at hn;simp only [eqOkFs,baI,bne_iff_ne,ne_eq,beq_iff_eq] at hok;obtain ⟨⟨⟨⟨⟨h1,h2⟩,h3⟩,h4⟩,h5⟩,h6⟩:=hok;simp only [Zr] at h;split at h
  ·rename_i x y hx hy;subst h2;simp only [Op.eqFields,ne_eq,h1,not_false_eq_true,if_true,Sem.run_bind,QI h4 h3 hx,QI h4 h3 hy,Result.andThen_ok];split at h
   ·rename_i hd;rw [run_eqD d n f.type x y true (by omega) h5 hd];simp only [Result.andThen_ok,Bool.not_true,Bool.false_eq_true,if_false];exact run_eqFs rest n fields xs ys r (by omega) h6 h
   ·rename_i hd;cases h
    rw [run_eqD d n f.type x y false (by omega) h5 hd];simp
   ·cases h
  ·cases h
end
end Go.Fx
namespace Go.Fx
open Go
def qbV (neg:Bool) (d:EqD) (a b:Value):Option Value:=(Kp d a b).map λr=>.bool (if neg then !r else r)
theorem VR.sc {φ:Ren} {k:ScK} {a A b B:Value} {r:Bool} (ha:VR φ a A) (hb:VR φ b B) (h:qgI k a b=some r):A=a/\B=b:=by
 unfold qgI at h;split at h
 ·cases ha; cases hb; exact ⟨rfl,rfl⟩
 ·cases ha; cases hb; exact ⟨rfl,rfl⟩
 ·cases ha; cases hb; exact ⟨rfl,rfl⟩
 ·cases h
theorem VR.partOf {φ:Ren} {xs Xs:Array Value} (h:VRs φ xs.toList Xs.toList) {off size:Nat} {agg:Bool} {v:Value} (hp:Fx.partOf xs off size agg=some v) :
  ∃ V,Fx.partOf Xs off size agg=some V/\VR φ v V:=by
 cases agg
 ·simp only [Fx.partOf,Bool.false_eq_true,if_false] at hp ⊢;obtain ⟨V,hV,r⟩:=h.get (i:=off) (x:=v) (by simpa using hp);exact ⟨V,by simpa using hV,r⟩
 ·simp only [Fx.partOf,if_true,sjI] at hp ⊢;subst hp;refine ⟨_,rfl,.agg _ _ ?_ ?_⟩
  ·have:=h.1; simp only [Array.length_toList] at this; simp [this]
  ·intro i x y hx hy;rw [Array.getElem?_extract] at hx hy;split at hx
   ·split at hy
    ·exact h.2 _ x y (by simpa using hx) (by simpa using hy)
    ·cases hy
   ·cases hx
mutual
theorem WX {φ:Ren}:∀ (d:EqD) (a b A B:Value) (r:Bool),VR φ a A->VR φ b B->Kp d a b=some r->Kp d A B=some r
 | .sc k,a,b,A,B,r,ha,hb,h=>by
  simp only [Kp] at h ⊢;obtain ⟨rfl,rfl⟩:=VR.sc ha hb h;exact h
 | .st fs,a,b,A,B,r,ha,hb,h=>by
  unfold Kp at h;split at h
  ·rename_i he; cases he
  ·rename_i he;cases he
   cases ha with
   | agg xs Xs hs1 hs2 =>
   cases hb with
   | agg ys Ys ht1 ht2 =>
   simp only [Kp];exact qaa fs _ _ _ _ r (VRs.of_array hs1 hs2) (VRs.of_array ht1 ht2) h
  ·cases h
theorem qaa {φ:Ren}:∀ (fs:List (Nat × Nat × Bool × EqD)) (xs ys Xs Ys:Array Value) (r:Bool),VRs φ xs.toList Xs.toList->VRs φ ys.toList Ys.toList->Zr fs xs ys=some r->Zr fs Xs Ys=some r
 | [],_,_,_,_,r,_,_,h=>by simpa [Zr] using h
 | (off,size,agg,d)::rest,xs,ys,Xs,Ys,r,hx,hy,h=>by
  simp only [Zr] at h ⊢;split at h
  ·rename_i x y h1 h2;obtain ⟨X,hX,rx⟩:=VR.partOf hx h1;obtain ⟨Y,hY,ry⟩:=VR.partOf hy h2;rw [hX,hY];simp only;split at h
   ·rename_i hd;rw [WX d x y X Y true rx ry hd];exact qaa rest xs ys Xs Ys r hx hy h
   ·rename_i hd;rw [WX d x y X Y false rx ry hd];exact h
   ·cases h
  ·cases h
end
theorem sound_eq {P:Program} {φ:Ren} {w:World} {neg:Bool} {fs:List (Nat × Nat × Bool × EqD)} {t:TypeId} {x y:Operand} {a b A B u:Value} (hok:eqOk P (.st fs) t=true) (hg:P.eqGuardType P.depth t=false)
  (hdep:(EqD.st fs).depth<=10000) (ha:VR φ a A) (hb:VR φ b B) (h:qbV neg (.st fs) a b=some u) :
  ((do eqGuard (if neg then .neq else .eql) t x y A B; Go.binOp (if neg then .neq else .eql) t A B:Sem Value)).run P w=.ok u w/\VR φ u u:=by
 simp only [qbV,msI] at h;obtain ⟨r,hr,rfl⟩:=h;have hR:=WX _ _ _ _ _ _ ha hb hr;have hrun:=run_eqD (P:=P) (w:=w) _ 10000 t A B r hdep hok hR;have hagg:∃ xs ys,A=.agg xs/\B=.agg ys:=by
  unfold Kp at hR;split at hR
  ·rename_i he; cases he
  ·exact ⟨_,_,rfl,rfl⟩
  ·cases hR
 obtain ⟨xs,ys,rfl,rfl⟩:=hagg;refine ⟨?_,.bool _⟩;simp only [Sem.run_bind,run_eqGuard_agg w _ t x y xs ys hg,Result.andThen_ok];cases neg
 ·simp only [Bool.false_eq_true,if_false];rw [run_eql_struct,hrun]; rfl
 ·simp only [if_true];rw [run_neq_struct,hrun]; rfl
def WO:Value->Value->Bool
 | .bool _,.bool _|.pointer _,.pointer _|.slice _ _ _,.slice _ _ _|.map _,.map _|.nilFunc,.nilFunc|.nilFunc,.func _ _ _|.func _ _ _,.nilFunc=>true
 | _,_=>false
theorem ZE {P:Program} {w:World} {neg:Bool} {t:TypeId} {x y:Operand} {A B:Value} {r:Bool} (hs:WO A B=true) (h:(Op.equalIn 10000 t A B).run P w=.ok r w) :
    ((do eqGuard (if neg then .neq else .eql) t x y A B; Go.binOp (if neg then .neq else .eql) t A B:Sem Value)).run P w=.ok (.bool (if neg then !r else r)) w:=by
  unfold WO at hs;split at hs
  all_goals first
    | (cases hs; done)
    | (cases neg
       · simp only [Bool.false_eq_true,if_false,Sem.run_bind];rw [show ∀ A B,Op.equalIn 10000 t A B=Op.equal t A B from λ_ _=>rfl] at h;simp only [eqGuard,Go.binOp,Bool.not_true,Bool.false_eq_true,if_false,Sem.run_pure,Result.andThen_ok,Sem.run_bind,h]
       · simp only [if_true,Sem.run_bind];rw [show ∀ A B,Op.equalIn 10000 t A B=Op.equal t A B from λ_ _=>rfl] at h;simp only [eqGuard,Go.binOp,Bool.not_true,Bool.false_eq_true,if_false,Sem.run_pure,Result.andThen_ok,Sem.run_bind,h])
def vq (neg:Bool) (a b:Value):Option Value :=
 match a,b with
 | .bool x,.bool y=>some (.bool (if neg then !(x == y) else x == y))
 | _,_=>none
theorem sound_eqBool {P:Program} {φ:Ren} {w:World} {neg:Bool} {t:TypeId} {x y:Operand} {a b A B u:Value} (ht:P.underlying t=some .bool) (ha:VR φ a A) (hb:VR φ b B) (h:vq neg a b=some u) :
  ((do eqGuard (if neg then .neq else .eql) t x y A B; Go.binOp (if neg then .neq else .eql) t A B:Sem Value)).run P w=.ok u w/\VR φ u u:=by
 unfold vq at h;split at h
 ·rename_i p q;cases h
  cases ha; cases hb
  exact ⟨ZE rfl (run_eq1 (n:=9999) (k:=.bool) (by simp [eqOk,ht]) rfl),.bool _⟩
 ·cases h
def yX (a b:Value):Option Bool :=
 match a,b with
 | .pointer none,.pointer y=>some y.isNone
 | .pointer (some _),.pointer none=>some false
 | .slice none _ _,.slice y _ _=>some y.isNone
 | .slice (some _) _ _,.slice none _ _=>some false
 | .map none,.map y=>some y.isNone
 | .map (some _),.map none=>some false
 | .nilFunc,.nilFunc=>some true
 | .func _ _ _,.nilFunc=>some false
 | .nilFunc,.func _ _ _=>some false
 | _,_=>none
inductive NilK where
 | ptr|slice|map|func
 deriving DecidableEq
def QP:Value->Option NilK
 | .pointer _=>some .ptr
 | .slice ..=>some .slice
 | .map _=>some .map
 | .nilFunc|.func ..=>some .func
 | _=>none
def wh (P:Program) (t:TypeId):Option NilK :=
 match P.underlying t with
 | some (.pointer _)=>some .ptr
 | some (.slice _)=>some .slice
 | some (.map ..)=>some .map
 | some (.func ..)=>some .func
 | _=>none
def qU (k:NilK) (neg:Bool) (a b:Value):Option Value:=if QP a=some k then (yX a b).map λr=>.bool (if neg then !r else r) else none
theorem qbq {φ:Ren} {a b A B:Value} {r:Bool} (ha:VR φ a A) (hb:VR φ b B) (h:yX a b=some r):yX A B=some r/\QP A=QP a:=by
 unfold yX at h;split at h<;>first|(cases h; done)|(cases ha<;>cases hb<;>first|(cases h; exact ⟨rfl,rfl⟩))
theorem Ha {P:Program} {w:World} (n:Nat) {t:TypeId} {A B:Value} {r:Bool} {k:NilK} (ht:wh P t=some k) (hk:QP A=some k) (h:yX A B=some r):(Op.equalIn (n+1) t A B).run P w=.ok r w/\WO A B=true:=by
 cases hd:P.underlying t with
 | none=>simp [wh,hd] at ht
 | some d =>
  unfold yX at h;split at h<;>first
   | (cases h; done)
   | (cases h; refine ⟨?_,rfl⟩; cases d<;>simp [wh,hd,QP] at ht hk<;>first|(subst ht; cases hk; done)|simp [Op.equalIn,qy hd])
theorem sound_eqNil {P:Program} {φ:Ren} {w:World} {neg:Bool} {k:NilK} {t:TypeId} {x y:Operand} {a b A B u:Value} (ht:wh P t=some k) (ha:VR φ a A) (hb:VR φ b B) (h:qU k neg a b=some u) :
  ((do eqGuard (if neg then .neq else .eql) t x y A B; Go.binOp (if neg then .neq else .eql) t A B:Sem Value)).run P w=.ok u w/\VR φ u u:=by
 unfold qU at h;split at h
 ·rename_i hk;simp only [msI] at h;obtain ⟨r,hr,rfl⟩:=h;obtain ⟨h1,h2⟩:=qbq ha hb hr;obtain ⟨h3,h4⟩:=Ha (w:=w) 9999 ht (h2.trans hk) h1;exact ⟨ZE h4 h3,.bool _⟩
 ·cases h
def zy (op:UnOp) (a:Value):Option Value :=
 match op,a with
 | .neg,.int k n=>some (.int k (k.wrap (0 - n)))
 | .xor,.int k n=>(Xp .xor k (if k.signed then -1 else k.max) n).map (.int k)
 | .not,.bool b=>some (.bool !b)
 | _,_=>none
theorem qeF {P:Program} {φ:Ren} {w:World} {op:UnOp} {a A u:Value} (ha:VR φ a A) (h:zy op a=some u):(Op.unary op A).run P w=.ok u w/\VR φ u u:=by
 unfold zy at h;split at h
 ·cases h; cases ha; exact ⟨by simp [Op.unary,Op.intArith],.int ..⟩
 ·cases ha
  simp [Xp] at h;subst h;exact ⟨by simp [Op.unary,Op.intBits],.int ..⟩
 ·cases h; cases ha; exact ⟨by simp [Op.unary],.bool ..⟩
 ·cases h
def zn (k:IntKind) (a:Value):Option Value :=
 match a with
 | .int _ n=>some (.int k (k.wrap n))
 | _=>none
theorem qaw {P:Program} {φ:Ren} {w:World} {s d:TypeId} {ds:TypeDesc} {k:IntKind} {a A u:Value} (hs:P.underlying s=some ds) (hd:P.underlying d=some (.int k)) (ha:VR φ a A) (h:zn k a=some u) :
  (convert s d A).run P w=.ok u w/\VR φ u u:=by
 unfold zn at h;split at h
 ·cases h; cases ha
  exact ⟨by simp [convert,qy hs,qy hd,Conv.intToInt],.int ..⟩
 ·cases h
def qb (o:Nat) (v:Value):Option Value:=(jV v).map λp=>.pointer (some ⟨p.1,p.2+o,none⟩)
theorem Xz {P:Program} {φ:Ren} {w:World} {t:TypeId} {fs:Array Field} {k:Nat} {f:Field} {i:TypeInfo} {v V u:Value} (ht:P.underlying t=some (.struct fs)) (hf:fs[k]? = some f) (hi:P.info? f.type=some i) (hz:i.size≠0)
  (hv:VR φ v V) (h:qb f.offset v=some u):∃ U,(Instr.fieldAt t V k).run P w=.ok U w/\VR φ u U:=by
 simp only [qb,msI] at h;obtain ⟨⟨b,off⟩,hp,rfl⟩:=h;obtain ⟨l,hl,rfl⟩:=yu hv hp;refine ⟨.pointer (some ⟨l.blk,l.base+(off+f.offset),none⟩),?_,.ptr _ _ _ hl⟩;simp [Instr.fieldAt,qy ht,hf,Instr.sureAddr,fieldPlace,ze hi,hz,jq,Nat.add_assoc]
def vZ (off size:Nat) (agg:Bool) (v:Value):Option Value :=
 match v with
 | .agg cs=>partOf cs off size agg
 | _=>none
theorem YO {P:Program} {φ:Ren} {w:World} {t:TypeId} {fs:Array Field} {k:Nat} {f:Field} {n:Nat} {agg:Bool} {v V u:Value} (ht:P.underlying t=some (.struct fs)) (hf:fs[k]? = some f)
  (hn:(P.info? f.type).map (·.size)=some n) (hagg:aggT P f.type=some agg) (hv:VR φ v V) (h:vZ f.offset n agg v=some u):∃ U,(Instr.field t V k).run P w=.ok U w/\VR φ u U:=by
 unfold vZ at h;split at h
 ·cases hv with
  | agg xs Xs h1 h2 =>
  obtain ⟨U,hU,r⟩:=VR.partOf (VRs.of_array h1 h2) h;exact ⟨U,by simp [Instr.field,qy ht,hf,asAgg,QI hagg hn hU],r⟩
 ·cases h
def qi (size:Nat) (v i:Value):Option Value :=
 match v,i with
 | .slice (some ⟨b,off,none⟩) len _,.int _ n=>if 0<=n/\n<len then some (.pointer (some ⟨b,off+n.toNat * size,none⟩)) else none
 | _,_=>none
theorem Wd {P:Program} {φ:Ren} {w:World} {t e:TypeId} {i:TypeInfo} {v V x X u:Value} (ht:P.underlying t=some (.slice e)) (hi:P.info? e=some i) (hv:VR φ v V) (hx:VR φ x X) (h:qi i.size v x=some u) :
  ∃ U,(Instr.indexAt t V X).run P w=.ok U w/\VR φ u U:=by
 unfold qi at h;split at h
 ·rename_i b off len cap k n;split at h
  ·rename_i hn;cases h
   cases hx
   cases hv with
   | sliceEx _ _ _ _ l hl hlo =>
    refine ⟨.pointer (some ⟨l.blk,l.base+(off+n.toNat * i.size),none⟩),?_,.ptr _ _ _ hl⟩;simp [Instr.indexAt,asIntOf,qy ht,ze hi,jq,hn,Nat.add_assoc]
   | sliceZero _ _ A=>exfalso; omega
   | sliceLoose _ _ _ _ off' cap' s l hl hlo hoff hlen hcap hroom =>
    have:off'=l.base+off:=hoff (by omega);subst this;refine ⟨.pointer (some ⟨l.blk,l.base+(off+n.toNat * i.size),none⟩),?_,.ptr _ _ _ hl⟩;simp [Instr.indexAt,asIntOf,qy ht,ze hi,jq,hn,Nat.add_assoc]
  ·cases h
 ·cases h
def jt (len size:Nat) (v i:Value):Option Value :=
 match v,i with
 | .pointer (some ⟨b,off,none⟩),.int _ n=>if 0<=n/\n<len then some (.pointer (some ⟨b,off+n.toNat * size,none⟩)) else none
 | _,_=>none
theorem Wf {P:Program} {φ:Ren} {w:World} {t e:TypeId} {len:Nat} {i:TypeInfo} {v V x X u:Value} (ht:P.underlying t=some (.array len e)) (hi:P.info? e=some i) (hv:VR φ v V) (hx:VR φ x X) (h:jt len i.size v x=some u) :
  ∃ U,(Instr.indexAt t V X).run P w=.ok U w/\VR φ u U:=by
 unfold jt at h;split at h
 ·rename_i b off k n;split at h
  ·rename_i hn;cases h
   cases hx
   cases hv with
   | ptr _ _ l hl =>
    refine ⟨.pointer (some ⟨l.blk,l.base+(off+n.toNat * i.size),none⟩),?_,.ptr _ _ _ hl⟩;simp [Instr.indexAt,asIntOf,Instr.sureAddr,qy ht,ze hi,jq,hn,Nat.add_assoc]
  ·cases h
 ·cases h
def zm (v i:Value):Option Value :=
 match v,i with
 | .string s,.int _ n=>if 0<=n then (s[n.toNat]?).map λb=>.int .u8 b.toNat else none
 | _,_=>none
theorem Jp {P:Program} {φ:Ren} {w:World} {t:TypeId} {v V x X u:Value} (ht:P.underlying t=some .string) (hv:VR φ v V) (hx:VR φ x X) (h:zm v x=some u) :
  (Instr.index t V X).run P w=.ok u w/\VR φ u u:=by
 unfold zm at h;split at h
 ·split at h
  ·rename_i hn;simp only [msI] at h;obtain ⟨b,hb,rfl⟩:=h;cases hv; cases hx
   exact ⟨by simp [Instr.index,asIntOf,qy ht,hn,hb],.int ..⟩
  ·cases h
 ·cases h
def vK (len size:Nat) (agg:Bool) (v i:Value):Option Value :=
 match v,i with
 | .agg cs,.int _ n=>if 0<=n/\n<len then partOf cs (n.toNat * size) size agg else none
 | _,_=>none
theorem Jq {P:Program} {φ:Ren} {w:World} {t e:TypeId} {len:Nat} {i:TypeInfo} {agg:Bool} {v V x X u:Value} (ht:P.underlying t=some (.array len e)) (hi:P.info? e=some i) (hagg:aggT P e=some agg) (hv:VR φ v V) (hx:VR φ x X)
  (h:vK len i.size agg v x=some u):∃ U,(Instr.index t V X).run P w=.ok U w/\VR φ u U:=by
 unfold vK at h;split at h
 ·split at h
  ·rename_i hn;cases hx
   cases hv with
   | agg xs Xs h1 h2 =>
   obtain ⟨U,hU,r⟩:=VR.partOf (VRs.of_array h1 h2) h;exact ⟨U,by simp [Instr.index,asIntOf,qy ht,hn,ze hi,QI hagg (by rw [hi]; rfl) hU],r⟩
  ·cases h
 ·cases h
end Go.Fx
namespace Go.Fx
open Go
def xB (x:Option Value) (dflt most:Nat):Option Nat :=
 match x with
 | none=>some dflt
 | some (.int _ n)=>if 0<=n/\n<=most then some n.toNat else none
 | some _=>none
def wX (φ:Ren):Option Value->Option Value->Prop
 | none,none=>True
 | some x,some y=>VR φ x y
 | _,_=>False
def zz (len cap:Nat) (lo hi:Option Value):Option (Nat × Nat) :=
 (xB hi len cap).bind λh=>(xB lo 0 h).map λl=>(l,h)
theorem run_sliceBound {P:Program} {w:World} {k:IntKind} {n:Int} {y y':Nat} (code:BoundsCode) (h:0<=n/\n<=y) (hy:y<=y'):(Instr.sliceBound (.int k n) y' code).run P w=.ok n.toNat w:=by
 have:0<=n/\n<=(y':Int):=⟨h.1,by omega⟩;simp [Instr.sliceBound,asIntOf,this]
theorem xG {P:Program} {φ:Ren} {w:World} {isSlice:Bool} {len cap cap':Nat} {lo hi LO HI:Option Value} {l h:Nat} (hlo:wX φ lo LO) (hhi:wX φ hi HI) (hb:zz len cap lo hi=some (l,h)) (hc:cap<=cap') :
  (Instr.sliceBounds isSlice len cap' LO HI none).run P w=.ok (l,h,cap') w:=by
 simp only [zz,bsI,msI,pjI] at hb;obtain ⟨h1,hh,l1,hl,rfl,rfl⟩:=hb;have e1:∃ x,(match HI with|some v=>Instr.sliceBound v cap' (if isSlice then .sliceAcap else .sliceAlen)|none=>(pure len:Sem Nat))=x/\x.run P w=.ok h1 w:=by
  refine ⟨_,rfl,?_⟩;cases hi with
  | none=>cases HI with
   | some _=>exact hhi.elim
   | none=>simp only [xB,sjI] at hh; subst hh; rfl
  | some v=>cases HI with
   | none=>exact hhi.elim
   | some V =>
    simp only [wX] at hhi;unfold xB at hh;split at hh
    ·rename_i he; cases he
    ·rename_i he; cases he
     cases hhi
     split at hh
     ·rename_i hn; cases hh; exact run_sliceBound _ hn hc
     ·cases hh
    ·cases hh
 have e2:∃ x,(match LO with|some v=>Instr.sliceBound v h1 (if false then .slice3C else .sliceB)|none=>(pure 0:Sem Nat))=x/\x.run P w=.ok l1 w:=by
  refine ⟨_,rfl,?_⟩;cases lo with
  | none=>cases LO with
   | some _=>exact hlo.elim
   | none=>simp only [xB,sjI] at hl; subst hl; rfl
  | some v=>cases LO with
   | none=>exact hlo.elim
   | some V =>
    simp only [wX] at hlo;unfold xB at hl;split at hl
    ·rename_i he; cases he
    ·rename_i he; cases he
     cases hlo
     split at hl
     ·rename_i hn; cases hl; exact run_sliceBound _ hn (Nat.le_refl _)
     ·cases hl
    ·cases hl
 obtain ⟨x1,r1,e1⟩:=e1;obtain ⟨x2,r2,e2⟩:=e2;unfold Instr.sliceBounds;subst r1;subst r2;simp only [Sem.run_bind,Sem.run_pure,Result.andThen_ok,Option.isSome_none];cases HI<;>cases LO<;>(simp only [Sem.run_bind,Sem.run_pure,Result.andThen_ok] at e1 e2 ⊢; (try (injection e1 with e1 _; subst e1)); (try rw [e1]); (try simp only [Result.andThen_ok]); (try (injection e2 with e2 _; subst e2)); (try rw [e2]); (try rfl))
def zH (v:Value) (lo hi:Option Value):Option Value :=
 match v with
 | .string s=>(zz s.size s.size lo hi).map λp=>.string ⟨((s.data.toList.drop p.1).take (p.2 - p.1)).toArray⟩
 | _=>none
theorem WK (s:ByteArray) (a b:Nat):s.extract a b=⟨((s.data.toList.drop a).take (b - a)).toArray⟩:=by
 obtain ⟨⟨l⟩⟩:=s;apply ByteArray.ext;apply Array.toList_inj.1;simp [ByteArray.data_extract,Array.toList_extract,List.extract_eq_take_drop]
theorem Jn {P:Program} {φ:Ren} {w:World} {t:TypeId} {v V u:Value} {lo hi LO HI:Option Value} (ht:P.underlying t=some .string) (hv:VR φ v V) (hlo:wX φ lo LO) (hhi:wX φ hi HI) (h:zH v lo hi=some u) :
  (Instr.sliceAt t V LO HI none).run P w=.ok u w/\VR φ u u:=by
 unfold zH at h;split at h
 ·simp only [msI] at h;obtain ⟨⟨l,r⟩,hb,rfl⟩:=h;cases hv
  refine ⟨?_,.string _⟩;simp [Instr.sliceAt,Instr.slice,qy ht,xG hlo hhi hb (Nat.le_refl _),WK]
 ·cases h
inductive Known where
 | exact|loose (s:Nat)|dead
 deriving DecidableEq
def Mem.known (m:Mem) (b:Nat):Known :=
 match m.get b with
 | some ⟨_,_,none⟩=>.exact
 | some ⟨_,_,some s⟩=>.loose s
 | none=>.dead
def qx (size:Nat) (v:Value) (lo hi:Option Value) (m:Mem):Option Value :=
 match v with
 | .slice none len cap=>(zz len cap lo hi).bind λp=>if p.1=0/\p.2=0 then some (.slice none 0 0) else none
 | .slice (some ⟨b,off,none⟩) len cap=>(zz len cap lo hi).bind λp =>
   if p.1=0∨m.known b=.exact∨m.known b=.loose size then some (.slice (some ⟨b,if cap=p.1 then off else off+p.1 * size,none⟩) (p.2 - p.1) (cap - p.1)) else none
 | _=>none
theorem Kl {len cap:Nat} {lo hi:Option Value} {l h:Nat} (hb:zz len cap lo hi=some (l,h)) (hlen:len<=cap):l<=h/\h<=cap:=by
 simp only [zz,bsI,msI,pjI] at hb;obtain ⟨h1,hh,l1,hl,rfl,rfl⟩:=hb;constructor
 ·unfold xB at hl;split at hl
  ·cases hl; omega
  ·split at hl
   ·cases hl; omega
   ·cases hl
  ·cases hl
 ·unfold xB at hh;split at hh
  ·cases hh; omega
  ·split at hh
   ·cases hh; omega
   ·cases hh
  ·cases hh
theorem Inv.yj {φ:Ren} {m:Mem} {w:World} (h:Inv φ m w) {b:Nat} {l:Loc} (hl:φ b=some l) (hk:m.known b=.exact):l.loose=none:=by
 unfold Mem.known at hk;split at hk
 ·rename_i hg;obtain ⟨k,hk',ok,_⟩:=h.live b _ hg;rw [hl] at hk'; cases hk'
  exact ok.1
 ·cases hk
 ·cases hk
theorem Inv.Xn {φ:Ren} {m:Mem} {w:World} (h:Inv φ m w) {b s:Nat} {l:Loc} (hl:φ b=some l) (hk:m.known b=.loose s):l.loose=some s:=by
 unfold Mem.known at hk;split at hk
 ·cases hk
 ·rename_i hg;cases hk
  obtain ⟨k,hk',ok,_⟩:=h.live b _ hg;rw [hl] at hk'; cases hk'
  exact ok.1
 ·cases hk
theorem VW {P:Program} {φ:Ren} {m:Mem} {w:World} (hi:Inv φ m w) {t e:TypeId} {i:TypeInfo} {v V u:Value} {lo hi' LO HI:Option Value} (ht:P.underlying t=some (.slice e)) (hti:P.info? e=some i) (hv:VR φ v V) (hlo:wX φ lo LO) (hhi:wX φ hi' HI)
  (h:qx i.size v lo hi' m=some u):∃ U,(Instr.sliceAt t V LO HI none).run P w=.ok U w/\VR φ u U:=by
 unfold qx at h;split at h
 ·rename_i len cap;simp only [bsI] at h;obtain ⟨⟨l,r⟩,hb,h⟩:=h;split at h
  ·rename_i hz;cases h
   cases hv
   obtain ⟨rfl,rfl⟩:=hz;exact ⟨.slice none 0 0,by simp [Instr.sliceAt,Instr.slice,qy ht,ze hti,xG hlo hhi hb (Nat.le_refl _)],.sliceNil⟩
  ·cases h
 ·rename_i b off len cap;simp only [bsI] at h;obtain ⟨⟨l,r⟩,hb,h⟩:=h;split at h
  ·rename_i hk;cases h
   cases hv with
   | sliceEx _ _ _ _ k hl hlo' =>
    refine ⟨.slice (some ⟨k.blk,k.base+(if cap=l then off else off+l * i.size),none⟩) (r - l) (cap - l),?_,.sliceEx _ _ _ _ k hl hlo'⟩
    simp only [Instr.sliceAt,Sem.run_bind,qy ht,Result.andThen_ok,Instr.slice,xG hlo hhi hb (Nat.le_refl _),ze hti,Sem.run_pure];by_cases hc:cap=l
    ·simp [hc]
    ·simp [hc,jq,Nat.add_assoc]
   | sliceZero _ _ A =>
    obtain ⟨h1,h2⟩:=Kl hb (Nat.le_refl _);obtain rfl:r=0:=by omega
    obtain rfl:l=0:=by omega
    refine ⟨.slice (some A) 0 0,?_,?_⟩
    ·simp only [Instr.sliceAt,Sem.run_bind,qy ht,Result.andThen_ok,Instr.slice,xG hlo hhi hb (Nat.le_refl _),ze hti,Sem.run_pure];simp
    ·exact .sliceZero _ _ A
   | sliceLoose _ _ _ _ off' cap' s k hl hlo' hoff hlen hcap hroom =>
    have hle:=Kl hb hlen;refine ⟨.slice (some ⟨k.blk,if cap'=l then off' else off'+l * i.size,none⟩) (r - l) (cap' - l),?_,.sliceLoose _ _ _ _ _ _ s k hl hlo' ?_ (by omega) (by omega) ?_⟩
    ·simp only [Instr.sliceAt,Sem.run_bind,qy ht,Result.andThen_ok,Instr.slice,xG hlo hhi hb hcap,ze hti,Sem.run_pure];by_cases hc:cap'=l
     ·simp [hc]
     ·simp [hc,jq]
    ·intro hne;have hne':cap - l≠0:=hne;show (if cap'=l then off' else off'+l * i.size)=k.base+(if cap=l then off else off+l * i.size)
     rw [if_neg (show ¬ cap'=l by omega),if_neg (show ¬ cap=l by omega),hoff (by omega)]; omega
    ·by_cases hc:cap'=l
     ·rw [if_pos hc];rw [hc,Nat.sub_self,Nat.zero_mul];have:=Nat.le_trans (Nat.le_add_right off' (cap' * s)) hroom;omega
     ·rw [if_neg hc];rcases hk with hk|hk|hk
      ·subst hk; simpa using hroom
      ·have:=hi.yj hl hk;rw [hlo'] at this; cases this
      ·have:=hi.Xn hl hk;rw [hlo'] at this; cases this
       have hlt:l<=cap':=by omega
       have:l * i.size+(cap' - l) * i.size=cap' * i.size:=by rw [<- Nat.add_mul]; congr 1; omega
       omega
  ·cases h
 ·cases h
def xX (n size:Nat) (v:Value) (lo hi:Option Value) (m:Mem):Option Value :=
 (jV v).bind λp=>(zz n n lo hi).bind λq=>if m.known p.1=.exact then some (.slice (some ⟨p.1,if n=q.1 then p.2 else p.2+q.1 * size,none⟩) (q.2 - q.1) (n - q.1)) else none
theorem VX {P:Program} {φ:Ren} {m:Mem} {w:World} (hi:Inv φ m w) {t e:TypeId} {n:Nat} {i:TypeInfo} {v V u:Value} {lo hi' LO HI:Option Value} (ht:P.underlying t=some (.array n e)) (hti:P.info? e=some i) (hv:VR φ v V) (hlo:wX φ lo LO) (hhi:wX φ hi' HI)
  (h:xX n i.size v lo hi' m=some u):∃ U,(Instr.sliceAt t V LO HI none).run P w=.ok U w/\VR φ u U:=by
 simp only [xX,bsI] at h;obtain ⟨⟨b,off⟩,hp,⟨l,r⟩,hb,h⟩:=h;obtain ⟨k,hl,rfl⟩:=yu hv hp;split at h
 ·rename_i hk;cases h
  refine ⟨.slice (some ⟨k.blk,k.base+(if n=l then off else off+l * i.size),none⟩) (r - l) (n - l),?_,.sliceEx _ _ _ _ k hl (hi.yj hl hk)⟩
  simp only [Instr.sliceAt,Sem.run_bind,qy ht,Result.andThen_ok,Instr.sureAddr,xG hlo hhi hb (Nat.le_refl _),ze hti,Sem.run_pure];by_cases hc:n=l
  ·simp [hc]
  ·simp [hc,jq,Nat.add_assoc]
 ·cases h
def qd (v:Value):Option Value :=
 match v with
 | .slice _ n _=>some (.int .i64 n)
 | _=>none
def qR (v:Value):Option Value :=
 match v with
 | .string s=>some (.int .i64 s.size)
 | _=>none
theorem Jo {P:Program} {φ:Ren} {w:World} {t e ty:TypeId} {v V u:Value} (ht:P.underlying t=some (.slice e)) (hv:VR φ v V) (h:qd v=some u):(Builtin.len_ #[t] ty #[V]).run P w=.ok u w/\VR φ u u:=by
 unfold qd at h;split at h
 ·cases h
  cases hv<;>exact ⟨by simp [Builtin.len_,qy ht,goInt],.int ..⟩
 ·cases h
theorem Wc {P:Program} {φ:Ren} {w:World} {t ty:TypeId} {v V u:Value} (ht:P.underlying t=some .string) (hv:VR φ v V) (h:qR v=some u):(Builtin.len_ #[t] ty #[V]).run P w=.ok u w/\VR φ u u:=by
 unfold qR at h;split at h
 ·cases h
  cases hv
  exact ⟨by simp [Builtin.len_,qy ht,goInt],.int ..⟩
 ·cases h
def bytesOf (s:ByteArray):List Value:=s.toList.map λb=>.int .u8 b.toNat
def qM (size:Nat) (x:Value) (m:Mem):Option (Nat × List Value) :=
 match x with
 | .string s=>some (s.size,(s.data.toList.map λb=>Value.int .u8 b.toNat))
 | .slice none n _=>if n=0 then some (0,[]) else none
 | .slice (some ⟨b,off,none⟩) n _ =>
  if n=0 then some (0,[]) else (m.xp b).bind λc=>if off+n * size<=c.length then some (n,(c.drop off).take (n * size)) else none
 | _=>none
theorem VRs.bytes {φ:Ren} (s:ByteArray):VRs φ (s.data.map λb=>Value.int .u8 b.toNat).toList (s.data.map λb=>Value.int .u8 b.toNat).toList:=by
 refine VRs.plain ?_;rw [List.all_eq_true];intro v hv;simp only [Array.toList_map,List.mem_map] at hv;obtain ⟨b,_,rfl⟩:=hv;rfl
theorem qbU {P:Program} {φ:Ren} {m:Mem} {w:World} (hi:Inv φ m w) {size:Nat} {x X:Value} {n:Nat} {nc:List Value} (hx:VR φ x X) (h:qM size x m=some (n,nc)) :
  (Builtin.lenOf X).run P w=.ok n w/\∃ NC,VRs φ nc NC/\∀ w',Inv φ m w'->∃ NC,(Builtin.firstCells size n X).run P w'=.ok NC.toArray w'/\VRs φ nc NC:=by
 unfold qM at h;simp only [<- Array.toList_map] at h;split at h
 ·rename_i s;cases h
  cases hx
  refine ⟨by simp [Builtin.lenOf],_,VRs.bytes s,λw' _=>⟨_,?_,VRs.bytes s⟩⟩;have:s.extract 0 s.size=s:=by simp
  simp only [Builtin.firstCells,this,Sem.run_pure]
 ·rename_i k c;split at h
  ·rename_i hz;cases h
   cases hx
   exact ⟨by simp [Builtin.lenOf],[],VRs.nil φ,λw' _=>⟨[],by simp [Builtin.firstCells],VRs.nil φ⟩⟩
  ·cases h
 ·rename_i b off k c;split at h
  ·rename_i hz;cases h
   subst hz;refine ⟨by cases hx<;>simp [Builtin.lenOf],[],VRs.nil φ,λw' _=>⟨[],?_,VRs.nil φ⟩⟩
   cases hx<;>simp [Builtin.firstCells,Go.loadCells,Go.loadCellsFrom]
  ·rename_i hz;simp only [bsI] at h;obtain ⟨cs,hc,h⟩:=h;split at h
   ·rename_i hlen;cases h
    obtain ⟨e,ro,lo,hg⟩:=Mem.jl hc;cases hx with
    | sliceEx _ _ _ _ l hl hlo =>
     refine ⟨by simp [Builtin.lenOf],?_⟩;have key:∀ w',Inv φ m w'->∃ NC,(Builtin.firstCells size n (.slice (some ⟨l.blk,l.base+off,none⟩) n c)).run P w'=.ok NC.toArray w'/\VRs φ ((cs.drop off).take (n * size)) NC:=by
      intro w' hi';obtain ⟨Vs,h1,h2⟩:=hi'.loadCells (P:=P) hg hl off (n * size) hlen;exact ⟨Vs,by simpa [Builtin.firstCells] using h1,h2⟩
     obtain ⟨NC,_,h2⟩:=key w hi;exact ⟨NC,h2,key⟩
    | sliceZero _ _ A=>exact absurd rfl hz
    | sliceLoose _ _ _ _ off' cap' s l hl hlo hoff hlen' hcap hroom =>
     have:off'=l.base+off:=hoff (by omega);subst this;refine ⟨by simp [Builtin.lenOf],?_⟩;have key:∀ w',Inv φ m w'->∃ NC,(Builtin.firstCells size n (.slice (some ⟨l.blk,l.base+off,none⟩) n cap')).run P w'=.ok NC.toArray w'/\VRs φ ((cs.drop off).take (n * size)) NC:=by
      intro w' hi';obtain ⟨Vs,h1,h2⟩:=hi'.loadCells (P:=P) hg hl off (n * size) hlen;exact ⟨Vs,by simpa [Builtin.firstCells] using h1,h2⟩
     obtain ⟨NC,_,h2⟩:=key w hi;exact ⟨NC,h2,key⟩
   ·cases h
 ·cases h
end Go.Fx
