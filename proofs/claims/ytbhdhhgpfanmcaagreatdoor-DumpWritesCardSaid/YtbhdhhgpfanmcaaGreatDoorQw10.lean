/- Parts of a proof: FxDec, FxRun, FxHook, HookI, InsD. Conditions: none. -/
import Derived.Below
import Derived.Shelf.Spec.SlicesInsertGrow
import Derived.KernelRfl
import Derived.Test.YtbhdhhgpfanmcaaGreatDoorQw9
set_option linter.unusedSimpArgs false
set_option linter.unusedVariables false
namespace Go.Fx
open Go
abbrev O:=Option (Value × Mem)
inductive KFr where
 | code (c:ACode)
 | blk (id:Nat)
 | loop (a:ACode)
abbrev Ks:=List KFr
def cnd (v:Value) (a b:O):O:=match v with
 | .bool true=>a
 | .bool false=>b
 | _=>none
def qbJ (v:Value) (w:Bool):Bool:=match v with
 | .bool b=>b == w
 | _=>false
def gdo (v:Value) (w:Bool) (o:O) (m:Mem):O:=if qbJ v w=true then o else some (undef,m)
def nw (m:Mem) (x:ABlk) (k:Value->Mem->O):O:=k (.pointer (some ⟨m.next,0,none⟩)) (m.add x)
def nws (m:Mem) (x:ABlk) (n:Nat) (k:Value->Mem->O):O:=k (.slice (some ⟨m.next,0,none⟩) n n) (m.add x)
def QN (b:Nat) (m:Mem) (x:ABlk) (k':Option Nat) (k:Value->Mem->O):O:=k (ke b k') (m.put b x)
def gdp (v:Value) (w:Bool) (o:Option Value) (m:Mem):O:=gdo v w (o.bind λv=>some (v,m)) m
def gdv (v:Value) (w:Bool) (x:Value) (m:Mem):O:=gdo v w (some (x,m)) m
def gdc (v:Value) (w:Bool) (o:O) (m:Mem):O:=gdo v w (o.bind λp=>some (p.1,p.2)) m
def ldF (k:Nat) (x:Value) (m:Mem) (f:Value->O):O:=(qC x).bind λa=>(qb k a).bind λb=>(qa b m).bind f
def ldA (k:Nat) (x:Value) (m:Mem) (f:Value->O):O:=(qb k x).bind λb=>(qa b m).bind f
def stF (k:Nat) (x v:Value) (m:Mem) (f:Mem->O):O:=(qC x).bind λa=>(qb k a).bind λb=>(qj 1 b v m).bind f
def ex2 (x:Value) (f:Value->Value->O):O:=(qG 0 x).bind λa=>(qG 1 x).bind λb=>f a b
def pk (b:Bool) (x y:Value):Value:=if b=true then x else y
def mkU:Nat->Nat->List (Nat × Value)->List Value
 | 0,_,_=>[]
 | n+1,i,[]=>undef::mkU n (i+1) []
 | n+1,i,(j,v)::r=>match Nat.beq i j with
  | true=>v::mkU n (i+1) r
  | false=>undef::mkU n (i+1) ((j,v)::r)
def chk (ms:List Mem) (rq:List Rq) (o:O):O:=if rq.all (wU ms)=true then o else none
def avT (ts:List Value) (t:Nat):Value:=ts[t]?.getD undef
def evX (ts:List Value) (x:Operand) (k:Value->O):O:=match x with
 | .tmp t=>k (avT ts t)
 | .const v=>if plain v then k v else none
 | .func f=>k (.func (.func f) #[] #[])
 | .global _=>none
def WL (ts:List Value):List Operand->(List Value->O)->O
 | [],k=>k []
 | x::r,k=>evX ts x λv=>WL ts r λl=>k (v::l)
def yp (ts:List Value) (x:Option Operand) (k:Option Value->O):O:=match x with
 | none=>k none
 | some x=>evX ts x λv=>k (some v)
def qdS (ts:List Value):List (Nat × Nat × Operand)->(List (Nat × Nat × Value)->O)->O
 | [],k=>k []
 | (o,s,x)::r,k=>evX ts x λv=>qdS ts r λl=>k ((o,s,v)::l)
theorem evX_eq (ts:List Value) (x:Operand) (k:Value->O):evX ts x k=(zc ts x).bind k:=by
 cases x with
 | const v=>simp only [evX,zc]; split<;>rfl
 | _=>rfl
theorem evXs_eq (ts:List Value):∀ (xs:List Operand) (k:List Value->O),WL ts xs k=(ko ts xs).bind k
 | [],k=>rfl
 | x::r,k=>by
  simp only [WL,evX_eq,ko];cases zc ts x with
  | none=>rfl
  | some v =>
   simp only [bmI,evXs_eq ts r];cases ko ts r<;>rfl
theorem evXO_eq (ts:List Value) (x:Option Operand) (k:Option Value->O):yp ts x k=(jo ts x).bind k:=by
 cases x with
 | none=>rfl
 | some x=>simp only [yp,evX_eq,jo]; cases zc ts x<;>rfl
theorem evPs_eq (ts:List Value):∀ (xs:List (Nat × Nat × Operand)) (k:List (Nat × Nat × Value)->O),qdS ts xs k=(kI ts xs).bind k
 | [],k=>rfl
 | (o,s,x)::r,k=>by
  simp only [qdS,evX_eq,kI];cases zc ts x with
  | none=>rfl
  | some v =>
   simp only [bmI,evPs_eq ts r];cases kI ts r<;>rfl
def qgm (ts:List Value) (k:ABlk->Option Nat->O):AOp->O
 | .alloc e z=>k ⟨.cells z.cells.toList e,false,none⟩ none
 | .box e x=>evX ts x λv=>k ⟨.cells v.cells.toList e,false,none⟩ none
 | .buildSlice e len z ps=>qdS ts ps λl=>(qt z l).bind λc=>k ⟨.cells c e,false,none⟩ (some len)
 | _=>none
theorem evNew_eq (ts:List Value) (k:ABlk->Option Nat->O) (op:AOp):qgm ts k op=(jN ts op).bind λp=>k p.1 p.2:=by
 cases op<;>simp only [qgm,jN,evX_eq,evPs_eq,Option.map_eq_bind,Option.bind_assoc,bmI,Option.bind_none,Function.comp_def]
def HG (call:zj) (ts:List Value) (m:Mem) (k:Value->Mem->O):AOp->O
 | .mov x=>evX ts x λv=>k v m
 | .nilck x=>evX ts x λv=>(qC v).bind λu=>k u m
 | .pick c a b=>evX ts c λv=>evX ts a λp=>evX ts b λq=>(asB v).bind λt=>k (if t then p else q) m
 | .alloc e z=>nw m ⟨.cells z.cells.toList e,false,none⟩ k
 | .box e x=>evX ts x λv=>nw m ⟨.cells v.cells.toList e,false,none⟩ k
 | .build z ps=>qdS ts ps λl=>(qt z l).bind λc=>k (.agg c.toArray) m
 | .buildSlice e len z ps=>qdS ts ps λl=>(qt z l).bind λc=>nws m ⟨.cells c e,false,none⟩ len k
 | .load1 x=>evX ts x λv=>(qa v m).bind λu=>k u m
 | .loadN n x=>evX ts x λv=>(ql n v m).bind λu=>k u m
 | .store n a x=>evX ts a λv=>evX ts x λu=>(qj n v u m).bind λm'=>k undef m'
 | .arith op x y=>evX ts x λv=>evX ts y λu=>(Fx.arith op v u).bind λr=>k r m
 | .eqD neg d x y=>evX ts x λv=>evX ts y λu=>(qbV neg (.st d) v u).bind λr=>k r m
 | .eqBool neg x y=>evX ts x λv=>evX ts y λu=>(vq neg v u).bind λr=>k r m
 | .eqNil kd neg x y=>evX ts x λv=>evX ts y λu=>(qU kd neg v u).bind λr=>k r m
 | .un op x=>evX ts x λv=>(zy op v).bind λr=>k r m
 | .conv kd x=>evX ts x λv=>(zn kd v).bind λr=>k r m
 | .b2s x=>evX ts x λv=>(xZ v m).bind λr=>k r m
 | .fieldAddr off x=>evX ts x λv=>(qb off v).bind λr=>k r m
 | .field off size agg x=>evX ts x λv=>(vZ off size agg v).bind λr=>k r m
 | .indexS size x i=>evX ts x λv=>evX ts i λu=>(qi size v u).bind λr=>k r m
 | .indexA len size x i=>evX ts x λv=>evX ts i λu=>(jt len size v u).bind λr=>k r m
 | .indexStr x i=>evX ts x λv=>evX ts i λu=>(zm v u).bind λr=>k r m
 | .indexArr len size agg x i=>evX ts x λv=>evX ts i λu=>(vK len size agg v u).bind λr=>k r m
 | .sliceStr x lo hi=>evX ts x λv=>yp ts lo λl=>yp ts hi λh=>(zH v l h).bind λr=>k r m
 | .sliceS size x lo hi=>evX ts x λv=>yp ts lo λl=>yp ts hi λh=>(qx size v l h m).bind λr=>k r m
 | .sliceA n size x lo hi=>evX ts x λv=>yp ts lo λl=>yp ts hi λh=>(xX n size v l h m).bind λr=>k r m
 | .extract i x=>evX ts x λv=>(qG i v).bind λr=>k r m
 | .lenS x=>evX ts x λv=>(qd v).bind λr=>k r m
 | .lenStr x=>evX ts x λv=>(qR v).bind λr=>k r m
 | .append e size eb x y=>evX ts x λv=>evX ts y λu=>(qM size u m).bind λp=>(qA e size eb v p.1 p.2 m).bind λr=>k r.1 r.2
 | .copy size x y=>evX ts x λv=>evX ts y λu=>(qM size u m).bind λp=>(vk size v p.1 p.2 m).bind λr=>k r.1 r.2
 | .min x xs=>evX ts x λv=>WL ts xs λl=>(jz min2 v l).bind λr=>k r m
 | .max x xs=>evX ts x λv=>WL ts xs λl=>(jz max2 v l).bind λr=>k r m
 | .mkfunc f fs xs=>WL ts fs λh=>WL ts xs λl=>k (.func (.func f) h.toArray l.toArray) m
 | .p1 q x=>evX ts x λv=>(q.run v).bind λr=>k r m
 | .p2 q x y=>evX ts x λv=>evX ts y λu=>(q.run v u).bind λr=>k r m
 | .r1 q x=>evX ts x λv=>(q.run v m).bind λr=>k r m
 | .r2 q x y=>evX ts x λv=>evX ts y λu=>(q.run v u m).bind λr=>k r m
 | .e1 q x=>evX ts x λv=>(q.run v m).bind λr=>k r.1 r.2
 | .e2 q x y=>evX ts x λv=>evX ts y λu=>(q.run v u m).bind λr=>k r.1 r.2
 | .mapUpd kk x y z=>evX ts x λv=>evX ts y λq=>evX ts z λu=>(zt kk v q u m).bind λm'=>k undef m'
 | .makeM x=>yp ts x λh=>if qbd h=true then k (zK m).1 (zK m).2 else none
 | .slice3 size x lo hi mx=>evX ts x λv=>yp ts lo λl=>yp ts hi λh=>evX ts mx λu=>(jO size v l h u m).bind λr=>k r m
 | .clearS z x=>evX ts x λv=>(vA z v m).bind λm'=>k undef m'
 | .makeS e bytes z n c=>evX ts n λv=>evX ts c λu=>(jD e bytes z v u m).bind λr=>k r.1 r.2
 | .mkiface t x=>evX ts x λv=>k (.iface t v) m
 | .call f xs=>WL ts xs λl=>(call f l m).bind λp=>k p.1 p.2
 | .callv x xs=>evX ts x λv=>WL ts xs λl=>(kH v).bind λp=>(call p.1 (p.2.1++(l++p.2.2)) m).bind λr=>k r.1 r.2
 | .floAt b o=>qgm ts (λx k'=>QN b m x k' k) o
 | .flo _ _=>none
 | .stop=>none
theorem evOp_eq (call:zj) (ts:List Value) (m:Mem) (k:Value->Mem->O) (op:AOp):HG call ts m k op=(zA call ts m op).bind λp=>k p.1 p.2:=by
 cases op<;>simp only [HG,evX_eq,evXs_eq,evXO_eq,evPs_eq,zA,AOp.run,Option.bind_assoc,nw,nws,QN,evNew_eq,jK,xM,Option.map_eq_bind,bmI,Function.comp_def,Option.bind_none]
 ·rename_i c a b;cases zc ts c with
  | none=>rfl
  | some v =>
   simp only [bmI];cases ha:zc ts a with
   | none=>simp
   | some p =>
    cases hb:zc ts b with
    | none=>simp
    | some q=>simp
 ·rename_i x;cases jo ts x with
  | none=>rfl
  | some h=>simp only [bmI]; split<;>rfl
 ·rename_i x xs;cases zc ts x with
  | none=>rfl
  | some v =>
   simp only [bmI];cases ko ts xs with
   | none=>simp
   | some l=>simp
def Vw (call:zj):List AOper->List Value->Mem->(List Value->Mem->O)->O
 | [],ts,m,k=>k ts m
 | ⟨d,op,none⟩::r,ts,m,k=>HG call ts m (λv m'=>Vw call r (ja ts d v) m' k) op
 | ⟨d,op,some (t,w)⟩::r,ts,m,k=>(gdo (avT ts t) w (HG call ts m (λv m'=>some (v,m')) op) m).bind λp=>Vw call r (ja ts d p.1) p.2 k
theorem wantV_eq (ts:List Value) (t:Nat) (w:Bool):qbJ (avT ts t) w=zh ts (some (t,w)):=by
 simp only [qbJ,zh,avT];cases ts[t]? with
 | none=>rfl
 | some v=>cases v<;>rfl
theorem evOps_eq (call:zj):∀ (ops:List AOper) (ts:List Value) (m:Mem) (k:List Value->Mem->O),Vw call ops ts m k=(xc call ops ts m).bind λp=>k p.1 p.2
 | [],_,_,_=>rfl
 | ⟨d,op,none⟩::r,ts,m,k=>by
  simp only [Vw,evOp_eq,xc,zh,if_true,Option.bind_assoc];congr 1; funext p;exact evOps_eq call r _ _ k
 | ⟨d,op,some (t,w)⟩::r,ts,m,k=>by
  simp only [Vw,evOp_eq,xc,gdo,wantV_eq];split
  ·have:∀ o:O,(o.bind λp=>some (p.1,p.2))=o:=by intro o; cases o<;>rfl
   rw [this,Option.bind_assoc];congr 1; funext p;exact evOps_eq call r _ _ k
  ·simp only [bmI];exact evOps_eq call r _ _ k
def qgl (ts:List Value) (op:AOp) (k:Req->O):O:=match op with
 | .load1 x=>evX ts x λv=>k (.load1 v)
 | .loadN n x=>evX ts x λv=>k (.loadN n v)
 | .b2s x=>evX ts x λv=>k (.b2s v)
 | .sliceS size x lo hi=>evX ts x λv=>yp ts lo λl=>yp ts hi λh=>k (.sliceS size v l h)
 | .sliceA n size x lo hi=>evX ts x λv=>yp ts lo λl=>yp ts hi λh=>k (.sliceA n size v l h)
 | .slice3 size x lo hi mx=>evX ts x λv=>yp ts lo λl=>yp ts hi λh=>evX ts mx λu=>k (.slice3 size v l h u)
 | .r1 q x=>evX ts x λv=>k (.r1 q v)
 | .r2 q x y=>evX ts x λv=>evX ts y λu=>k (.r2 q v u)
 | _=>none
theorem evReq_eq (ts:List Value) (op:AOp) (k:Req->O):qgl ts op k=(op.req ts).bind k:=by
 cases op<;>simp only [qgl,evX_eq,evXO_eq,AOp.req,Option.map_eq_bind,Option.bind_assoc,bmI,Function.comp_def,Option.bind_none]
def gdq (v:Value) (w:Bool) (lh:Nat × Nat) (o:Option Req) (m:Mem):Option (Value × List Rq) :=
 if qbJ v w=true then o.bind λq=>(q.run m).map λu=>(u,[(q,u,lh)]) else some (undef,[])
def evD (call:zj):List AOper->List (Nat × Nat)->List Value->Mem->List Mem->List Rq->(List Value->Mem->O)->O
 | [],_,ts,m,ms,rq,k=>chk (ms++[m]) rq (k ts m)
 | ⟨d,op,none⟩::r,lh,ts,m,ms,rq,k=>match op.cls with
  | .eff=>HG call ts m (λv m'=>evD call r lh.tail (ja ts d v) m' (ms++[m]) rq k) op
  | .read=>qgl ts op λq=>(q.run m).bind λv=>evD call r lh.tail (ja ts d v) m ms (rq++[(q,v,lh.headD (0,0))]) k
  | .pure=>HG call ts m (λv _=>evD call r lh.tail (ja ts d v) m ms rq k) op
 | ⟨d,op,some (t,w)⟩::r,lh,ts,m,ms,rq,k=>match op.cls with
  | .eff=>(gdo (avT ts t) w (HG call ts m (λv m'=>some (v,m')) op) m).bind λp=>evD call r lh.tail (ja ts d p.1) p.2 (ms++[m]) rq k
  | .read=>(gdq (avT ts t) w (lh.headD (0,0)) (op.req ts) m).bind λp=>evD call r lh.tail (ja ts d p.1) m ms (rq++p.2) k
  | .pure=>(gdo (avT ts t) w (HG call ts m (λv m'=>some (v,m')) op) m).bind λp=>evD call r lh.tail (ja ts d p.1) m ms rq k
theorem evD_eq (call:zj):∀ (ops:List AOper) (lh:List (Nat × Nat)) (ts:List Value) (m:Mem) (ms:List Mem) (rq:List Rq) (k:List Value->Mem->O),
  evD call ops lh ts m ms rq k=(xQ call ops lh ts m).bind λx=>chk (ms++x.2.2.1) (rq++x.2.2.2) (k x.1 x.2.1)
 | [],lh,ts,m,ms,rq,k=>by simp [evD,xQ]
 | ⟨d,op,none⟩::r,lh,ts,m,ms,rq,k=>by
  simp only [evD,xQ,zh,if_true];cases hc:op.cls with
  | eff =>
   simp only [evOp_eq,Option.bind_assoc];congr 1; funext p;rw [evD_eq call r];simp [Option.bind_map,Function.comp_def]
  | read =>
   simp only [evReq_eq,Option.bind_assoc];congr 1; funext q; congr 1; funext v;rw [evD_eq call r];simp [Option.bind_map,Function.comp_def]
  | pure =>
   have hn:op.vC=false:=by cases op<;>first|rfl|cases hc
   simp only [evOp_eq,zJ call ts m hn,Option.bind_assoc];congr 1; funext p;exact evD_eq call r _ _ _ _ _ _
 | ⟨d,op,some (t,w)⟩::r,lh,ts,m,ms,rq,k=>by
  have hid:∀ o:O,(o.bind λp=>some (p.1,p.2))=o:=by intro o; cases o<;>rfl
  simp only [evD,xQ,evOp_eq,gdo,wantV_eq];cases hc:op.cls with
  | eff =>
   simp only;split
   ·rw [hid,Option.bind_assoc];congr 1; funext p;rw [evD_eq call r];simp [Option.bind_map,Function.comp_def]
   ·simp only [bmI];rw [evD_eq call r];simp [Option.bind_map,Function.comp_def]
  | read =>
   simp only [gdq,wantV_eq];split
   ·simp only [Option.bind_assoc,Option.map_eq_bind,Function.comp_def,bmI];congr 1; funext q; congr 1; funext v;rw [evD_eq call r];simp [Option.bind_map,Function.comp_def]
   ·simp only [bmI,List.append_nil];exact evD_eq call r _ _ _ _ _ _
  | pure =>
   simp only;split
   ·have hn:op.vC=false:=by cases op<;>first|rfl|cases hc
    rw [hid,zJ call ts m hn,Option.bind_assoc];congr 1; funext p;exact evD_eq call r _ _ _ _ _ _
   ·simp only [bmI];exact evD_eq call r _ _ _ _ _ _
def Xu (ts:List Value) (m:Mem):List ARes->(List Value->O)->O
 | [],k=>k []
 | .tmp t::r,k=>Xu ts m r λl=>k (avT ts t::l)
 | .cell a none::r,k=>(qa (avT ts a) m).bind λv=>Xu ts m r λl=>k (v::l)
 | .cell a (some n)::r,k=>(ql n (avT ts a) m).bind λv=>Xu ts m r λl=>k (v::l)
def fin (rs:List ARes) (ts:List Value) (m:Mem):O:=Xu ts m rs λl=>some (oneOf l,m)
theorem evRes_eq (ts:List Value) (m:Mem):∀ (rs:List ARes) (k:List Value->O),Xu ts m rs k=(jZ ts m rs).bind k
 | [],_=>rfl
 | r::rs,k=>by
  have go:∀ o:Option Value,(o.bind λv=>(jZ ts m rs).bind λl=>k (v::l))=(match o,jZ ts m rs with|some v,some l=>some (v::l)|_,_=>none).bind k:=by
   intro o;cases o with
   | none=>rfl
   | some v=>cases jZ ts m rs<;>rfl
  cases r with
  | tmp t=>simp only [Xu,evRes_eq ts m rs,jZ,JK]; exact go (some _)
  | cell a n=>cases n with
   | none=>simp only [Xu,evRes_eq ts m rs,jZ,JK]; exact go _
   | some n=>simp only [Xu,evRes_eq ts m rs,jZ,JK]; exact go _
theorem fin_eq (rs:List ARes) (ts:List Value) (m:Mem):fin rs ts m=(jZ ts m rs).map λl=>(oneOf l,m):=by
 simp only [fin,evRes_eq,Option.map_eq_bind,Function.comp_def]
section
variable (S:zj) (tab:Tab) (rs:List ARes)
noncomputable def runK:Ks->AEx->List Value->Mem->O
 | [],.exit _,_,_=>none
 | [],.normal,ts,m=>fin rs ts m
 | [],.ret,ts,m=>fin rs ts m
 | .code c::K,.normal,ts,m=>(jX S tab c ts m).bind λr=>runK K r.1 r.2.1 r.2.2
 | .code _::K,.exit j,ts,m=>runK K (.exit j) ts m
 | .code _::K,.ret,ts,m=>runK K .ret ts m
 | .blk id::K,.exit j,ts,m=>if j=id then runK K .normal ts m else runK K (.exit j) ts m
 | .blk _::K,.normal,ts,m=>runK K .normal ts m
 | .blk _::K,.ret,ts,m=>runK K .ret ts m
 | .loop a::K,.normal,ts,m=>(jX S tab (.loop a) ts m).bind λr=>runK K r.1 r.2.1 r.2.2
 | .loop _::K,.exit j,ts,m=>runK K (.exit j) ts m
 | .loop _::K,.ret,ts,m=>runK K .ret ts m
noncomputable def XK (c:ACode) (K:Ks) (ts:List Value) (m:Mem):O:=(jX S tab c ts m).bind λr=>runK S tab rs K r.1 r.2.1 r.2.2
noncomputable def Pt (K:Ks) (ts:List Value) (m:Mem):O:=runK S tab rs K .normal ts m
def JL (rs:List ARes) (L:Nat):Nat:=lks (rs.map λr=>match r with|.tmp t=>t|.cell a _=>a) L
def Zm:Ks->Option (Nat × Env × Nat)
 | []=>some (JL rs 0,[],JL rs 0)
 | .code c::K=>(Zm K).bind λx=>(vO c x.1 x.2.1 x.2.2).map λL=>(L,x.2)
 | .blk id::K=>(Zm K).map λx=>(x.1,(id,x.1)::x.2.1,x.2.2)
 | .loop a::K=>(Zm K).bind λx=>(vO (.loop a) x.1 x.2.1 x.2.2).map λL=>(L,x.2)
def QU (L:Nat):Nat->List Value->List Value
 | _,[]=>[]
 | i,v::r=>(if L.testBit i then v else undef)::QU L (i+1) r
def qiJ (K:Ks) (ts:List Value):List Value:=match Zm rs K with
 | some x=>QU x.1 0 ts
 | none=>ts
noncomputable def jmp (K:Ks) (ts:List Value) (m:Mem):O:=Pt S tab rs K (qiJ rs K ts) m
def nE (id:Nat):ACode->Nat
 | .exit j=>if j=id then 1 else 0
 | .seq a b=>nE id a+nE id b
 | .cond _ a b=>nE id a+nE id b
 | .block j a=>if j=id then 0 else nE id a
 | _=>0
def nN:ACode->Nat
 | .skip|.region _|.draw _ _|.drawF _ _=>1
 | .seq a b=>if nN a=0 then 0 else nN b
 | .cond _ a b=>nN a+nN b
 | .block id a=>nN a+nE id a
 | _=>0
def Wl:ACode->Bool->Bool
 | .skip,s=>s
 | .ret,_=>true
 | .loop _,_=>true
 | .region ops,s=>s&&decide (ops.length<=4)
 | .seq (.region ops) b,s=>decide (ops.length<=4)&&Wl b s
 | _,_=>false
def strip:Ks->Ks
 | .blk _::K=>strip K
 | .code (.loop a)::K=>.loop a::K
 | .code .skip::K=>strip K
 | K=>K
structure Cont where
 n:List Value->Mem->O
 e:Nat->List Value->Mem->O
 r:List Value->Mem->O
 s:Bool
noncomputable def evC:ACode->Ks->Cont->List Value->Mem->O
 | .skip,_,k,ts,m=>k.n ts m
 | .region ops,_,k,ts,m=>Vw (Call S tab) ops ts m k.n
 | .draw ops lh,_,k,ts,m=>evD (Call S tab) ops lh ts m [] [] k.n
 | .drawF ops lh,_,k,ts,m=>evD (Call S tab) (ops.map (jA m.next)) lh ts (m.zu ops.length) [] [] k.n
 | .seq a b,K,k,ts,m =>
  if nN a<=1||Wl b k.s then evC a (.code b::K) ⟨evC b K k,k.e,k.r,Wl b k.s⟩ ts m
  else evC a (.code b::K) ⟨jmp S tab rs (strip (.code b::K)),k.e,k.r,true⟩ ts m
 | .cond c a b,K,k,ts,m=>evX ts c λv=>cnd v (evC a K k ts m) (evC b K k ts m)
 | .block id a,K,k,ts,m =>
  if nN a+nE id a<=1||k.s then evC a (.blk id::K) ⟨k.n,λj=>if j=id then k.n else k.e j,k.r,k.s⟩ ts m
  else evC a (.blk id::K) ⟨jmp S tab rs (strip K),λj=>if j=id then jmp S tab rs (strip K) else k.e j,k.r,true⟩ ts m
 | .loop a,K,_,ts,m=>jmp S tab rs (.loop a::K) ts m
 | .exit id,_,k,ts,m=>k.e id ts m
 | .ret,_,k,ts,m=>k.r ts m
 | .stop,_,_,_,_=>none
noncomputable def xD:Ks->Cont
 | []=>⟨fin rs,λ_ _ _=>none,fin rs,true⟩
 | .code c::K=>if Wl c (xD K).s then ⟨evC S tab rs c K (xD K),(xD K).e,(xD K).r,true⟩ else ⟨jmp S tab rs (strip (.code c::K)),(xD K).e,(xD K).r,true⟩
 | .blk id::K=>⟨(xD K).n,λj=>if j=id then (xD K).n else (xD K).e j,(xD K).r,(xD K).s⟩
 | .loop a::K=>⟨jmp S tab rs (.loop a::K),(xD K).e,(xD K).r,true⟩
noncomputable def qlx:Ks->List Value->Mem->O
 | .loop a::K=>evC S tab rs a (.loop a::K) ⟨jmp S tab rs (.loop a::K),(xD S tab rs K).e,(xD S tab rs K).r,true⟩
 | .code c::K=>evC S tab rs c K (xD S tab rs K)
 | K=>(xD S tab rs K).n
end
section
variable {S:zj} {tab:Tab} {rs:List ARes}
theorem Vm (L:Nat):∀ (ts:List Value) (i t:Nat),(QU L i ts)[t]? = (ts[t]?).map λv=>if L.testBit (i+t) then v else undef
 | [],i,t=>by simp [QU]
 | v::r,i,0=>by simp [QU]
 | v::r,i,t+1=>by simp only [QU,List.getElem?_cons_succ,Vm L r (i+1) t]; rw [show i+1+t=i+(t+1) by omega]
theorem QT (L:Nat):∀ (ts:List Value) (i:Nat),(QU L i ts).length=ts.length
 | [],_=>rfl
 | _::r,i=>by simp [QU,QT L r]
theorem Hr (L:Nat) (ts:List Value):AgM L (QU L 0 ts) ts:=by
 intro t ht;rw [Vm,Nat.zero_add,ht];cases ts[t]?<;>rfl
theorem HF {ts us:List Value} {m:Mem} (h:AgM (JL rs 0) ts us):fin rs ts m=fin rs us m:=by
 simp only [fin_eq];congr 1;have ha:=h.agree;have:∀ l:List ARes,(∀ r∈l,r∈rs)->jZ ts m l=jZ us m l:=by
  intro l
  induction l with
  | nil=>intro _; rfl
  | cons r l ih =>
   intro hl;have hr:JK ts m r=JK us m r:=by
    have hm:=hl r (List.mem_cons_self ..);cases r with
    | tmp t=>simp only [JK]; rw [ha t (List.mem_map.2 ⟨_,hm,rfl⟩)]
    | cell a n=>cases n<;>· simp only [JK]; rw [ha a (List.mem_map.2 ⟨_,hm,rfl⟩)]
   simp only [jZ];rw [hr,ih (λr h=>hl r (List.mem_cons_of_mem _ h))]
 exact this rs (λr h=>h)
theorem qiW {N:Nat} {E:Env} {R:Nat} {a b:Option Out} (h:RO N E R a b) {f:AEx->List Value->Mem->O} (hf:∀ e ts us m,ts.length=us.length->AgM (wm N E R e) ts us->f e ts m=f e us m) :
  (a.bind λr=>f r.1 r.2.1 r.2.2)=b.bind λr=>f r.1 r.2.1 r.2.2:=by
 cases a with
 | none=>cases b with
  | none=>rfl
  | some _=>exact h.elim
 | some x=>cases b with
  | none=>exact h.elim
  | some y =>
   obtain ⟨e,ts,m⟩:=x;obtain ⟨e',us,m'⟩:=y;obtain ⟨rfl,rfl,h3,h4⟩:=h;exact hf _ _ _ _ h3 h4
theorem yB:∀ (K:Ks) (N:Nat) (E:Env) (R:Nat),Zm rs K=some (N,E,R)->∀ (e:AEx) (ts us:List Value) (m:Mem),ts.length=us.length->AgM (wm N E R e) ts us->runK S tab rs K e ts m=runK S tab rs K e us m
 | [],N,E,R,h,e,ts,us,m,hl,ha=>by
  simp only [Zm,sjI,pjI] at h;obtain ⟨rfl,rfl,rfl⟩:=h;cases e with
  | normal=>exact HF ha
  | exit _=>rfl
  | ret=>exact HF ha
 | .code c::K,N,E,R,h,e,ts,us,m,hl,ha=>by
  simp only [Zm,bsI,msI,pjI] at h;obtain ⟨⟨N',E',R'⟩,hK,L,hL,rfl,rfl,rfl⟩:=h;have ih:=yB K N' E R hK;cases e with
  | normal=>exact qiW (VM hL hl ha) ih
  | exit j=>exact ih (.exit j) _ _ _ hl ha
  | ret=>exact ih .ret _ _ _ hl ha
 | .blk id::K,N,E,R,h,e,ts,us,m,hl,ha=>by
  simp only [Zm,msI,pjI] at h;obtain ⟨⟨N',E',R'⟩,hK,rfl,rfl,rfl⟩:=h;have ih:=yB K N' E' R' hK;cases e with
  | normal=>exact ih .normal _ _ _ hl ha
  | exit j =>
   simp only [runK];simp only [wm,lkp] at ha;split
   ·rename_i hj;rw [if_pos hj] at ha;exact ih .normal _ _ _ hl ha
   ·rename_i hj;rw [if_neg hj] at ha;exact ih (.exit j) _ _ _ hl ha
  | ret=>exact ih .ret _ _ _ hl ha
 | .loop a::K,N,E,R,h,e,ts,us,m,hl,ha=>by
  simp only [Zm,bsI,msI,pjI] at h;obtain ⟨⟨N',E',R'⟩,hK,L,hL,rfl,rfl,rfl⟩:=h;have ih:=yB K N' E R hK;cases e with
  | normal=>exact qiW (VM hL hl ha) ih
  | exit j=>exact ih (.exit j) _ _ _ hl ha
  | ret=>exact ih .ret _ _ _ hl ha
theorem jmp_eq (K:Ks) (ts:List Value) (m:Mem):jmp S tab rs K ts m=Pt S tab rs K ts m:=by
 simp only [jmp,qiJ];split
 ·rename_i x h;exact yB K x.1 x.2.1 x.2.2 h .normal _ _ m (QT ..) (Hr _ _)
 ·rfl
theorem yv:∀ (K:Ks) (ts:List Value) (m:Mem),Pt S tab rs (strip K) ts m=Pt S tab rs K ts m
 | [],ts,m=>by simp only [strip]
 | .blk id::K,ts,m=>by
  simp only [strip];rw [yv K]; rfl
 | .loop a::K,ts,m=>by simp only [strip]
 | .code c::K,ts,m=>by
  cases c with
  | loop a=>rfl
  | skip =>
   simp only [strip];rw [yv K];simp only [Pt,runK,VK,bmI]
  | _=>simp only [strip]
structure Cont.Ok (S:zj) (tab:Tab) (rs:List ARes) (k:Cont) (K:Ks):Prop where
 n:∀ ts m,k.n ts m=runK S tab rs K .normal ts m
 e:∀ j ts m,k.e j ts m=runK S tab rs K (.exit j) ts m
 r:∀ ts m,k.r ts m=runK S tab rs K .ret ts m
theorem WM:∀ (c:ACode) (K:Ks) (k:Cont),k.Ok S tab rs K->∀ ts m,evC S tab rs c K k ts m=XK S tab rs c K ts m:=by
 intro c
 induction c with
 | skip=>intro K k hk ts m; simp only [evC,XK,VK,bmI,hk.n]
 | exit id=>intro K k hk ts m; simp only [evC,XK,qek,bmI,hk.e]
 | ret=>intro K k hk ts m; simp only [evC,XK,qhb,bmI,hk.r]
 | stop =>
  intro K k hk ts m;have:jX S tab .stop ts m=none:=by
   cases h:jX S tab .stop ts m with
   | none=>rfl
   | some r=>obtain ⟨n,hn⟩:=zr.1 h; cases hn
  simp only [evC,XK,this,Option.bind_none]
 | region ops =>
  intro K k hk ts m;simp only [evC,XK,evOps_eq,qai,Option.map_eq_bind,Option.bind_assoc,Function.comp_def,bmI];congr 1; funext p; exact hk.n _ _
 | draw ops lh =>
  intro K k hk ts m;simp only [evC,XK,evD_eq,qel,kQ,Option.map_eq_bind,Option.bind_assoc,Function.comp_def,bmI,List.nil_append,chk];congr 1; funext p;split
  ·simp only [bmI]; exact hk.n _ _
  ·rfl
 | drawF ops lh =>
  intro K k hk ts m;simp only [evC,XK,evD_eq,qbH,kQ,Option.map_eq_bind,Option.bind_assoc,Function.comp_def,bmI,List.nil_append,chk];congr 1; funext p;split
  ·simp only [bmI]; exact hk.n _ _
  ·rfl
 | seq a b iha ihb =>
  intro K k hk ts m;have main:XK S tab rs (.seq a b) K ts m=XK S tab rs a (.code b::K) ts m:=by
   simp only [XK,qha,andThen,Option.bind_assoc];congr 1; funext r;obtain ⟨e,ts',m'⟩:=r;cases e<;>rfl
  rw [main];simp only [evC];split
  ·refine iha (.code b::K) _ ?_ ts m;exact ⟨λts m=>ihb K k hk ts m,λj ts m=>hk.e j ts m,λts m=>hk.r ts m⟩
  ·refine iha (.code b::K) _ ?_ ts m;exact ⟨λts m=>by simp only [jmp_eq,yv]; rfl,λj ts m=>hk.e j ts m,λts m=>hk.r ts m⟩
 | cond c a b iha ihb =>
  intro K k hk ts m;simp only [evC,XK,evX_eq,qem];cases zc ts c with
  | none=>rfl
  | some v =>
   simp only [bmI];rw [iha K k hk,ihb K k hk];cases v with
   | bool t=>cases t<;>rfl
   | _=>rfl
 | block id a ih =>
  intro K k hk ts m;have main:XK S tab rs (.block id a) K ts m=XK S tab rs a (.blk id::K) ts m:=by
   simp only [XK,qbI,Option.map_eq_bind,Option.bind_assoc,Function.comp_def,bmI];congr 1; funext r;obtain ⟨e,ts',m'⟩:=r;cases e with
   | normal=>rfl
   | ret=>rfl
   | exit j =>
    simp only [qbM,runK];split<;>rfl
  rw [main];simp only [evC];split
  ·refine ih (.blk id::K) _ ?_ ts m;refine ⟨λts m=>hk.n ts m,λj ts m=>?_,λts m=>hk.r ts m⟩;simp only [runK];split
   ·exact hk.n ts m
   ·exact hk.e j ts m
  ·have hj:∀ ts m,jmp S tab rs (strip K) ts m=runK S tab rs K .normal ts m:=λts m=>by rw [jmp_eq,yv]; rfl
   refine ih (.blk id::K) _ ?_ ts m;refine ⟨hj,λj ts m=>?_,λts m=>hk.r ts m⟩;simp only [runK];split
   ·exact hj ts m
   ·exact hk.e j ts m
 | loop a ih =>
  intro K k hk ts m;simp only [evC,jmp_eq];rfl
theorem qdC (a:ACode) (K:Ks) (ts:List Value) (m:Mem):runK S tab rs (.loop a::K) .normal ts m=XK S tab rs a (.loop a::K) ts m:=by
 simp only [runK,XK];rw [qej];simp only [andThen,Option.bind_assoc];congr 1; funext r;obtain ⟨e,ts',m'⟩:=r;cases e<;>rfl
theorem kG:∀ K:Ks,(xD S tab rs K).Ok S tab rs K
 | []=>⟨λ_ _=>rfl,λ_ _ _=>rfl,λ_ _=>rfl⟩
 | .code c::K=>by
  have ih:=kG K;simp only [xD];split
  ·exact ⟨λts m=>WM c K _ ih ts m,λj ts m=>ih.e j ts m,λts m=>ih.r ts m⟩
  ·exact ⟨λts m=>by simp only [jmp_eq,yv]; rfl,λj ts m=>ih.e j ts m,λts m=>ih.r ts m⟩
 | .blk id::K=>by
  have ih:=kG K;refine ⟨λts m=>ih.n ts m,λj ts m=>?_,λts m=>ih.r ts m⟩;simp only [xD,runK];split
  ·exact ih.n ts m
  ·exact ih.e j ts m
 | .loop a::K=>by
  have ih:=kG K;exact ⟨λts m=>by simp only [xD,jmp_eq]; rfl,λj ts m=>ih.e j ts m,λts m=>ih.r ts m⟩
theorem qP (K:Ks) (ts:List Value) (m:Mem):Pt S tab rs K ts m=qlx S tab rs K ts m:=by
 cases K with
 | nil=>rfl
 | cons f K =>
  cases f with
  | code c=>exact (WM c K _ (kG K) ts m).symm
  | blk id=>exact ((kG (S:=S) (tab:=tab) (rs:=rs) (.blk id::K)).n ts m).symm
  | loop a =>
   have ih:=kG (S:=S) (tab:=tab) (rs:=rs) K;refine Eq.trans (qdC a K ts m) (Eq.symm ?_);refine WM a (.loop a::K) _ ?_ ts m;exact ⟨λts m=>by simp only [jmp_eq]; rfl,λj ts m=>ih.e j ts m,λts m=>ih.r ts m⟩
theorem qk {f:FuncId} {fn:AFunc} (hf:tab f=some fn) (args:List Value) (m:Mem) (hS:S f args m=none) :
  Call S tab f args m=evC S tab fn.results fn.body [] (xD S tab fn.results []) (args++List.replicate (fn.ntmps - args.length) undef) m:=by
 rw [Call_eq hf args m hS,WM _ _ _ (kG [])];simp only [leave,XK];congr 1; funext r;obtain ⟨e,ts,m'⟩:=r;cases e with
 | normal=>simp only [runK,fin_eq]
 | exit j=>rfl
 | ret=>simp only [runK,fin_eq]
end
def XW:List Nat->ACode->Ks->Option Ks
 | [],.loop a,K=>some (.loop a::K)
 | [],c,K=>some (.code c::K)
 | 0::p,.seq a b,K=>XW p a (.code b::K)
 | 1::p,.seq _ b,K=>XW p b K
 | 0::p,.cond _ a _,K=>XW p a K
 | 1::p,.cond _ _ b,K=>XW p b K
 | 0::p,.block id a,K=>XW p a (.blk id::K)
 | 0::p,.loop a,K=>XW p a (.loop a::K)
 | _,_,_=>none
def qeE (P:Program):Tab:=λf=>if zX P f=true then qcw P f else none
def qH (P:Program) (f:FuncId):AFunc:=(qcw P f).getD ⟨0,.stop,[]⟩
theorem qhw (P:Program):qad P (qeE P):=by
 intro f x h;unfold qeE at h;split at h
 ·exact h
 ·cases h
theorem qdb (P:Program):∀ f x,qeE P f=some x->zX P f=true:=by
 intro f x h;unfold qeE at h;split at h
 ·assumption
 ·cases h
def at' (fn:AFunc) (p:List Nat):Ks:=(XW p fn.body []).getD []
end Go.Fx
namespace Go.Fx
open Go
section
variable (call:zj) (jp:Ks->List Value->Mem->O)
variable (rs:List ARes)
end
end Go.Fx
namespace Go.Fx
open Go Go.RowKit
theorem Inv.qcz {φ:Ren} {m:Mem} {w w':World} (h:Inv φ m w) (hb:Below w.heap.size w w'):Inv φ m w'/\Frm φ m w φ m w':=by
 refine ⟨⟨λb x hx=>?_,h.apart,λb l hl=>⟨(h.below b l hl).1,Nat.lt_of_lt_of_le (h.below b l hl).2 hb.size⟩⟩,Ren.le_refl φ,hb.size,λB hB _=>hb.block B hB,λb x l hx hl hr=>.inr ⟨b,x,l,hx,hl,hr,rfl⟩,hb.os,hb.output,hb.tape,Nat.le_refl _,λ_ _=>rfl,λ_ _ h=>h,λb x l hx hl=>.inr ⟨b,x,l,hx,hl,rfl⟩⟩;obtain ⟨l,hl,ok⟩:=h.live b x hx;exact ⟨l,hl,ok.congr (hb.block l.blk (h.below b l hl).2)⟩
theorem vn {P:Program} {φ:Ren} {m:Mem} {w:World} {f:FuncId} {args:Array Value} {v V:Value} (hi:Inv φ m w) (hv:VR φ v V) (h:Calls P f args w λe w'=>e=.returned V/\Below w.heap.size w w') :
  vS P φ m w f args v m:=by
 refine h.mono ?_
 rintro e w' ⟨rfl,hb⟩
 obtain ⟨h1,h2⟩:=hi.qcz hb;exact ⟨V,φ,rfl,hv,h1,h2⟩
theorem VRs.two {φ:Ren} {a b:Value} {ARGS:Array Value} (h:VRs φ [a,b] ARGS.toList):∃ A B,ARGS=#[A,B]/\VR φ a A/\VR φ b B:=by
 obtain ⟨l⟩:=ARGS;obtain ⟨h1,h2⟩:=h
 match l,h1 with
 | [A,B],_=>exact ⟨A,B,rfl,h2 0 a A rfl rfl,h2 1 b B rfl rfl⟩
theorem VRs.qlw {φ:Ren} {a:Value} {ARGS:Array Value} (h:VRs φ [a] ARGS.toList):∃ A,ARGS=#[A]/\VR φ a A:=by
 obtain ⟨l⟩:=ARGS;obtain ⟨h1,h2⟩:=h
 match l,h1 with
 | [A],_=>exact ⟨A,rfl,h2 0 a A rfl rfl⟩
end Go.Fx
namespace Go.Fx.Tryz
open Go Go.Fx Go.Proofs Go.RowKit Go.Lib
noncomputable abbrev P:Program:=Tryz.prog
noncomputable abbrev IP:Program:=Tryz.prog
theorem mixed:P.follows .mixedOrders=true:=by kernel_rfl
theorem qen (N k:Nat) (hk:k<1000):¬ (yBase+N:FuncId)=k:=by
 intro h;have h1:yBase+N=k:=h;have h2:1000<yBase:=by decide
 omega
noncomputable abbrev tab:Tab:=qeE P
theorem tabOk:qad P tab:=qhw P
theorem tabGood:∀ f x,tab f=some x->zX P f=true:=qdb P
section
theorem Qb:IP.underlying 39=some (TypeDesc.slice 81):=by kernel_rfl
theorem qfv:IP.underlying 3=some (TypeDesc.int IntKind.i64):=by kernel_rfl
theorem qhY:IP.underlying 4=some TypeDesc.bool:=by kernel_rfl
theorem qiQ:∀ w,(isAgg 39).run IP w=.ok false w:=λw=>by kernel_rfl
theorem qiO:∀ w,(Go.sizeOf 39).run IP w=.ok 1 w:=λw=>by kernel_rfl
theorem qfu:∀ w,(Go.sizeOf 81).run IP w=.ok 2 w:=λw=>by kernel_rfl
theorem qcp:(IP.info? 81).map (·.size)=some 2:=by kernel_rfl
theorem qkT:(IP.info? 81).map (λi=>(i.zero,i.size,i.bytes))=some (some (Value.agg #[Value.string { data:=#[] },Value.string { data:=#[] }]),2,32):=by kernel_rfl
theorem qco:IP.follows .mixedOrders=true:=by kernel_rfl
theorem qcn:insFn.ntmps=95:=rfl
theorem wD {P:Program} {w w':World} {dT sT ty elem:TypeId} {s b o dLen dCap sLen sCap:Nat} {a:Addr} {cs:List Value} (hu:P.underlying dT=some (.slice elem)) (hs:(P.info? elem).map (·.size)=some s)
  (hl:(Go.loadCells a (Nat.min sLen dLen * s)).run P w=.ok cs.toArray w) (hst:(Go.storeCells ⟨b,o,none⟩ cs).run P w=.ok () w') :
  (Builtin.copy_ #[dT,sT] ty #[.slice (some ⟨b,o,none⟩) dLen dCap,.slice (some a) sLen sCap]).run P w=.ok (goInt (Nat.min sLen dLen)) w':=by
 cases hq:P.info? elem with
 | none=>simp [hq] at hs
 | some i =>
  have hi:i.size=s:=by simpa [hq] using hs
  simp [Builtin.copy_,run_underlying hu,Builtin.lenOf,Builtin.firstCells,sizeOf,typeInfo,hq,hi,hl,hst]
set_option maxHeartbeats 4000000 in
set_option maxRecDepth 100000 in
theorem qfq (b off n c i vb voff m vc:Nat) (w w1 w2:World) (hi:i<n) (hm:0<m) (hroom:n+m<=c) (hc63:n+m<=4611686018427387904)
  (hov:∀ lb cb,(callFunc 178 #[.slice (some ⟨vb,voff,none⟩) m vc,.slice (some ⟨b,off+(i+m) * 2,none⟩) lb cb]).run IP w=.ok (.value (.bool false)) w)
  (hcp1:∀ ty dc sc,(Builtin.copy_ #[39,39] ty #[.slice (some ⟨b,off+(i+m) * 2,none⟩) (n+m - (i+m)) dc,.slice (some ⟨b,off+i * 2,none⟩) (n+m - i) sc]).run IP w.drew=.ok (goInt ((n - i:Nat):Int)) w1)
  (hcp2:∀ ty dc,(Builtin.copy_ #[39,39] ty #[.slice (some ⟨b,off+i * 2,none⟩) (n+m - i) dc,.slice (some ⟨vb,voff,none⟩) m vc]).run IP w1=.ok (goInt m) w2) :
  Calls IP 132 #[.slice (some ⟨b,off,none⟩) n c,.int .i64 i,.slice (some ⟨vb,voff,none⟩) m vc] w λe w' =>
   e=.returned (.slice (some ⟨b,off,none⟩) (n+m) c)/\w'=w2:=by
 have u3:=run_underlying qfv; have u4:=run_underlying qhY; have u32:=run_underlying Qb;have t32:=Qb; have t3:=qfv; have t4:=qhY; have a32:=qiQ; have z32:=qiO; have z61:=qfu; have mixed:=qco;have hz1:¬ ((m:Int)=0):=by omega
 have hz2:¬ ((i:Int)=(n:Int)):=by omega
 have hw1:IntKind.i64.wrap ((i:Int)+(m:Int))=(i:Int)+(m:Int):=by rw [IntKind.wrap_i64]; omega
 have hb1:(0:Int)<=(i:Int)+(m:Int):=by omega
 have hin:i<=n:=by omega
 have htn:((i:Int)+(m:Int)).toNat=i+m:=by omega
 have hb2:¬ (c=i+m):=by omega
 have hb3:(i:Int)<=(n:Int)+(m:Int):=by omega
 have hb4:¬ (c=i):=by omega
 go_enter qft,qcn
 go_wp2_with (simp only [hov])
 go_region_law_o (refine step_copy_runI rfl _ _ 39 39 rfl _ _ (by simp [Act.eval,Act.put]) (by simp [Act.eval,Act.put]) (hcp1 _ _ _) ?_)
 go_wp2_with (at_builtin; refine wpList_copy_runI _ rfl _ _ 39 39 rfl _ _ rfl rfl (hcp2 _ _) ?_)
 go_ret
 exact ⟨rfl,rfl⟩
set_option maxHeartbeats 4000000 in
set_option maxRecDepth 100000 in
theorem qfs (b off n c i vb voff m vc N G:Nat) (w w1 w2 w3:World) (hi:i<n) (hm:0<m) (hnc:n<=c) (hroom:c<n+m) (hc63:n+m<=4611686018427387904) (hGn:n+m<=G)
  (hrz:∀ ty,(Builtin.append_ #[39,3] ty #[.slice (some ⟨b,off,none⟩) i c,.int .i64 ((n:Int)+(m:Int) - (i:Int))]).run IP w=.ok (.slice (some ⟨N,0,none⟩) (n+m) G) w1)
  (hcpA:∀ ty dc,(Builtin.copy_ #[39,39] ty #[.slice (some ⟨N,i * 2,none⟩) (n+m - i) dc,.slice (some ⟨vb,voff,none⟩) m vc]).run IP w1=.ok (goInt m) w2)
  (hcpB:∀ ty dc sc,(Builtin.copy_ #[39,39] ty #[.slice (some ⟨N,(i+m) * 2,none⟩) (n+m - (i+m)) dc,.slice (some ⟨b,off+i * 2,none⟩) (n - i) sc]).run IP w2.drew=.ok (goInt ((n - i:Nat):Int)) w3) :
  Calls IP 132 #[.slice (some ⟨b,off,none⟩) n c,.int .i64 i,.slice (some ⟨vb,voff,none⟩) m vc] w λe w' =>
   e=.returned (.slice (some ⟨N,0,none⟩) (n+m) G)/\w'=w3:=by
 have u3:=run_underlying qfv; have u4:=run_underlying qhY; have u32:=run_underlying Qb;have t32:=Qb; have t3:=qfv; have t4:=qhY; have a32:=qiQ; have z32:=qiO; have z61:=qfu; have mixed:=qco;have hz1:¬ ((m:Int)=0):=by omega
 have hz2:¬ ((i:Int)=(n:Int)):=by omega
 have hz3:(c:Int)<(n:Int)+(m:Int):=by omega
 have hGi:¬ (G=i):=by omega
 have hGim:¬ (G=i+m):=by omega
 have hci:¬ (c=i):=by omega
 have hw1:IntKind.i64.wrap ((i:Int)+(m:Int))=(i:Int)+(m:Int):=by rw [IntKind.wrap_i64]; omega
 have hb1:(0:Int)<=(i:Int)+(m:Int):=by omega
 have hin:i<=n:=by omega
 have htn:((i:Int)+(m:Int)).toNat=i+m:=by omega
 have hb3:(i:Int)<=(n:Int):=by omega
 go_enter qft,qcn
 go_wp2_with (first
  | (at_builtin; refine Lib.wpList_append_run _ rfl _ _ _ _ rfl _ _ rfl rfl _ _ (hrz _) ?_)
  | (at_builtin; refine wpList_copy_runI _ rfl _ _ 39 39 rfl _ _ rfl rfl (hcpA _ _) ?_))
 go_region_law_o (refine step_copy_runI rfl _ _ 39 39 rfl (.slice (some ⟨N,(i+m) * 2,none⟩) (n+m - (i+m)) (G - (i+m))) (.slice (some ⟨b,off+i * 2,none⟩) (n - i) (c - i)) (by simp [Act.eval,Act.put]) (by simp [Act.eval,Act.put]) (hcpB 3 (G - (i+m)) (c - i)) ?_)
 go_wp2
 go_ret
 exact ⟨rfl,rfl⟩
theorem VRs.three {φ:Go.Fx.Ren} {a b c:Value} {ARGS:Array Value} (h:VRs φ [a,b,c] ARGS.toList):∃ A B C,ARGS=#[A,B,C]/\VR φ a A/\VR φ b B/\VR φ c C:=by
 obtain ⟨l⟩:=ARGS;obtain ⟨h1,h2⟩:=h
 match l,h1 with
 | [A,B,C],_=>exact ⟨A,B,C,rfl,h2 0 a A rfl rfl,h2 1 b B rfl rfl,h2 2 c C rfl rfl⟩
def XS (l:List Value) (m:Mem):Option (Value × Mem):=match l with
 | [.slice (some ⟨b,off,none⟩) n c,.int .i64 i,.slice (some ⟨vb,voff,none⟩) 1 vc] =>
  match m.get b with
  | some ⟨.cells cs e,false,some 2⟩ =>
   match m.get vb with
   | some ⟨.cells vs _,false,none⟩ =>
    if 0<=i/\i<n/\n<=c/\off+n * 2<=cs.length/\e=81/\n<=1099511627776/\b≠vb/\voff+2<=vs.length/\((cs.drop off).take (n * 2)).all (·.oneCell')=true/\((vs.drop voff).take 2).all (·.oneCell')=true then
     some (.slice (some ⟨m.next,0,none⟩) (n+1) (n+1),(m.kill b).add ⟨.cells ((cs.drop off).take (i.toNat * 2)++((vs.drop voff).take 2++(cs.drop (off+i.toNat * 2)).take ((n - i.toNat) * 2))) 81,false,some 2⟩)
    else none
   | _=>none
  | _=>none
 | _=>none
theorem qkU (cs:List Value) (off i n:Nat) (vs:List Value) (hv:vs.length=2) (hin:i<n) (hc:off+n * 2<=cs.length) (X:List Value) :
  qQ ((cs.drop off).take ((i+1) * 2)++X) (i * 2) vs=(cs.drop off).take (i * 2)++(vs++X):=by
 have hl:((cs.drop off).take (i * 2)).length=i * 2:=by rw [ltI,ldI]; omega
 have h1:(cs.drop off).take ((i+1) * 2)=(cs.drop off).take (i * 2)++((cs.drop off).drop (i * 2)).take 2:=by
  rw [show (i+1) * 2=i * 2+2 by omega,List.take_add]
 have:=xj ((cs.drop off).take (i * 2)) (((cs.drop off).drop (i * 2)).take 2) X vs (by rw [ltI,ldI,ldI,hv]; omega);rw [hl] at this;rw [h1,aaI,this]
theorem qiP {cs:List Value} {off n:Nat} (h:((cs.drop off).take (n * 2)).all (·.oneCell')=true) {i:Nat} (hin:i<n):∀ v∈(cs.drop (off+i * 2)).take ((n - i) * 2),v.oneCell'=true:=by
 intro v hv;refine List.all_eq_true.1 h v ?_;obtain ⟨j,hj,rfl⟩:=List.mem_iff_getElem.1 hv;rw [ltI,ldI] at hj;rw [List.getElem_take,List.getElem_drop];have:((cs.drop off).take (n * 2))[i * 2+j]'(by rw [ltI,ldI]; omega)=cs[off+i * 2+j]'(by omega):=by
  rw [List.getElem_take,List.getElem_drop];congr 1;omega
 rw [<- this];exact List.getElem_mem _
theorem qbc {w:World} {φ:Go.Fx.Ren} {m:Mem} (hi:Inv φ m w) {b vb:Nat} {cs vs:List Value} {e e':TypeId} {l lv:Loc} (hb:m.get b=some ⟨.cells cs e,false,some 2⟩) (hl:φ b=some l) (hv:m.get vb=some ⟨.cells vs e',false,none⟩) (hlv:φ vb=some lv) (hne:b≠vb)
  (hcs:cs.length≠0) (o o' k vc lb cb:Nat) :
  (callFunc 178 #[.slice (some ⟨lv.blk,o,none⟩) k vc,.slice (some ⟨l.blk,o',none⟩) lb cb]).run IP w=.ok (.value (.bool false)) w:=by
 obtain ⟨k1,hk1,_,C,e1,fz,hC,_,_,hz,_⟩:=hi.live vb _ hv;rw [hlv] at hk1; cases hk1
 rw [hz rfl (by simp)] at hC;obtain ⟨D,e2,fz2,hD,hs2,hsz,_⟩:=hi.shape hb hl;rw [if_neg hcs] at hsz;rw [run_callFunc_extern qjz (by kernel_rfl) (by kernel_rfl) (by kernel_rfl) (e:=Extern.SlicesOverlaps.overlaps #[39,39] #[4]) (by kernel_rfl),
  Lib.run_overlaps_apart w 39 4 81 Qb 2 qfu ⟨lv.blk,o,none⟩ ⟨l.blk,o',none⟩ k vc lb cb (λh=>hi.apart b vb _ _ l lv hb hv hl hlv rfl hne h.symm) e1 e2 C.size D.size (by simp [World.shape?,hC]) hs2 (by omega) (by simp [World.frozen?,hC]) (by simp [World.frozen?,hC])]
 rfl
theorem qdv {l:List Value} {m m':Mem} {v:Value} (h:XS l m=some (v,m')) {φ:Go.Fx.Ren} {w:World} {ARGS:Array Value} (hi:Inv φ m w) (ha:VRs φ l ARGS.toList):vS IP φ m w 132 ARGS v m':=by
 unfold XS at h;split at h
 rotate_left
 ·cases h
 rename_i b off n c i vb voff vc;split at h
 rotate_left
 ·cases h
 rename_i cs e hb;split at h
 rotate_left
 ·cases h
 rename_i vs e' hv;split at h
 rotate_left
 ·cases h
 rename_i hc;cases h
 obtain ⟨h0,hin,hnc,hcl,rfl,hbig,hne,hvl,hone,honev⟩:=hc;obtain ⟨A,B,C,rfl,hA,hB,hC⟩:=VRs.three ha;obtain ⟨i,rfl⟩:=Int.eq_ofNat_of_zero_le h0;have hin:i<n:=by omega
 simp only [Int.ofNat_eq_natCast,Int.toNat_natCast];cases hB
 obtain ⟨lv,hlv,okv⟩:=hi.live vb _ hv;obtain ⟨l,hl,ok⟩:=hi.live b _ hb;have hlo:=ok.1.1;have hlov:=okv.1.1;have hbn:b<m.next:=(hi.below b l hl).1;have hvn:vb<m.next:=(hi.below vb lv hlv).1;cases hC with
 | sliceLoose _ _ _ _ _ _ _ k hk hko=>rw [hlv] at hk; cases hk; rw [hlov] at hko; cases hko
 | sliceEx _ _ _ _ k hk hko =>
 rw [hlv] at hk; cases hk
 cases hA with
 | sliceEx _ _ _ _ k hk hko=>rw [hl] at hk; cases hk; rw [hlo] at hko; cases hko
 | sliceZero=>omega
 | sliceLoose _ _ _ _ off' cap' s k hk hko hoff hlen hcap hroom =>
 rw [hl] at hk; cases hk
 rw [hlo] at hko; cases hko
 have hoff':off'=l.base+off:=hoff (by omega);have hoA:off'+i * 2=l.base+(off+i * 2):=by omega
 have hoB:off'+(i+1) * 2=l.base+off+(i+1) * 2:=by omega
 have hd:Inv φ m w.drew:=hi.drawn rfl;have fd:Frm φ m w φ m w.drew:=Frm.drawn rfl rfl rfl rfl;obtain ⟨TL,hTL,rTL⟩:=hd.loadCells (P:=IP) hb hl (off+i * 2) ((n - i) * 2) (by omega);have hTl:((cs.drop (off+i * 2)).take ((n - i) * 2)).length=(n - i) * 2:=by rw [ltI,ldI]; omega
 have hVl:((vs.drop voff).take 2).length=2:=by rw [ltI,ldI]; omega
 have hov:=qbc hi hb hl hv hlv hne (by omega) (lv.base+voff) (off'+(i+1) * 2) 1 vc;have hmin1:Nat.min (n+1 - i) (n+1 - (i+1))=n - i:=by show min _ _=_; omega
 have hmin2:Nat.min 1 (n+1 - i)=1:=by show min _ _=_; omega
 have hmin3:Nat.min (n - i) (n+1 - (i+1))=n - i:=by show min _ _=_; omega
 by_cases hfit:n+1<=cap'
 ·obtain ⟨w1,φ1,hrun1,i1,f1,e1⟩:=hd.HY (P:=IP) hb hl (off:=off) (len:=i+1) (cap:=c) (off':=off') (cap':=cap') (n:=n - i) hoff (by omega) hroom (by omega) (by omega) rTL (qiP hone hin) hTl;have hgv1:((m.kill b).add ⟨.cells ((cs.drop off).take ((i+1) * 2)++(cs.drop (off+i * 2)).take ((n - i) * 2)) 81,false,some 2⟩).get vb=some ⟨.cells vs e',false,none⟩:=by
   rw [Mem.zw,Mem.xY,if_neg (by omega),Mem.xW,if_neg (Ne.symm hne)]; exact hv
  obtain ⟨VL,hVL,rVL⟩:=i1.loadCells (P:=IP) hgv1 (f1.ren _ _ hlv) voff 2 hvl;have hgn1:((m.kill b).add ⟨.cells ((cs.drop off).take ((i+1) * 2)++(cs.drop (off+i * 2)).take ((n - i) * 2)) 81,false,some 2⟩).get m.next=some ⟨.cells ((cs.drop off).take ((i+1) * 2)++(cs.drop (off+i * 2)).take ((n - i) * 2)) 81,false,some 2⟩:=by
   rw [Mem.zw,Mem.xY,if_pos rfl]
  obtain ⟨w2,hrun2,i2,f2⟩:=Inv.storeCells (P:=IP) e1 (i * 2) ((vs.drop voff).take 2) VL 0 _ _ w1 i1 hgn1 rVL (λv hv=>List.all_eq_true.1 honev v hv) (by rw [hVl,laI,hTl,ltI,ldI]; omega);have hcall:=qfq l.blk off' n cap' i lv.blk (lv.base+voff) 1 vc w w1 w2 hin (by omega) hfit (by omega) hov
   (λty dc sc=>by
    have:=wD (P:=IP) (dT:=39) (sT:=39) (ty:=ty) (dCap:=dc) (sCap:=sc) (b:=l.blk) (o:=off'+(i+1) * 2) (dLen:=n+1 - (i+1)) (sLen:=n+1 - i) (a:=⟨l.blk,off'+i * 2,none⟩) Qb qcp (cs:=TL) (by rw [hmin1,hoA]; exact hTL) hrun1;rw [hmin1] at this; exact this)
   (λty dc=>by
    have:=wD (P:=IP) (dT:=39) (sT:=39) (ty:=ty) (dCap:=dc) (sCap:=vc) (b:=l.blk) (o:=off'+i * 2) (dLen:=n+1 - i) (sLen:=1) (a:=⟨lv.blk,lv.base+voff,none⟩) Qb qcp (cs:=VL) (by rw [hmin2]; exact hVL) hrun2;rw [hmin2] at this; exact this)
  refine Calls.mono hcall ?_
  rintro e w' ⟨rfl,rfl⟩
  have hg:∀ d,((m.kill b).add ⟨.cells ((cs.drop off).take (i * 2)++((vs.drop voff).take 2++(cs.drop (off+i * 2)).take ((n - i) * 2))) 81,false,some 2⟩).get d =
    (((m.kill b).add ⟨.cells ((cs.drop off).take ((i+1) * 2)++(cs.drop (off+i * 2)).take ((n - i) * 2)) 81,false,some 2⟩).put m.next ⟨.cells (qQ ((cs.drop off).take ((i+1) * 2)++(cs.drop (off+i * 2)).take ((n - i) * 2)) (i * 2+0) ((vs.drop voff).take 2)) 81,false,some 2⟩).get d:=by
   intro d;simp only [Nat.add_zero];rw [Mem.zi,Mem.zw,Mem.zw,Mem.xY,qkU cs off i n _ hVl hin hcl];by_cases hd:d=m.next
   ·rw [if_pos hd,if_pos hd]
   ·rw [if_neg hd,if_neg hd,if_neg hd]
  exact ⟨_,φ1,rfl,.sliceLoose m.next 0 (n+1) (n+1) off' cap' 2 ⟨l.blk,off',some 2,l.size⟩ e1 rfl (λ_=>rfl) (Nat.le_refl _) hfit hroom,Inv.ext hg rfl i2,Frm.ext hg rfl ((fd.trans f1).trans f2)⟩
 ·obtain ⟨OL,hOL,rOL⟩:=hd.loadCells (P:=IP) hb hl off (i * 2) (by omega);obtain ⟨i0,hi0,hz0,hzs,hzb⟩:=info_parts qkT;have hold:(Builtin.firstCells i0.size i (.slice (some ⟨l.blk,off',none⟩) i cap')).run IP w.drew=.ok OL.toArray w.drew:=by
   rw [hzs,hoff']; simpa [Builtin.firstCells] using hOL
  have hik:i+(n+1 - i)=n+1:=by omega
  have hrz:∀ ty,_:=λty=>Lib.run_append_grow_zeros (P:=IP) w 39 3 ty 81 i0 _ .i64 .i64 Qb qfv hi0 hz0 (some ⟨l.blk,off',none⟩) i cap' OL hold (n+1 - i) (by omega) (by omega) (by omega) (by omega) (by rw [hzb]; omega) (by rw [hzb,hik]; exact growslice_fits (by omega) (by omega))
  rw [hik] at hrz;have hG:=grownCap_ge w (n+1) cap' 81;generalize grownCap w (n+1) cap' 81=G at hrz hG;generalize hZ1:Builtin.zeroCells (Value.agg #[Value.string { data:=#[] },Value.string { data:=#[] }]).cells (n+1 - i)=Z1 at hrz;generalize hZ2:Builtin.zeroCells (Value.agg #[Value.string { data:=#[] },Value.string { data:=#[] }]).cells (G - (n+1))=Z2 at hrz;have hZ1s:Z1.size=(n+1 - i) * 2:=by rw [<- hZ1]; simp [Builtin.zeroCells,Value.cells]
  have hZl:Z1.toList.length=(n+1 - i) * 2:=by rw [Array.length_toList]; exact hZ1s
  have hZ2s:Z2.size=(G - (n+1)) * 2:=by rw [<- hZ2]; simp [Builtin.zeroCells,Value.cells]
  have hZp:VRs φ Z1.toList Z1.toList:=by
   refine VRs.plain (List.all_eq_true.2 λv hv=>?_);rw [<- hZ1] at hv;simp only [Builtin.zeroCells,Value.cells,Array.toList_map,List.mem_map] at hv;obtain ⟨k,_,rfl⟩:=hv;have:k % 2=0∨k % 2=1:=by omega
   rcases this with h|h<;>simp [h,Fx.plain]
  have hOl:OL.length=i * 2:=by rw [<- rOL.1,ltI,ldI]; omega
  obtain ⟨φ1,i1,f1,e1⟩:=hd.wS (c:=(cs.drop off).take (i * 2)++Z1.toList) (C:=OL++Z1.toList) Z2.toList 81 2 (rOL.append hZp);have harr:OL.toArray++Z1++Z2=(OL++Z1.toList++Z2.toList).toArray:=by apply Array.toList_inj.1; simp
  rw [harr] at hrz;have hlen:(OL++Z1.toList++Z2.toList).length=G * 2:=by
   simp only [laI,Array.length_toList,hOl,hZ1s,hZ2s]; omega
  rw [hlen] at e1;have e1':φ1 m.next=some ⟨w.heap.size,0,some 2,G * 2⟩:=e1;generalize hw1:({ w.drew with heap:=w.drew.heap.push (.cells (OL++Z1.toList++Z2.toList).toArray 81) }:World)=w1 at i1 f1;have hrz':∀ ty,(Builtin.append_ #[39,3] ty #[.slice (some ⟨l.blk,off',none⟩) i cap',.int .i64 ((n:Int)+((1:Nat):Int) - (i:Int))]).run IP w=.ok (.slice (some ⟨w.heap.size,0,none⟩) (n+1) G) w1:=λty=>by
   have h1:(n:Int)+((1:Nat):Int) - (i:Int)=((n+1 - i:Nat):Int):=by omega
   rw [h1,<- hw1];exact hrz ty
  have hgv1:(m.add ⟨.cells ((cs.drop off).take (i * 2)++Z1.toList) 81,false,some 2⟩).get vb=some ⟨.cells vs e',false,none⟩:=by rw [Mem.zO _ _ hvn]; exact hv
  obtain ⟨VL,hVL,rVL⟩:=i1.loadCells (P:=IP) hgv1 (f1.ren _ _ hlv) voff 2 hvl;obtain ⟨w2,hrun2,i2,f2⟩:=Inv.storeCells (P:=IP) e1' (i * 2) ((vs.drop voff).take 2) VL 0 _ _ w1 i1 (Mem.qf ..) rVL (λv hv=>List.all_eq_true.1 honev v hv) (by rw [hVl,laI,hZl,ltI,ldI]; omega);rw [Nat.add_zero] at i2 f2;simp only [Nat.zero_add] at hrun2;generalize hc2:qQ ((cs.drop off).take (i * 2)++Z1.toList) (i * 2) ((vs.drop voff).take 2)=c2 at i2 f2;have hc2l:c2.length=(n+1) * 2:=by
   rw [<- hc2,XB,laI,hZl,ltI,ldI]; omega
  have d2:Inv φ1 ((m.add ⟨.cells ((cs.drop off).take (i * 2)++Z1.toList) 81,false,some 2⟩).put m.next ⟨.cells c2 81,false,some 2⟩) w2.drew:=i2.drawn rfl;have fd2:Frm φ1 ((m.add ⟨.cells ((cs.drop off).take (i * 2)++Z1.toList) 81,false,some 2⟩).put m.next ⟨.cells c2 81,false,some 2⟩) w2 φ1 ((m.add ⟨.cells ((cs.drop off).take (i * 2)++Z1.toList) 81,false,some 2⟩).put m.next ⟨.cells c2 81,false,some 2⟩) w2.drew:=Frm.drawn rfl rfl rfl rfl;have hgb2:((m.add ⟨.cells ((cs.drop off).take (i * 2)++Z1.toList) 81,false,some 2⟩).put m.next ⟨.cells c2 81,false,some 2⟩).get b=some ⟨.cells cs 81,false,some 2⟩:=by
   rw [Mem.zi,if_neg (by omega),Mem.zO _ _ hbn]; exact hb
  obtain ⟨TL2,hTL2,rTL2⟩:=d2.loadCells (P:=IP) hgb2 (f1.ren _ _ hl) (off+i * 2) ((n - i) * 2) (by omega);obtain ⟨w3,hrun3,i3,f3⟩:=Inv.storeCells (P:=IP) e1' ((i+1) * 2) ((cs.drop (off+i * 2)).take ((n - i) * 2)) TL2 0 _ _ w2.drew d2 (Mem.qe ..) rTL2 (qiP hone hin) (by rw [hc2l,hTl]; omega);rw [Nat.add_zero] at i3 f3;simp only [Nat.zero_add] at hrun3;have hcall:=qfs l.blk off' n cap' i lv.blk (lv.base+voff) 1 vc w.heap.size G w w1 w2 w3 hin (by omega) (by omega) (by omega) (by omega) hG hrz'
   (λty dc=>by
    have:=wD (P:=IP) (dT:=39) (sT:=39) (ty:=ty) (dCap:=dc) (sCap:=vc) (b:=w.heap.size) (o:=i * 2) (dLen:=n+1 - i) (sLen:=1) (a:=⟨lv.blk,lv.base+voff,none⟩) Qb qcp (cs:=VL) (by rw [hmin2]; exact hVL) hrun2;rw [hmin2] at this; exact this)
   (λty dc sc=>by
    have:=wD (P:=IP) (dT:=39) (sT:=39) (ty:=ty) (dCap:=dc) (sCap:=sc) (b:=w.heap.size) (o:=(i+1) * 2) (dLen:=n+1 - (i+1)) (sLen:=n - i) (a:=⟨l.blk,off'+i * 2,none⟩) Qb qcp (cs:=TL2) (by rw [hmin3,hoA]; exact hTL2) hrun3;rw [hmin3] at this; exact this)
  refine Calls.mono hcall ?_
  rintro e w' ⟨rfl,rfl⟩
  obtain ⟨i4,f4⟩:=i3.kill b;have hfin:qQ c2 ((i+1) * 2) ((cs.drop (off+i * 2)).take ((n - i) * 2))=(cs.drop off).take (i * 2)++((vs.drop voff).take 2++(cs.drop (off+i * 2)).take ((n - i) * 2)):=by
   have hl1:((cs.drop off).take (i * 2)).length=i * 2:=by rw [ltI,ldI]; omega
   have h1:=xj ((cs.drop off).take (i * 2)) (Z1.toList.take 2) (Z1.toList.drop 2) ((vs.drop voff).take 2) (by rw [hVl,ltI,hZl]; omega);rw [List.take_append_drop,hl1,hc2] at h1;have h2:=xj ((cs.drop off).take (i * 2)++(vs.drop voff).take 2) (Z1.toList.drop 2) [] ((cs.drop (off+i * 2)).take ((n - i) * 2)) (by rw [hTl,ldI,hZl]; omega);rw [List.append_nil,List.append_nil,laI,hl1,hVl,show i * 2+2=(i+1) * 2 by omega,aaI,aaI] at h2;rw [h1,h2]
  have hg:∀ d,((m.kill b).add ⟨.cells ((cs.drop off).take (i * 2)++((vs.drop voff).take 2++(cs.drop (off+i * 2)).take ((n - i) * 2))) 81,false,some 2⟩).get d =
    ((((m.add ⟨.cells ((cs.drop off).take (i * 2)++Z1.toList) 81,false,some 2⟩).put m.next ⟨.cells c2 81,false,some 2⟩).put m.next ⟨.cells (qQ c2 ((i+1) * 2) ((cs.drop (off+i * 2)).take ((n - i) * 2))) 81,false,some 2⟩).kill b).get d:=by
   intro d;rw [Mem.xW,Mem.zi,Mem.zi,Mem.zw,Mem.zw,Mem.xW,Mem.xY,hfin];by_cases hd:d=m.next
   ·rw [if_pos hd,if_neg (by omega),if_pos hd]
   ·rw [if_neg hd,if_neg hd,if_neg hd,if_neg hd]
  exact ⟨_,φ1,rfl,.sliceLoose m.next 0 (n+1) (n+1) 0 G 2 ⟨w.heap.size,0,some 2,G * 2⟩ e1' rfl (λ_=>rfl) (Nat.le_refl _) hG (by simp),Inv.ext hg rfl i4,Frm.ext hg rfl ((((fd.trans f1).trans f2).trans fd2).trans (f3.trans f4))⟩
end
end Go.Fx.Tryz
namespace Go.Fx.Tryz
open Go Go.Fx
abbrev u:Value:=undef
theorem qmu (S:zj) (hS:∀ l m,S 132 l m=none) (x0 x1 x2:Value) (m:Mem):Call S tab 132 [x0,x1,x2] m=qx 2 x0 (some x1) none m>>=λv1=>qd x2>>=λv2=>arith .eql v2 (.int .i64 0)>>=λv3=>cnd v3 (some (x0,m)) (qd x0>>=λv4=>arith .eql x1 v4>>=λv5=>cnd v5 (qM 2 x2 m>>=λp6=>qA 81 2 32 x0 p6.1 p6.2 m>>=λp7=>some (p7.1,p7.2)) (arith .add v4 v2>>=λv8=>kz x0 m>>=λv9=>arith .gtr v8 v9>>=λv10=>cnd v10 (qx 2 x0 none (some x1) m>>=λv11=>arith .add v4 v2>>=λv12=>arith .sub v12 x1>>=λv13=>xk 81 2 32 (.agg #[.string ⟨#[]⟩,.string ⟨#[]⟩]) v11 v13 m>>=λp14=>qx 2 p14.1 (some x1) none p14.2>>=λv15=>qM 2 x2 p14.2>>=λp16=>vk 2 v15 p16.1 p16.2 p14.2>>=λp17=>arith .add x1 v2>>=λv18=>qx 2 p14.1 (some v18) none p17.2>>=λv19=>qx 2 x0 (some x1) none p17.2>>=λv20=>qM 2 v20 p17.2>>=λp21=>vk 2 v19 p21.1 p21.2 p17.2>>=λp22=>some (p14.1,p22.2)) (arith .add v4 v2>>=λv23=>qx 2 x0 none (some v23) m>>=λv24=>arith .add x1 v2>>=λv25=>qx 2 v24 (some v25) none m>>=λv26=>none))) :=
 (qk (fn:=(qH P 132)) (by kernel_rfl) [x0,x1,x2] m (hS _ _)).trans (by kernel_rfl)
end Go.Fx.Tryz
