/- Parts of a proof: FxDec, FxRun, FxHook, HookI, InsD. Conditions: none. -/
import Derived.Below
import Derived.Shelf.Spec.SlicesInsertGrow
import Derived.KernelRfl
import Derived.Test.YtbhdhhgpfanmcaaGreatDoorQb10
namespace Go.Fx
open Go
abbrev O:=Option (Value × Mem)
inductive KFr where
 | code (c:ACode)
 | blk (id:Nat)
 | loop (a:ACode)
abbrev Ks:=List KFr
def cnd (v:Value) (a b:O):O:=match v with
 | .bool true=>a
 | .bool false=>b
 | _=>none
def qbI (v:Value) (w:Bool):Bool:=match v with
 | .bool b=>b == w
 | _=>false
def gdo (v:Value) (w:Bool) (o:O) (m:Mem):O:=if qbI v w=true then o else some (undef,m)
def nw (m:Mem) (x:ABlk) (k:Value->Mem->O):O:=k (.pointer (some ⟨m.next,0,none⟩)) (m.add x)
def nws (m:Mem) (x:ABlk) (n:Nat) (k:Value->Mem->O):O:=k (.slice (some ⟨m.next,0,none⟩) n n) (m.add x)
def QL (b:Nat) (m:Mem) (x:ABlk) (k':Option Nat) (k:Value->Mem->O):O:=k (jW b k') (m.put b x)
def gdp (v:Value) (w:Bool) (o:Option Value) (m:Mem):O:=gdo v w (o.bind λv=>some (v,m)) m
def gdv (v:Value) (w:Bool) (x:Value) (m:Mem):O:=gdo v w (some (x,m)) m
def gdc (v:Value) (w:Bool) (o:O) (m:Mem):O:=gdo v w (o.bind λp=>some (p.1,p.2)) m
def ldF (k:Nat) (x:Value) (m:Mem) (f:Value->O):O:=(qB x).bind λa=>(qb k a).bind λb=>(qa b m).bind f
def ldA (k:Nat) (x:Value) (m:Mem) (f:Value->O):O:=(qb k x).bind λb=>(qa b m).bind f
def stF (k:Nat) (x v:Value) (m:Mem) (f:Mem->O):O:=(qB x).bind λa=>(qb k a).bind λb=>(qi 1 b v m).bind f
def ex2 (x:Value) (f:Value->Value->O):O:=(qG 0 x).bind λa=>(qG 1 x).bind λb=>f a b
def pk (b:Bool) (x y:Value):Value:=if b=true then x else y
def mkU:Nat->Nat->List (Nat × Value)->List Value
 | 0,_,_=>[]
 | n+1,i,[]=>undef::mkU n (i+1) []
 | n+1,i,(j,v)::r=>match Nat.beq i j with
  | true=>v::mkU n (i+1) r
  | false=>undef::mkU n (i+1) ((j,v)::r)
def chk (ms:List Mem) (rq:List Rq) (o:O):O:=if rq.all (wR ms)=true then o else none
def avT (ts:List Value) (t:Nat):Value:=ts[t]?.getD undef
def evX (ts:List Value) (x:Operand) (k:Value->O):O:=match x with
 | .tmp t=>k (avT ts t)
 | .const v=>if plain v then k v else none
 | .func f=>k (.func (.func f) #[] #[])
 | .global _=>none
def WK (ts:List Value):List Operand->(List Value->O)->O
 | [],k=>k []
 | x::r,k=>evX ts x λv=>WK ts r λl=>k (v::l)
def ym (ts:List Value) (x:Option Operand) (k:Option Value->O):O:=match x with
 | none=>k none
 | some x=>evX ts x λv=>k (some v)
def qdP (ts:List Value):List (Nat × Nat × Operand)->(List (Nat × Nat × Value)->O)->O
 | [],k=>k []
 | (o,s,x)::r,k=>evX ts x λv=>qdP ts r λl=>k ((o,s,v)::l)
theorem evX_eq (ts:List Value) (x:Operand) (k:Value->O):evX ts x k=(zc ts x).bind k:=by
 cases x with
 | const v=>simp only [evX,zc]; split<;>rfl
 | _=>rfl
theorem evXs_eq (ts:List Value):∀ (xs:List Operand) (k:List Value->O),WK ts xs k=(kg ts xs).bind k
 | [],k=>rfl
 | x::r,k=>by
  simp only [WK,evX_eq,kg];cases zc ts x with
  | none=>rfl
  | some v =>
   simp only [Option.bind_some,evXs_eq ts r];cases kg ts r<;>rfl
theorem evXO_eq (ts:List Value) (x:Option Operand) (k:Option Value->O):ym ts x k=(jn ts x).bind k:=by
 cases x with
 | none=>rfl
 | some x=>simp only [ym,evX_eq,jn]; cases zc ts x<;>rfl
theorem evPs_eq (ts:List Value):∀ (xs:List (Nat × Nat × Operand)) (k:List (Nat × Nat × Value)->O),qdP ts xs k=(kF ts xs).bind k
 | [],k=>rfl
 | (o,s,x)::r,k=>by
  simp only [qdP,evX_eq,kF];cases zc ts x with
  | none=>rfl
  | some v =>
   simp only [Option.bind_some,evPs_eq ts r];cases kF ts r<;>rfl
def qgi (ts:List Value) (k:ABlk->Option Nat->O):AOp->O
 | .alloc e z=>k ⟨.cells z.cells.toList e,false,none⟩ none
 | .box e x=>evX ts x λv=>k ⟨.cells v.cells.toList e,false,none⟩ none
 | .buildSlice e len z ps=>qdP ts ps λl=>(qt z l).bind λc=>k ⟨.cells c e,false,none⟩ (some len)
 | _=>none
theorem evNew_eq (ts:List Value) (k:ABlk->Option Nat->O) (op:AOp):qgi ts k op=(jK ts op).bind λp=>k p.1 p.2:=by
 cases op<;>simp only [qgi,jK,evX_eq,evPs_eq,Option.map_eq_bind,Option.bind_assoc,Option.bind_some,Option.bind_none,Function.comp_def]
def HD (call:zi) (ts:List Value) (m:Mem) (k:Value->Mem->O):AOp->O
 | .mov x=>evX ts x λv=>k v m
 | .nilck x=>evX ts x λv=>(qB v).bind λu=>k u m
 | .pick c a b=>evX ts c λv=>evX ts a λp=>evX ts b λq=>(asB v).bind λt=>k (if t then p else q) m
 | .alloc e z=>nw m ⟨.cells z.cells.toList e,false,none⟩ k
 | .box e x=>evX ts x λv=>nw m ⟨.cells v.cells.toList e,false,none⟩ k
 | .build z ps=>qdP ts ps λl=>(qt z l).bind λc=>k (.agg c.toArray) m
 | .buildSlice e len z ps=>qdP ts ps λl=>(qt z l).bind λc=>nws m ⟨.cells c e,false,none⟩ len k
 | .load1 x=>evX ts x λv=>(qa v m).bind λu=>k u m
 | .loadN n x=>evX ts x λv=>(qk n v m).bind λu=>k u m
 | .store n a x=>evX ts a λv=>evX ts x λu=>(qi n v u m).bind λm'=>k undef m'
 | .arith op x y=>evX ts x λv=>evX ts y λu=>(Fx.arith op v u).bind λr=>k r m
 | .eqD neg d x y=>evX ts x λv=>evX ts y λu=>(qbV neg (.st d) v u).bind λr=>k r m
 | .eqBool neg x y=>evX ts x λv=>evX ts y λu=>(vl neg v u).bind λr=>k r m
 | .eqNil kd neg x y=>evX ts x λv=>evX ts y λu=>(qU kd neg v u).bind λr=>k r m
 | .un op x=>evX ts x λv=>(zy op v).bind λr=>k r m
 | .conv kd x=>evX ts x λv=>(zx kd v).bind λr=>k r m
 | .b2s x=>evX ts x λv=>(jh v m).bind λr=>k r m
 | .fieldAddr off x=>evX ts x λv=>(qb off v).bind λr=>k r m
 | .field off size agg x=>evX ts x λv=>(vW off size agg v).bind λr=>k r m
 | .indexS size x i=>evX ts x λv=>evX ts i λu=>(qj size v u).bind λr=>k r m
 | .indexA len size x i=>evX ts x λv=>evX ts i λu=>(js len size v u).bind λr=>k r m
 | .indexStr x i=>evX ts x λv=>evX ts i λu=>(zl v u).bind λr=>k r m
 | .indexArr len size agg x i=>evX ts x λv=>evX ts i λu=>(vH len size agg v u).bind λr=>k r m
 | .sliceStr x lo hi=>evX ts x λv=>ym ts lo λl=>ym ts hi λh=>(zI v l h).bind λr=>k r m
 | .sliceS size x lo hi=>evX ts x λv=>ym ts lo λl=>ym ts hi λh=>(qx size v l h m).bind λr=>k r m
 | .sliceA n size x lo hi=>evX ts x λv=>ym ts lo λl=>ym ts hi λh=>(xV n size v l h m).bind λr=>k r m
 | .extract i x=>evX ts x λv=>(qG i v).bind λr=>k r m
 | .lenS x=>evX ts x λv=>(qd v).bind λr=>k r m
 | .lenStr x=>evX ts x λv=>(qQ v).bind λr=>k r m
 | .append e size eb x y=>evX ts x λv=>evX ts y λu=>(qM size u m).bind λp=>(qA e size eb v p.1 p.2 m).bind λr=>k r.1 r.2
 | .copy size x y=>evX ts x λv=>evX ts y λu=>(qM size u m).bind λp=>(vh size v p.1 p.2 m).bind λr=>k r.1 r.2
 | .min x xs=>evX ts x λv=>WK ts xs λl=>(jX min2 v l).bind λr=>k r m
 | .max x xs=>evX ts x λv=>WK ts xs λl=>(jX max2 v l).bind λr=>k r m
 | .mkfunc f fs xs=>WK ts fs λh=>WK ts xs λl=>k (.func (.func f) h.toArray l.toArray) m
 | .p1 q x=>evX ts x λv=>(q.run v).bind λr=>k r m
 | .p2 q x y=>evX ts x λv=>evX ts y λu=>(q.run v u).bind λr=>k r m
 | .r1 q x=>evX ts x λv=>(q.run v m).bind λr=>k r m
 | .r2 q x y=>evX ts x λv=>evX ts y λu=>(q.run v u m).bind λr=>k r m
 | .e1 q x=>evX ts x λv=>(q.run v m).bind λr=>k r.1 r.2
 | .e2 q x y=>evX ts x λv=>evX ts y λu=>(q.run v u m).bind λr=>k r.1 r.2
 | .mapUpd kk x y z=>evX ts x λv=>evX ts y λq=>evX ts z λu=>(zs kk v q u m).bind λm'=>k undef m'
 | .makeM x=>ym ts x λh=>if qbb h=true then k (zJ m).1 (zJ m).2 else none
 | .slice3 size x lo hi mx=>evX ts x λv=>ym ts lo λl=>ym ts hi λh=>evX ts mx λu=>(jL size v l h u m).bind λr=>k r m
 | .clearS z x=>evX ts x λv=>(vw z v m).bind λm'=>k undef m'
 | .makeS e bytes z n c=>evX ts n λv=>evX ts c λu=>(vv e bytes z v u m).bind λr=>k r.1 r.2
 | .mkiface t x=>evX ts x λv=>k (.iface t v) m
 | .call f xs=>WK ts xs λl=>(call f l m).bind λp=>k p.1 p.2
 | .callv x xs=>evX ts x λv=>WK ts xs λl=>(kE v).bind λp=>(call p.1 (p.2.1++(l++p.2.2)) m).bind λr=>k r.1 r.2
 | .floAt b o=>qgi ts (λx k'=>QL b m x k' k) o
 | .flo _ _=>none
 | .stop=>none
theorem evOp_eq (call:zi) (ts:List Value) (m:Mem) (k:Value->Mem->O) (op:AOp):HD call ts m k op=(zA call ts m op).bind λp=>k p.1 p.2:=by
 cases op<;>simp only [HD,evX_eq,evXs_eq,evXO_eq,evPs_eq,zA,AOp.run,Option.bind_assoc,nw,nws,QL,evNew_eq,jH,xK,Option.map_eq_bind,Option.bind_some,Function.comp_def,Option.bind_none]
 ·rename_i c a b;cases zc ts c with
  | none=>rfl
  | some v =>
   simp only [Option.bind_some];cases ha:zc ts a with
   | none=>simp
   | some p =>
    cases hb:zc ts b with
    | none=>simp
    | some q=>simp
 ·rename_i x;cases jn ts x with
  | none=>rfl
  | some h=>simp only [Option.bind_some]; split<;>rfl
 ·rename_i x xs;cases zc ts x with
  | none=>rfl
  | some v =>
   simp only [Option.bind_some];cases kg ts xs with
   | none=>simp
   | some l=>simp
def Vt (call:zi):List AOper->List Value->Mem->(List Value->Mem->O)->O
 | [],ts,m,k=>k ts m
 | ⟨d,op,none⟩::r,ts,m,k=>HD call ts m (λv m'=>Vt call r (xX ts d v) m' k) op
 | ⟨d,op,some (t,w)⟩::r,ts,m,k=>(gdo (avT ts t) w (HD call ts m (λv m'=>some (v,m')) op) m).bind λp=>Vt call r (xX ts d p.1) p.2 k
theorem wantV_eq (ts:List Value) (t:Nat) (w:Bool):qbI (avT ts t) w=zg ts (some (t,w)):=by
 simp only [qbI,zg,avT];cases ts[t]? with
 | none=>rfl
 | some v=>cases v<;>rfl
theorem evOps_eq (call:zi):∀ (ops:List AOper) (ts:List Value) (m:Mem) (k:List Value->Mem->O),Vt call ops ts m k=(zZ call ops ts m).bind λp=>k p.1 p.2
 | [],_,_,_=>rfl
 | ⟨d,op,none⟩::r,ts,m,k=>by
  simp only [Vt,evOp_eq,zZ,zg,if_true,Option.bind_assoc];congr 1; funext p;exact evOps_eq call r _ _ k
 | ⟨d,op,some (t,w)⟩::r,ts,m,k=>by
  simp only [Vt,evOp_eq,zZ,gdo,wantV_eq];split
  ·have:∀ o:O,(o.bind λp=>some (p.1,p.2))=o:=by intro o; cases o<;>rfl
   rw [this,Option.bind_assoc];congr 1; funext p;exact evOps_eq call r _ _ k
  ·simp only [Option.bind_some];exact evOps_eq call r _ _ k
def qgh (ts:List Value) (op:AOp) (k:Req->O):O:=match op with
 | .load1 x=>evX ts x λv=>k (.load1 v)
 | .loadN n x=>evX ts x λv=>k (.loadN n v)
 | .b2s x=>evX ts x λv=>k (.b2s v)
 | .sliceS size x lo hi=>evX ts x λv=>ym ts lo λl=>ym ts hi λh=>k (.sliceS size v l h)
 | .sliceA n size x lo hi=>evX ts x λv=>ym ts lo λl=>ym ts hi λh=>k (.sliceA n size v l h)
 | .slice3 size x lo hi mx=>evX ts x λv=>ym ts lo λl=>ym ts hi λh=>evX ts mx λu=>k (.slice3 size v l h u)
 | .r1 q x=>evX ts x λv=>k (.r1 q v)
 | .r2 q x y=>evX ts x λv=>evX ts y λu=>k (.r2 q v u)
 | _=>none
theorem evReq_eq (ts:List Value) (op:AOp) (k:Req->O):qgh ts op k=(op.req ts).bind k:=by
 cases op<;>simp only [qgh,evX_eq,evXO_eq,AOp.req,Option.map_eq_bind,Option.bind_assoc,Option.bind_some,Function.comp_def,Option.bind_none]
def gdq (v:Value) (w:Bool) (lh:Nat × Nat) (o:Option Req) (m:Mem):Option (Value × List Rq) :=
 if qbI v w=true then o.bind λq=>(q.run m).map λu=>(u,[(q,u,lh)]) else some (undef,[])
def evD (call:zi):List AOper->List (Nat × Nat)->List Value->Mem->List Mem->List Rq->(List Value->Mem->O)->O
 | [],_,ts,m,ms,rq,k=>chk (ms++[m]) rq (k ts m)
 | ⟨d,op,none⟩::r,lh,ts,m,ms,rq,k=>match op.cls with
  | .eff=>HD call ts m (λv m'=>evD call r lh.tail (xX ts d v) m' (ms++[m]) rq k) op
  | .read=>qgh ts op λq=>(q.run m).bind λv=>evD call r lh.tail (xX ts d v) m ms (rq++[(q,v,lh.headD (0,0))]) k
  | .pure=>HD call ts m (λv _=>evD call r lh.tail (xX ts d v) m ms rq k) op
 | ⟨d,op,some (t,w)⟩::r,lh,ts,m,ms,rq,k=>match op.cls with
  | .eff=>(gdo (avT ts t) w (HD call ts m (λv m'=>some (v,m')) op) m).bind λp=>evD call r lh.tail (xX ts d p.1) p.2 (ms++[m]) rq k
  | .read=>(gdq (avT ts t) w (lh.headD (0,0)) (op.req ts) m).bind λp=>evD call r lh.tail (xX ts d p.1) m ms (rq++p.2) k
  | .pure=>(gdo (avT ts t) w (HD call ts m (λv m'=>some (v,m')) op) m).bind λp=>evD call r lh.tail (xX ts d p.1) m ms rq k
theorem evD_eq (call:zi):∀ (ops:List AOper) (lh:List (Nat × Nat)) (ts:List Value) (m:Mem) (ms:List Mem) (rq:List Rq) (k:List Value->Mem->O),
  evD call ops lh ts m ms rq k=(xO call ops lh ts m).bind λx=>chk (ms++x.2.2.1) (rq++x.2.2.2) (k x.1 x.2.1)
 | [],lh,ts,m,ms,rq,k=>by simp [evD,xO]
 | ⟨d,op,none⟩::r,lh,ts,m,ms,rq,k=>by
  simp only [evD,xO,zg,if_true];cases hc:op.cls with
  | eff =>
   simp only [evOp_eq,Option.bind_assoc];congr 1; funext p;rw [evD_eq call r];simp [Option.bind_map,Function.comp_def]
  | read =>
   simp only [evReq_eq,Option.bind_assoc];congr 1; funext q; congr 1; funext v;rw [evD_eq call r];simp [Option.bind_map,Function.comp_def]
  | pure =>
   have hn:op.vy=false:=by cases op<;>first|rfl|cases hc
   simp only [evOp_eq,zH call ts m hn,Option.bind_assoc];congr 1; funext p;exact evD_eq call r _ _ _ _ _ _
 | ⟨d,op,some (t,w)⟩::r,lh,ts,m,ms,rq,k=>by
  have hid:∀ o:O,(o.bind λp=>some (p.1,p.2))=o:=by intro o; cases o<;>rfl
  simp only [evD,xO,evOp_eq,gdo,wantV_eq];cases hc:op.cls with
  | eff =>
   simp only;split
   ·rw [hid,Option.bind_assoc];congr 1; funext p;rw [evD_eq call r];simp [Option.bind_map,Function.comp_def]
   ·simp only [Option.bind_some];rw [evD_eq call r];simp [Option.bind_map,Function.comp_def]
  | read =>
   simp only [gdq,wantV_eq];split
   ·simp only [Option.bind_assoc,Option.map_eq_bind,Function.comp_def,Option.bind_some];congr 1; funext q; congr 1; funext v;rw [evD_eq call r];simp [Option.bind_map,Function.comp_def]
   ·simp only [Option.bind_some,List.append_nil];exact evD_eq call r _ _ _ _ _ _
  | pure =>
   simp only;split
   ·have hn:op.vy=false:=by cases op<;>first|rfl|cases hc
    rw [hid,zH call ts m hn,Option.bind_assoc];congr 1; funext p;exact evD_eq call r _ _ _ _ _ _
   ·simp only [Option.bind_some];exact evD_eq call r _ _ _ _ _ _
def Xt (ts:List Value) (m:Mem):List ARes->(List Value->O)->O
 | [],k=>k []
 | .tmp t::r,k=>Xt ts m r λl=>k (avT ts t::l)
 | .cell a none::r,k=>(qa (avT ts a) m).bind λv=>Xt ts m r λl=>k (v::l)
 | .cell a (some n)::r,k=>(qk n (avT ts a) m).bind λv=>Xt ts m r λl=>k (v::l)
def fin (rs:List ARes) (ts:List Value) (m:Mem):O:=Xt ts m rs λl=>some (oneOf l,m)
theorem evRes_eq (ts:List Value) (m:Mem):∀ (rs:List ARes) (k:List Value->O),Xt ts m rs k=(jV ts m rs).bind k
 | [],_=>rfl
 | r::rs,k=>by
  have go:∀ o:Option Value,(o.bind λv=>(jV ts m rs).bind λl=>k (v::l))=(match o,jV ts m rs with|some v,some l=>some (v::l)|_,_=>none).bind k:=by
   intro o;cases o with
   | none=>rfl
   | some v=>cases jV ts m rs<;>rfl
  cases r with
  | tmp t=>simp only [Xt,evRes_eq ts m rs,jV,JI]; exact go (some _)
  | cell a n=>cases n with
   | none=>simp only [Xt,evRes_eq ts m rs,jV,JI]; exact go _
   | some n=>simp only [Xt,evRes_eq ts m rs,jV,JI]; exact go _
theorem fin_eq (rs:List ARes) (ts:List Value) (m:Mem):fin rs ts m=(jV ts m rs).map λl=>(oneOf l,m):=by
 simp only [fin,evRes_eq,Option.map_eq_bind,Function.comp_def]
section
variable (S:zi) (tab:Tab) (rs:List ARes)
noncomputable def runK:Ks->AEx->List Value->Mem->O
 | [],.exit _,_,_=>none
 | [],.normal,ts,m=>fin rs ts m
 | [],.ret,ts,m=>fin rs ts m
 | .code c::K,.normal,ts,m=>(jU S tab c ts m).bind λr=>runK K r.1 r.2.1 r.2.2
 | .code _::K,.exit j,ts,m=>runK K (.exit j) ts m
 | .code _::K,.ret,ts,m=>runK K .ret ts m
 | .blk id::K,.exit j,ts,m=>if j=id then runK K .normal ts m else runK K (.exit j) ts m
 | .blk _::K,.normal,ts,m=>runK K .normal ts m
 | .blk _::K,.ret,ts,m=>runK K .ret ts m
 | .loop a::K,.normal,ts,m=>(jU S tab (.loop a) ts m).bind λr=>runK K r.1 r.2.1 r.2.2
 | .loop _::K,.exit j,ts,m=>runK K (.exit j) ts m
 | .loop _::K,.ret,ts,m=>runK K .ret ts m
noncomputable def XK (c:ACode) (K:Ks) (ts:List Value) (m:Mem):O:=(jU S tab c ts m).bind λr=>runK S tab rs K r.1 r.2.1 r.2.2
noncomputable def Pt (K:Ks) (ts:List Value) (m:Mem):O:=runK S tab rs K .normal ts m
def JJ (rs:List ARes) (L:Nat):Nat:=lks (rs.map λr=>match r with|.tmp t=>t|.cell a _=>a) L
def Zk:Ks->Option (Nat × Env × Nat)
 | []=>some (JJ rs 0,[],JJ rs 0)
 | .code c::K=>(Zk K).bind λx=>(vK c x.1 x.2.1 x.2.2).map λL=>(L,x.2)
 | .blk id::K=>(Zk K).map λx=>(x.1,(id,x.1)::x.2.1,x.2.2)
 | .loop a::K=>(Zk K).bind λx=>(vK (.loop a) x.1 x.2.1 x.2.2).map λL=>(L,x.2)
def QS (L:Nat):Nat->List Value->List Value
 | _,[]=>[]
 | i,v::r=>(if L.testBit i then v else undef)::QS L (i+1) r
def qix (K:Ks) (ts:List Value):List Value:=match Zk rs K with
 | some x=>QS x.1 0 ts
 | none=>ts
noncomputable def jmp (K:Ks) (ts:List Value) (m:Mem):O:=Pt S tab rs K (qix rs K ts) m
def nE (id:Nat):ACode->Nat
 | .exit j=>if j=id then 1 else 0
 | .seq a b=>nE id a+nE id b
 | .cond _ a b=>nE id a+nE id b
 | .block j a=>if j=id then 0 else nE id a
 | _=>0
def nN:ACode->Nat
 | .skip|.region _|.draw _ _|.drawF _ _=>1
 | .seq a b=>if nN a=0 then 0 else nN b
 | .cond _ a b=>nN a+nN b
 | .block id a=>nN a+nE id a
 | _=>0
def Wj:ACode->Bool->Bool
 | .skip,s=>s
 | .ret,_=>true
 | .loop _,_=>true
 | .region ops,s=>s&&decide (ops.length<=4)
 | .seq (.region ops) b,s=>decide (ops.length<=4)&&Wj b s
 | _,_=>false
def strip:Ks->Ks
 | .blk _::K=>strip K
 | .code (.loop a)::K=>.loop a::K
 | .code .skip::K=>strip K
 | K=>K
structure Cont where
 n:List Value->Mem->O
 e:Nat->List Value->Mem->O
 r:List Value->Mem->O
 s:Bool
noncomputable def evC:ACode->Ks->Cont->List Value->Mem->O
 | .skip,_,k,ts,m=>k.n ts m
 | .region ops,_,k,ts,m=>Vt (Call S tab) ops ts m k.n
 | .draw ops lh,_,k,ts,m=>evD (Call S tab) ops lh ts m [] [] k.n
 | .drawF ops lh,_,k,ts,m=>evD (Call S tab) (ops.map (jz m.next)) lh ts (m.zt ops.length) [] [] k.n
 | .seq a b,K,k,ts,m =>
  if nN a<=1||Wj b k.s then evC a (.code b::K) ⟨evC b K k,k.e,k.r,Wj b k.s⟩ ts m
  else evC a (.code b::K) ⟨jmp S tab rs (strip (.code b::K)),k.e,k.r,true⟩ ts m
 | .cond c a b,K,k,ts,m=>evX ts c λv=>cnd v (evC a K k ts m) (evC b K k ts m)
 | .block id a,K,k,ts,m =>
  if nN a+nE id a<=1||k.s then evC a (.blk id::K) ⟨k.n,λj=>if j=id then k.n else k.e j,k.r,k.s⟩ ts m
  else evC a (.blk id::K) ⟨jmp S tab rs (strip K),λj=>if j=id then jmp S tab rs (strip K) else k.e j,k.r,true⟩ ts m
 | .loop a,K,_,ts,m=>jmp S tab rs (.loop a::K) ts m
 | .exit id,_,k,ts,m=>k.e id ts m
 | .ret,_,k,ts,m=>k.r ts m
 | .stop,_,_,_,_=>none
noncomputable def xB:Ks->Cont
 | []=>⟨fin rs,λ_ _ _=>none,fin rs,true⟩
 | .code c::K=>if Wj c (xB K).s then ⟨evC S tab rs c K (xB K),(xB K).e,(xB K).r,true⟩ else ⟨jmp S tab rs (strip (.code c::K)),(xB K).e,(xB K).r,true⟩
 | .blk id::K=>⟨(xB K).n,λj=>if j=id then (xB K).n else (xB K).e j,(xB K).r,(xB K).s⟩
 | .loop a::K=>⟨jmp S tab rs (.loop a::K),(xB K).e,(xB K).r,true⟩
noncomputable def qlj:Ks->List Value->Mem->O
 | .loop a::K=>evC S tab rs a (.loop a::K) ⟨jmp S tab rs (.loop a::K),(xB S tab rs K).e,(xB S tab rs K).r,true⟩
 | .code c::K=>evC S tab rs c K (xB S tab rs K)
 | K=>(xB S tab rs K).n
end
section
variable {S:zi} {tab:Tab} {rs:List ARes}
theorem Vj (L:Nat):∀ (ts:List Value) (i t:Nat),(QS L i ts)[t]? = (ts[t]?).map λv=>if L.testBit (i+t) then v else undef
 | [],i,t=>by simp [QS]
 | v::r,i,0=>by simp [QS]
 | v::r,i,t+1=>by simp only [QS,List.getElem?_cons_succ,Vj L r (i+1) t]; rw [show i+1+t=i+(t+1) by omega]
theorem QR (L:Nat):∀ (ts:List Value) (i:Nat),(QS L i ts).length=ts.length
 | [],_=>rfl
 | _::r,i=>by simp [QS,QR L r]
theorem Hp (L:Nat) (ts:List Value):AgM L (QS L 0 ts) ts:=by
 intro t ht;rw [Vj,Nat.zero_add,ht];cases ts[t]?<;>rfl
theorem HC {ts us:List Value} {m:Mem} (h:AgM (JJ rs 0) ts us):fin rs ts m=fin rs us m:=by
 simp only [fin_eq];congr 1;have ha:=h.agree;have:∀ l:List ARes,(∀ r∈l,r∈rs)->jV ts m l=jV us m l:=by
  intro l
  induction l with
  | nil=>intro _; rfl
  | cons r l ih =>
   intro hl;have hr:JI ts m r=JI us m r:=by
    have hm:=hl r (List.mem_cons_self ..);cases r with
    | tmp t=>simp only [JI]; rw [ha t (List.mem_map.2 ⟨_,hm,rfl⟩)]
    | cell a n=>cases n<;>· simp only [JI]; rw [ha a (List.mem_map.2 ⟨_,hm,rfl⟩)]
   simp only [jV];rw [hr,ih (λr h=>hl r (List.mem_cons_of_mem _ h))]
 exact this rs (λr h=>h)
theorem qiK {N:Nat} {E:Env} {R:Nat} {a b:Option Out} (h:RO N E R a b) {f:AEx->List Value->Mem->O} (hf:∀ e ts us m,ts.length=us.length->AgM (we N E R e) ts us->f e ts m=f e us m) :
  (a.bind λr=>f r.1 r.2.1 r.2.2)=b.bind λr=>f r.1 r.2.1 r.2.2:=by
 cases a with
 | none=>cases b with
  | none=>rfl
  | some _=>exact h.elim
 | some x=>cases b with
  | none=>exact h.elim
  | some y =>
   obtain ⟨e,ts,m⟩:=x;obtain ⟨e',us,m'⟩:=y;obtain ⟨rfl,rfl,h3,h4⟩:=h;exact hf _ _ _ _ h3 h4
theorem yA:∀ (K:Ks) (N:Nat) (E:Env) (R:Nat),Zk rs K=some (N,E,R)->∀ (e:AEx) (ts us:List Value) (m:Mem),ts.length=us.length->AgM (we N E R e) ts us->runK S tab rs K e ts m=runK S tab rs K e us m
 | [],N,E,R,h,e,ts,us,m,hl,ha=>by
  simp only [Zk,Option.some.injEq,Prod.mk.injEq] at h;obtain ⟨rfl,rfl,rfl⟩:=h;cases e with
  | normal=>exact HC ha
  | exit _=>rfl
  | ret=>exact HC ha
 | .code c::K,N,E,R,h,e,ts,us,m,hl,ha=>by
  simp only [Zk,Option.bind_eq_some_iff,Option.map_eq_some_iff,Prod.mk.injEq] at h;obtain ⟨⟨N',E',R'⟩,hK,L,hL,rfl,rfl,rfl⟩:=h;have ih:=yA K N' E R hK;cases e with
  | normal=>exact qiK (VI hL hl ha) ih
  | exit j=>exact ih (.exit j) _ _ _ hl ha
  | ret=>exact ih .ret _ _ _ hl ha
 | .blk id::K,N,E,R,h,e,ts,us,m,hl,ha=>by
  simp only [Zk,Option.map_eq_some_iff,Prod.mk.injEq] at h;obtain ⟨⟨N',E',R'⟩,hK,rfl,rfl,rfl⟩:=h;have ih:=yA K N' E' R' hK;cases e with
  | normal=>exact ih .normal _ _ _ hl ha
  | exit j =>
   simp only [runK];simp only [we,lkp] at ha;split
   ·rename_i hj;rw [if_pos hj] at ha;exact ih .normal _ _ _ hl ha
   ·rename_i hj;rw [if_neg hj] at ha;exact ih (.exit j) _ _ _ hl ha
  | ret=>exact ih .ret _ _ _ hl ha
 | .loop a::K,N,E,R,h,e,ts,us,m,hl,ha=>by
  simp only [Zk,Option.bind_eq_some_iff,Option.map_eq_some_iff,Prod.mk.injEq] at h;obtain ⟨⟨N',E',R'⟩,hK,L,hL,rfl,rfl,rfl⟩:=h;have ih:=yA K N' E R hK;cases e with
  | normal=>exact qiK (VI hL hl ha) ih
  | exit j=>exact ih (.exit j) _ _ _ hl ha
  | ret=>exact ih .ret _ _ _ hl ha
theorem jmp_eq (K:Ks) (ts:List Value) (m:Mem):jmp S tab rs K ts m=Pt S tab rs K ts m:=by
 simp only [jmp,qix];split
 ·rename_i x h;exact yA K x.1 x.2.1 x.2.2 h .normal _ _ m (QR ..) (Hp _ _)
 ·rfl
theorem yt:∀ (K:Ks) (ts:List Value) (m:Mem),Pt S tab rs (strip K) ts m=Pt S tab rs K ts m
 | [],ts,m=>by simp only [strip]
 | .blk id::K,ts,m=>by
  simp only [strip];rw [yt K]; rfl
 | .loop a::K,ts,m=>by simp only [strip]
 | .code c::K,ts,m=>by
  cases c with
  | loop a=>rfl
  | skip =>
   simp only [strip];rw [yt K];simp only [Pt,runK,VH,Option.bind_some]
  | _=>simp only [strip]
structure Cont.Ok (S:zi) (tab:Tab) (rs:List ARes) (k:Cont) (K:Ks):Prop where
 n:∀ ts m,k.n ts m=runK S tab rs K .normal ts m
 e:∀ j ts m,k.e j ts m=runK S tab rs K (.exit j) ts m
 r:∀ ts m,k.r ts m=runK S tab rs K .ret ts m
theorem WL:∀ (c:ACode) (K:Ks) (k:Cont),k.Ok S tab rs K->∀ ts m,evC S tab rs c K k ts m=XK S tab rs c K ts m:=by
 intro c
 induction c with
 | skip=>intro K k hk ts m; simp only [evC,XK,VH,Option.bind_some,hk.n]
 | exit id=>intro K k hk ts m; simp only [evC,XK,qeh,Option.bind_some,hk.e]
 | ret=>intro K k hk ts m; simp only [evC,XK,qgU,Option.bind_some,hk.r]
 | stop =>
  intro K k hk ts m;have:jU S tab .stop ts m=none:=by
   cases h:jU S tab .stop ts m with
   | none=>rfl
   | some r=>obtain ⟨n,hn⟩:=zq.1 h; cases hn
  simp only [evC,XK,this,Option.bind_none]
 | region ops =>
  intro K k hk ts m;simp only [evC,XK,evOps_eq,qag,Option.map_eq_bind,Option.bind_assoc,Function.comp_def,Option.bind_some];congr 1; funext p; exact hk.n _ _
 | draw ops lh =>
  intro K k hk ts m;simp only [evC,XK,evD_eq,qei,kN,Option.map_eq_bind,Option.bind_assoc,Function.comp_def,Option.bind_some,List.nil_append,chk];congr 1; funext p;split
  ·simp only [Option.bind_some]; exact hk.n _ _
  ·rfl
 | drawF ops lh =>
  intro K k hk ts m;simp only [evC,XK,evD_eq,qbG,kN,Option.map_eq_bind,Option.bind_assoc,Function.comp_def,Option.bind_some,List.nil_append,chk];congr 1; funext p;split
  ·simp only [Option.bind_some]; exact hk.n _ _
  ·rfl
 | seq a b iha ihb =>
  intro K k hk ts m;have main:XK S tab rs (.seq a b) K ts m=XK S tab rs a (.code b::K) ts m:=by
   simp only [XK,qgT,andThen,Option.bind_assoc];congr 1; funext r;obtain ⟨e,ts',m'⟩:=r;cases e<;>rfl
  rw [main];simp only [evC];split
  ·refine iha (.code b::K) _ ?_ ts m;exact ⟨λts m=>ihb K k hk ts m,λj ts m=>hk.e j ts m,λts m=>hk.r ts m⟩
  ·refine iha (.code b::K) _ ?_ ts m;exact ⟨λts m=>by simp only [jmp_eq,yt]; rfl,λj ts m=>hk.e j ts m,λts m=>hk.r ts m⟩
 | cond c a b iha ihb =>
  intro K k hk ts m;simp only [evC,XK,evX_eq,qej];cases zc ts c with
  | none=>rfl
  | some v =>
   simp only [Option.bind_some];rw [iha K k hk,ihb K k hk];cases v with
   | bool t=>cases t<;>rfl
   | _=>rfl
 | block id a ih =>
  intro K k hk ts m;have main:XK S tab rs (.block id a) K ts m=XK S tab rs a (.blk id::K) ts m:=by
   simp only [XK,qbH,Option.map_eq_bind,Option.bind_assoc,Function.comp_def,Option.bind_some];congr 1; funext r;obtain ⟨e,ts',m'⟩:=r;cases e with
   | normal=>rfl
   | ret=>rfl
   | exit j =>
    simp only [qbL,runK];split<;>rfl
  rw [main];simp only [evC];split
  ·refine ih (.blk id::K) _ ?_ ts m;refine ⟨λts m=>hk.n ts m,λj ts m=>?_,λts m=>hk.r ts m⟩;simp only [runK];split
   ·exact hk.n ts m
   ·exact hk.e j ts m
  ·have hj:∀ ts m,jmp S tab rs (strip K) ts m=runK S tab rs K .normal ts m:=λts m=>by rw [jmp_eq,yt]; rfl
   refine ih (.blk id::K) _ ?_ ts m;refine ⟨hj,λj ts m=>?_,λts m=>hk.r ts m⟩;simp only [runK];split
   ·exact hj ts m
   ·exact hk.e j ts m
 | loop a ih =>
  intro K k hk ts m;simp only [evC,jmp_eq];rfl
theorem qdz (a:ACode) (K:Ks) (ts:List Value) (m:Mem):runK S tab rs (.loop a::K) .normal ts m=XK S tab rs a (.loop a::K) ts m:=by
 simp only [runK,XK];rw [qeg];simp only [andThen,Option.bind_assoc];congr 1; funext r;obtain ⟨e,ts',m'⟩:=r;cases e<;>rfl
theorem kD:∀ K:Ks,(xB S tab rs K).Ok S tab rs K
 | []=>⟨λ_ _=>rfl,λ_ _ _=>rfl,λ_ _=>rfl⟩
 | .code c::K=>by
  have ih:=kD K;simp only [xB];split
  ·exact ⟨λts m=>WL c K _ ih ts m,λj ts m=>ih.e j ts m,λts m=>ih.r ts m⟩
  ·exact ⟨λts m=>by simp only [jmp_eq,yt]; rfl,λj ts m=>ih.e j ts m,λts m=>ih.r ts m⟩
 | .blk id::K=>by
  have ih:=kD K;refine ⟨λts m=>ih.n ts m,λj ts m=>?_,λts m=>ih.r ts m⟩;simp only [xB,runK];split
  ·exact ih.n ts m
  ·exact ih.e j ts m
 | .loop a::K=>by
  have ih:=kD K;exact ⟨λts m=>by simp only [xB,jmp_eq]; rfl,λj ts m=>ih.e j ts m,λts m=>ih.r ts m⟩
theorem qR (K:Ks) (ts:List Value) (m:Mem):Pt S tab rs K ts m=qlj S tab rs K ts m:=by
 cases K with
 | nil=>rfl
 | cons f K =>
  cases f with
  | code c=>exact (WL c K _ (kD K) ts m).symm
  | blk id=>exact ((kD (S:=S) (tab:=tab) (rs:=rs) (.blk id::K)).n ts m).symm
  | loop a =>
   have ih:=kD (S:=S) (tab:=tab) (rs:=rs) K;refine Eq.trans (qdz a K ts m) (Eq.symm ?_);refine WL a (.loop a::K) _ ?_ ts m;exact ⟨λts m=>by simp only [jmp_eq]; rfl,λj ts m=>ih.e j ts m,λts m=>ih.r ts m⟩
theorem ql {f:FuncId} {fn:AFunc} (hf:tab f=some fn) (args:List Value) (m:Mem) (hS:S f args m=none) :
  Call S tab f args m=evC S tab fn.results fn.body [] (xB S tab fn.results []) (args++List.replicate (fn.ntmps - args.length) undef) m:=by
 rw [Call_eq hf args m hS,WL _ _ _ (kD [])];simp only [leave,XK];congr 1; funext r;obtain ⟨e,ts,m'⟩:=r;cases e with
 | normal=>simp only [runK,fin_eq]
 | exit j=>rfl
 | ret=>simp only [runK,fin_eq]
end
def XU:List Nat->ACode->Ks->Option Ks
 | [],.loop a,K=>some (.loop a::K)
 | [],c,K=>some (.code c::K)
 | 0::p,.seq a b,K=>XU p a (.code b::K)
 | 1::p,.seq _ b,K=>XU p b K
 | 0::p,.cond _ a _,K=>XU p a K
 | 1::p,.cond _ _ b,K=>XU p b K
 | 0::p,.block id a,K=>XU p a (.blk id::K)
 | 0::p,.loop a,K=>XU p a (.loop a::K)
 | _,_,_=>none
def qeD (P:Program):Tab:=λf=>if zW P f=true then qcw P f else none
def qK (P:Program) (f:FuncId):AFunc:=(qcw P f).getD ⟨0,.stop,[]⟩
theorem qhm (P:Program):qac P (qeD P):=by
 intro f x h;unfold qeD at h;split at h
 ·exact h
 ·cases h
theorem qcZ (P:Program):∀ f x,qeD P f=some x->zW P f=true:=by
 intro f x h;unfold qeD at h;split at h
 ·assumption
 ·cases h
def at' (fn:AFunc) (p:List Nat):Ks:=(XU p fn.body []).getD []
end Go.Fx
namespace Go.Fx
open Go
section
variable (call:zi) (jp:Ks->List Value->Mem->O)
variable (rs:List ARes)
end
end Go.Fx
namespace Go.Fx
open Go Go.RowKit
theorem Inv.qcz {φ:Ren} {m:Mem} {w w':World} (h:Inv φ m w) (hb:Below w.heap.size w w'):Inv φ m w'/\Frm φ m w φ m w':=by
 refine ⟨⟨λb x hx=>?_,h.apart,λb l hl=>⟨(h.below b l hl).1,Nat.lt_of_lt_of_le (h.below b l hl).2 hb.size⟩⟩,Ren.le_refl φ,hb.size,λB hB _=>hb.block B hB,λb x l hx hl hr=>.inr ⟨b,x,l,hx,hl,hr,rfl⟩,hb.os,hb.output,hb.tape,Nat.le_refl _,λ_ _=>rfl,λ_ _ h=>h,λb x l hx hl=>.inr ⟨b,x,l,hx,hl,rfl⟩⟩;obtain ⟨l,hl,ok⟩:=h.live b x hx;exact ⟨l,hl,ok.congr (hb.block l.blk (h.below b l hl).2)⟩
theorem vj {P:Program} {φ:Ren} {m:Mem} {w:World} {f:FuncId} {args:Array Value} {v V:Value} (hi:Inv φ m w) (hv:VR φ v V) (h:Calls P f args w λe w'=>e=.returned V/\Below w.heap.size w w') :
  vP P φ m w f args v m:=by
 refine h.mono ?_
 rintro e w' ⟨rfl,hb⟩
 obtain ⟨h1,h2⟩:=hi.qcz hb;exact ⟨V,φ,rfl,hv,h1,h2⟩
theorem VRs.two {φ:Ren} {a b:Value} {ARGS:Array Value} (h:VRs φ [a,b] ARGS.toList):∃ A B,ARGS=#[A,B]/\VR φ a A/\VR φ b B:=by
 obtain ⟨l⟩:=ARGS;obtain ⟨h1,h2⟩:=h
 match l,h1 with
 | [A,B],_=>exact ⟨A,B,rfl,h2 0 a A rfl rfl,h2 1 b B rfl rfl⟩
theorem VRs.qlh {φ:Ren} {a:Value} {ARGS:Array Value} (h:VRs φ [a] ARGS.toList):∃ A,ARGS=#[A]/\VR φ a A:=by
 obtain ⟨l⟩:=ARGS;obtain ⟨h1,h2⟩:=h
 match l,h1 with
 | [A],_=>exact ⟨A,rfl,h2 0 a A rfl rfl⟩
end Go.Fx
namespace Go.Fx.Tryz
open Go Go.Fx Go.Proofs Go.RowKit Go.Lib
noncomputable abbrev P:Program:=Tryz.prog
noncomputable abbrev IP:Program:=Tryz.prog
theorem mixed:P.follows .mixedOrders=true:=by kernel_rfl
theorem qek (N k:Nat) (hk:k<1000):¬ (yBase+N:FuncId)=k:=by
 intro h;have h1:yBase+N=k:=h;have h2:1000<yBase:=by decide
 omega
noncomputable abbrev tab:Tab:=qeD P
theorem tabOk:qac P tab:=qhm P
theorem tabGood:∀ f x,tab f=some x->zW P f=true:=qcZ P
section
theorem Qa:IP.underlying 39=some (TypeDesc.slice 81):=by kernel_rfl
theorem qfs:IP.underlying 3=some (TypeDesc.int IntKind.i64):=by kernel_rfl
theorem qhO:IP.underlying 4=some TypeDesc.bool:=by kernel_rfl
theorem qiE:∀ w,(isAgg 39).run IP w=.ok false w:=λw=>by kernel_rfl
theorem qiC:∀ w,(Go.sizeOf 39).run IP w=.ok 1 w:=λw=>by kernel_rfl
theorem qfr:∀ w,(Go.sizeOf 81).run IP w=.ok 2 w:=λw=>by kernel_rfl
theorem qcp:(IP.info? 81).map (·.size)=some 2:=by kernel_rfl
theorem qkF:(IP.info? 81).map (λi=>(i.zero,i.size,i.bytes))=some (some (Value.agg #[Value.string { data:=#[] },Value.string { data:=#[] }]),2,32):=by kernel_rfl
theorem qco:IP.follows .mixedOrders=true:=by kernel_rfl
theorem qcn:insFn.ntmps=95:=rfl
theorem wA {P:Program} {w w':World} {dT sT ty elem:TypeId} {s b o dLen dCap sLen sCap:Nat} {a:Addr} {cs:List Value} (hu:P.underlying dT=some (.slice elem)) (hs:(P.info? elem).map (·.size)=some s)
  (hl:(Go.loadCells a (Nat.min sLen dLen * s)).run P w=.ok cs.toArray w) (hst:(Go.storeCells ⟨b,o,none⟩ cs).run P w=.ok () w') :
  (Builtin.copy_ #[dT,sT] ty #[.slice (some ⟨b,o,none⟩) dLen dCap,.slice (some a) sLen sCap]).run P w=.ok (goInt (Nat.min sLen dLen)) w':=by
 cases hq:P.info? elem with
 | none=>simp [hq] at hs
 | some i =>
  have hi:i.size=s:=by simpa [hq] using hs
  simp [Builtin.copy_,run_underlying hu,Builtin.lenOf,Builtin.firstCells,sizeOf,typeInfo,hq,hi,hl,hst]
set_option maxHeartbeats 4000000 in
set_option maxRecDepth 100000 in
theorem qfn (b off n c i vb voff m vc:Nat) (w w1 w2:World) (hi:i<n) (hm:0<m) (hroom:n+m<=c) (hc63:n+m<=4611686018427387904)
  (hov:∀ lb cb,(callFunc 178 #[.slice (some ⟨vb,voff,none⟩) m vc,.slice (some ⟨b,off+(i+m) * 2,none⟩) lb cb]).run IP w=.ok (.value (.bool false)) w)
  (hcp1:∀ ty dc sc,(Builtin.copy_ #[39,39] ty #[.slice (some ⟨b,off+(i+m) * 2,none⟩) (n+m - (i+m)) dc,.slice (some ⟨b,off+i * 2,none⟩) (n+m - i) sc]).run IP w.drew=.ok (goInt ((n - i:Nat):Int)) w1)
  (hcp2:∀ ty dc,(Builtin.copy_ #[39,39] ty #[.slice (some ⟨b,off+i * 2,none⟩) (n+m - i) dc,.slice (some ⟨vb,voff,none⟩) m vc]).run IP w1=.ok (goInt m) w2) :
  Calls IP 132 #[.slice (some ⟨b,off,none⟩) n c,.int .i64 i,.slice (some ⟨vb,voff,none⟩) m vc] w λe w' =>
   e=.returned (.slice (some ⟨b,off,none⟩) (n+m) c)/\w'=w2:=by
 have u3:=run_underlying qfs; have u4:=run_underlying qhO; have u32:=run_underlying Qa;have t32:=Qa; have t3:=qfs; have t4:=qhO; have a32:=qiE; have z32:=qiC; have z61:=qfr; have mixed:=qco;have hz1:¬ ((m:Int)=0):=by omega
 have hz2:¬ ((i:Int)=(n:Int)):=by omega
 have hw1:IntKind.i64.wrap ((i:Int)+(m:Int))=(i:Int)+(m:Int):=by rw [IntKind.wrap_i64]; omega
 have hb1:(0:Int)<=(i:Int)+(m:Int):=by omega
 have hin:i<=n:=by omega
 have htn:((i:Int)+(m:Int)).toNat=i+m:=by omega
 have hb2:¬ (c=i+m):=by omega
 have hb3:(i:Int)<=(n:Int)+(m:Int):=by omega
 have hb4:¬ (c=i):=by omega
 go_enter qfq,qcn
 go_wp2_with (simp only [hov])
 go_region_law_o (refine step_copy_runI rfl _ _ 39 39 rfl _ _ (by simp [Act.eval,Act.put]) (by simp [Act.eval,Act.put]) (hcp1 _ _ _) ?_)
 go_wp2_with (at_builtin; refine wpList_copy_runI _ rfl _ _ 39 39 rfl _ _ rfl rfl (hcp2 _ _) ?_)
 go_ret
 exact ⟨rfl,rfl⟩
set_option maxHeartbeats 4000000 in
set_option maxRecDepth 100000 in
theorem qfp (b off n c i vb voff m vc N G:Nat) (w w1 w2 w3:World) (hi:i<n) (hm:0<m) (hnc:n<=c) (hroom:c<n+m) (hc63:n+m<=4611686018427387904) (hGn:n+m<=G)
  (hrz:∀ ty,(Builtin.append_ #[39,3] ty #[.slice (some ⟨b,off,none⟩) i c,.int .i64 ((n:Int)+(m:Int) - (i:Int))]).run IP w=.ok (.slice (some ⟨N,0,none⟩) (n+m) G) w1)
  (hcpA:∀ ty dc,(Builtin.copy_ #[39,39] ty #[.slice (some ⟨N,i * 2,none⟩) (n+m - i) dc,.slice (some ⟨vb,voff,none⟩) m vc]).run IP w1=.ok (goInt m) w2)
  (hcpB:∀ ty dc sc,(Builtin.copy_ #[39,39] ty #[.slice (some ⟨N,(i+m) * 2,none⟩) (n+m - (i+m)) dc,.slice (some ⟨b,off+i * 2,none⟩) (n - i) sc]).run IP w2.drew=.ok (goInt ((n - i:Nat):Int)) w3) :
  Calls IP 132 #[.slice (some ⟨b,off,none⟩) n c,.int .i64 i,.slice (some ⟨vb,voff,none⟩) m vc] w λe w' =>
   e=.returned (.slice (some ⟨N,0,none⟩) (n+m) G)/\w'=w3:=by
 have u3:=run_underlying qfs; have u4:=run_underlying qhO; have u32:=run_underlying Qa;have t32:=Qa; have t3:=qfs; have t4:=qhO; have a32:=qiE; have z32:=qiC; have z61:=qfr; have mixed:=qco;have hz1:¬ ((m:Int)=0):=by omega
 have hz2:¬ ((i:Int)=(n:Int)):=by omega
 have hz3:(c:Int)<(n:Int)+(m:Int):=by omega
 have hGi:¬ (G=i):=by omega
 have hGim:¬ (G=i+m):=by omega
 have hci:¬ (c=i):=by omega
 have hw1:IntKind.i64.wrap ((i:Int)+(m:Int))=(i:Int)+(m:Int):=by rw [IntKind.wrap_i64]; omega
 have hb1:(0:Int)<=(i:Int)+(m:Int):=by omega
 have hin:i<=n:=by omega
 have htn:((i:Int)+(m:Int)).toNat=i+m:=by omega
 have hb3:(i:Int)<=(n:Int):=by omega
 go_enter qfq,qcn
 go_wp2_with (first
  | (at_builtin; refine Lib.wpList_append_run _ rfl _ _ _ _ rfl _ _ rfl rfl _ _ (hrz _) ?_)
  | (at_builtin; refine wpList_copy_runI _ rfl _ _ 39 39 rfl _ _ rfl rfl (hcpA _ _) ?_))
 go_region_law_o (refine step_copy_runI rfl _ _ 39 39 rfl (.slice (some ⟨N,(i+m) * 2,none⟩) (n+m - (i+m)) (G - (i+m))) (.slice (some ⟨b,off+i * 2,none⟩) (n - i) (c - i)) (by simp [Act.eval,Act.put]) (by simp [Act.eval,Act.put]) (hcpB 3 (G - (i+m)) (c - i)) ?_)
 go_wp2
 go_ret
 exact ⟨rfl,rfl⟩
theorem VRs.three {φ:Go.Fx.Ren} {a b c:Value} {ARGS:Array Value} (h:VRs φ [a,b,c] ARGS.toList):∃ A B C,ARGS=#[A,B,C]/\VR φ a A/\VR φ b B/\VR φ c C:=by
 obtain ⟨l⟩:=ARGS;obtain ⟨h1,h2⟩:=h
 match l,h1 with
 | [A,B,C],_=>exact ⟨A,B,C,rfl,h2 0 a A rfl rfl,h2 1 b B rfl rfl,h2 2 c C rfl rfl⟩
def XP (l:List Value) (m:Mem):Option (Value × Mem):=match l with
 | [.slice (some ⟨b,off,none⟩) n c,.int .i64 i,.slice (some ⟨vb,voff,none⟩) 1 vc] =>
  match m.get b with
  | some ⟨.cells cs e,false,some 2⟩ =>
   match m.get vb with
   | some ⟨.cells vs _,false,none⟩ =>
    if 0<=i/\i<n/\n<=c/\off+n * 2<=cs.length/\e=81/\n<=1099511627776/\b≠vb/\voff+2<=vs.length/\((cs.drop off).take (n * 2)).all (·.oneCell')=true/\((vs.drop voff).take 2).all (·.oneCell')=true then
     some (.slice (some ⟨m.next,0,none⟩) (n+1) (n+1),(m.kill b).add ⟨.cells ((cs.drop off).take (i.toNat * 2)++((vs.drop voff).take 2++(cs.drop (off+i.toNat * 2)).take ((n - i.toNat) * 2))) 81,false,some 2⟩)
    else none
   | _=>none
  | _=>none
 | _=>none
theorem qkG (cs:List Value) (off i n:Nat) (vs:List Value) (hv:vs.length=2) (hin:i<n) (hc:off+n * 2<=cs.length) (X:List Value) :
  qP ((cs.drop off).take ((i+1) * 2)++X) (i * 2) vs=(cs.drop off).take (i * 2)++(vs++X):=by
 have hl:((cs.drop off).take (i * 2)).length=i * 2:=by rw [List.length_take,List.length_drop]; omega
 have h1:(cs.drop off).take ((i+1) * 2)=(cs.drop off).take (i * 2)++((cs.drop off).drop (i * 2)).take 2:=by
  rw [show (i+1) * 2=i * 2+2 by omega,List.take_add]
 have:=xh ((cs.drop off).take (i * 2)) (((cs.drop off).drop (i * 2)).take 2) X vs (by rw [List.length_take,List.length_drop,List.length_drop,hv]; omega);rw [hl] at this;rw [h1,List.append_assoc,this]
theorem qiD {cs:List Value} {off n:Nat} (h:((cs.drop off).take (n * 2)).all (·.oneCell')=true) {i:Nat} (hin:i<n):∀ v∈(cs.drop (off+i * 2)).take ((n - i) * 2),v.oneCell'=true:=by
 intro v hv;refine List.all_eq_true.1 h v ?_;obtain ⟨j,hj,rfl⟩:=List.mem_iff_getElem.1 hv;rw [List.length_take,List.length_drop] at hj;rw [List.getElem_take,List.getElem_drop];have:((cs.drop off).take (n * 2))[i * 2+j]'(by rw [List.length_take,List.length_drop]; omega)=cs[off+i * 2+j]'(by omega):=by
  rw [List.getElem_take,List.getElem_drop];congr 1;omega
 rw [<- this];exact List.getElem_mem _
theorem qba {w:World} {φ:Go.Fx.Ren} {m:Mem} (hi:Inv φ m w) {b vb:Nat} {cs vs:List Value} {e e':TypeId} {l lv:Loc} (hb:m.get b=some ⟨.cells cs e,false,some 2⟩) (hl:φ b=some l) (hv:m.get vb=some ⟨.cells vs e',false,none⟩) (hlv:φ vb=some lv) (hne:b≠vb)
  (hcs:cs.length≠0) (o o' k vc lb cb:Nat) :
  (callFunc 178 #[.slice (some ⟨lv.blk,o,none⟩) k vc,.slice (some ⟨l.blk,o',none⟩) lb cb]).run IP w=.ok (.value (.bool false)) w:=by
 obtain ⟨k1,hk1,_,C,e1,fz,hC,_,_,hz,_⟩:=hi.live vb _ hv;rw [hlv] at hk1; cases hk1
 rw [hz rfl (by simp)] at hC;obtain ⟨D,e2,fz2,hD,hs2,hsz,_⟩:=hi.shape hb hl;rw [if_neg hcs] at hsz;rw [run_callFunc_extern qjo (by kernel_rfl) (by kernel_rfl) (by kernel_rfl) (e:=Extern.SlicesOverlaps.overlaps #[39,39] #[4]) (by kernel_rfl),
  Lib.run_overlaps_apart w 39 4 81 Qa 2 qfr ⟨lv.blk,o,none⟩ ⟨l.blk,o',none⟩ k vc lb cb (λh=>hi.apart b vb _ _ l lv hb hv hl hlv rfl hne h.symm) e1 e2 C.size D.size (by simp [World.shape?,hC]) hs2 (by omega) (by simp [World.frozen?,hC]) (by simp [World.frozen?,hC])]
 rfl
theorem qds {l:List Value} {m m':Mem} {v:Value} (h:XP l m=some (v,m')) {φ:Go.Fx.Ren} {w:World} {ARGS:Array Value} (hi:Inv φ m w) (ha:VRs φ l ARGS.toList):vP IP φ m w 132 ARGS v m':=by
 unfold XP at h;split at h
 rotate_left
 ·cases h
 rename_i b off n c i vb voff vc;split at h
 rotate_left
 ·cases h
 rename_i cs e hb;split at h
 rotate_left
 ·cases h
 rename_i vs e' hv;split at h
 rotate_left
 ·cases h
 rename_i hc;cases h
 obtain ⟨h0,hin,hnc,hcl,rfl,hbig,hne,hvl,hone,honev⟩:=hc;obtain ⟨A,B,C,rfl,hA,hB,hC⟩:=VRs.three ha;obtain ⟨i,rfl⟩:=Int.eq_ofNat_of_zero_le h0;have hin:i<n:=by omega
 simp only [Int.ofNat_eq_natCast,Int.toNat_natCast];cases hB
 obtain ⟨lv,hlv,okv⟩:=hi.live vb _ hv;obtain ⟨l,hl,ok⟩:=hi.live b _ hb;have hlo:=ok.1.1;have hlov:=okv.1.1;have hbn:b<m.next:=(hi.below b l hl).1;have hvn:vb<m.next:=(hi.below vb lv hlv).1;cases hC with
 | sliceLoose _ _ _ _ _ _ _ k hk hko=>rw [hlv] at hk; cases hk; rw [hlov] at hko; cases hko
 | sliceEx _ _ _ _ k hk hko =>
 rw [hlv] at hk; cases hk
 cases hA with
 | sliceEx _ _ _ _ k hk hko=>rw [hl] at hk; cases hk; rw [hlo] at hko; cases hko
 | sliceZero=>omega
 | sliceLoose _ _ _ _ off' cap' s k hk hko hoff hlen hcap hroom =>
 rw [hl] at hk; cases hk
 rw [hlo] at hko; cases hko
 have hoff':off'=l.base+off:=hoff (by omega);have hoA:off'+i * 2=l.base+(off+i * 2):=by omega
 have hoB:off'+(i+1) * 2=l.base+off+(i+1) * 2:=by omega
 have hd:Inv φ m w.drew:=hi.drawn rfl;have fd:Frm φ m w φ m w.drew:=Frm.drawn rfl rfl rfl rfl;obtain ⟨TL,hTL,rTL⟩:=hd.loadCells (P:=IP) hb hl (off+i * 2) ((n - i) * 2) (by omega);have hTl:((cs.drop (off+i * 2)).take ((n - i) * 2)).length=(n - i) * 2:=by rw [List.length_take,List.length_drop]; omega
 have hVl:((vs.drop voff).take 2).length=2:=by rw [List.length_take,List.length_drop]; omega
 have hov:=qba hi hb hl hv hlv hne (by omega) (lv.base+voff) (off'+(i+1) * 2) 1 vc;have hmin1:Nat.min (n+1 - i) (n+1 - (i+1))=n - i:=by show min _ _=_; omega
 have hmin2:Nat.min 1 (n+1 - i)=1:=by show min _ _=_; omega
 have hmin3:Nat.min (n - i) (n+1 - (i+1))=n - i:=by show min _ _=_; omega
 by_cases hfit:n+1<=cap'
 ·obtain ⟨w1,φ1,hrun1,i1,f1,e1⟩:=hd.HX (P:=IP) hb hl (off:=off) (len:=i+1) (cap:=c) (off':=off') (cap':=cap') (n:=n - i) hoff (by omega) hroom (by omega) (by omega) rTL (qiD hone hin) hTl;have hgv1:((m.kill b).add ⟨.cells ((cs.drop off).take ((i+1) * 2)++(cs.drop (off+i * 2)).take ((n - i) * 2)) 81,false,some 2⟩).get vb=some ⟨.cells vs e',false,none⟩:=by
   rw [Mem.zv,Mem.xW,if_neg (by omega),Mem.xU,if_neg (Ne.symm hne)]; exact hv
  obtain ⟨VL,hVL,rVL⟩:=i1.loadCells (P:=IP) hgv1 (f1.ren _ _ hlv) voff 2 hvl;have hgn1:((m.kill b).add ⟨.cells ((cs.drop off).take ((i+1) * 2)++(cs.drop (off+i * 2)).take ((n - i) * 2)) 81,false,some 2⟩).get m.next=some ⟨.cells ((cs.drop off).take ((i+1) * 2)++(cs.drop (off+i * 2)).take ((n - i) * 2)) 81,false,some 2⟩:=by
   rw [Mem.zv,Mem.xW,if_pos rfl]
  obtain ⟨w2,hrun2,i2,f2⟩:=Inv.storeCells (P:=IP) e1 (i * 2) ((vs.drop voff).take 2) VL 0 _ _ w1 i1 hgn1 rVL (λv hv=>List.all_eq_true.1 honev v hv) (by rw [hVl,List.length_append,hTl,List.length_take,List.length_drop]; omega);have hcall:=qfn l.blk off' n cap' i lv.blk (lv.base+voff) 1 vc w w1 w2 hin (by omega) hfit (by omega) hov
   (λty dc sc=>by
    have:=wA (P:=IP) (dT:=39) (sT:=39) (ty:=ty) (dCap:=dc) (sCap:=sc) (b:=l.blk) (o:=off'+(i+1) * 2) (dLen:=n+1 - (i+1)) (sLen:=n+1 - i) (a:=⟨l.blk,off'+i * 2,none⟩) Qa qcp (cs:=TL) (by rw [hmin1,hoA]; exact hTL) hrun1;rw [hmin1] at this; exact this)
   (λty dc=>by
    have:=wA (P:=IP) (dT:=39) (sT:=39) (ty:=ty) (dCap:=dc) (sCap:=vc) (b:=l.blk) (o:=off'+i * 2) (dLen:=n+1 - i) (sLen:=1) (a:=⟨lv.blk,lv.base+voff,none⟩) Qa qcp (cs:=VL) (by rw [hmin2]; exact hVL) hrun2;rw [hmin2] at this; exact this)
  refine Calls.mono hcall ?_
  rintro e w' ⟨rfl,rfl⟩
  have hg:∀ d,((m.kill b).add ⟨.cells ((cs.drop off).take (i * 2)++((vs.drop voff).take 2++(cs.drop (off+i * 2)).take ((n - i) * 2))) 81,false,some 2⟩).get d =
    (((m.kill b).add ⟨.cells ((cs.drop off).take ((i+1) * 2)++(cs.drop (off+i * 2)).take ((n - i) * 2)) 81,false,some 2⟩).put m.next ⟨.cells (qP ((cs.drop off).take ((i+1) * 2)++(cs.drop (off+i * 2)).take ((n - i) * 2)) (i * 2+0) ((vs.drop voff).take 2)) 81,false,some 2⟩).get d:=by
   intro d;simp only [Nat.add_zero];rw [Mem.zh,Mem.zv,Mem.zv,Mem.xW,qkG cs off i n _ hVl hin hcl];by_cases hd:d=m.next
   ·rw [if_pos hd,if_pos hd]
   ·rw [if_neg hd,if_neg hd,if_neg hd]
  exact ⟨_,φ1,rfl,.sliceLoose m.next 0 (n+1) (n+1) off' cap' 2 ⟨l.blk,off',some 2,l.size⟩ e1 rfl (λ_=>rfl) (Nat.le_refl _) hfit hroom,Inv.ext hg rfl i2,Frm.ext hg rfl ((fd.trans f1).trans f2)⟩
 ·obtain ⟨OL,hOL,rOL⟩:=hd.loadCells (P:=IP) hb hl off (i * 2) (by omega);obtain ⟨i0,hi0,hz0,hzs,hzb⟩:=info_parts qkF;have hold:(Builtin.firstCells i0.size i (.slice (some ⟨l.blk,off',none⟩) i cap')).run IP w.drew=.ok OL.toArray w.drew:=by
   rw [hzs,hoff']; simpa [Builtin.firstCells] using hOL
  have hik:i+(n+1 - i)=n+1:=by omega
  have hrz:∀ ty,_:=λty=>Lib.run_append_grow_zeros (P:=IP) w 39 3 ty 81 i0 _ .i64 .i64 Qa qfs hi0 hz0 (some ⟨l.blk,off',none⟩) i cap' OL hold (n+1 - i) (by omega) (by omega) (by omega) (by omega) (by rw [hzb]; omega) (by rw [hzb,hik]; exact growslice_fits (by omega) (by omega))
  rw [hik] at hrz;have hG:=grownCap_ge w (n+1) cap' 81;generalize grownCap w (n+1) cap' 81=G at hrz hG;generalize hZ1:Builtin.zeroCells (Value.agg #[Value.string { data:=#[] },Value.string { data:=#[] }]).cells (n+1 - i)=Z1 at hrz;generalize hZ2:Builtin.zeroCells (Value.agg #[Value.string { data:=#[] },Value.string { data:=#[] }]).cells (G - (n+1))=Z2 at hrz;have hZ1s:Z1.size=(n+1 - i) * 2:=by rw [<- hZ1]; simp [Builtin.zeroCells,Value.cells]
  have hZl:Z1.toList.length=(n+1 - i) * 2:=by rw [Array.length_toList]; exact hZ1s
  have hZ2s:Z2.size=(G - (n+1)) * 2:=by rw [<- hZ2]; simp [Builtin.zeroCells,Value.cells]
  have hZp:VRs φ Z1.toList Z1.toList:=by
   refine VRs.plain (List.all_eq_true.2 λv hv=>?_);rw [<- hZ1] at hv;simp only [Builtin.zeroCells,Value.cells,Array.toList_map,List.mem_map] at hv;obtain ⟨k,_,rfl⟩:=hv;have:k % 2=0∨k % 2=1:=by omega
   rcases this with h|h<;>simp [h,Fx.plain]
  have hOl:OL.length=i * 2:=by rw [<- rOL.1,List.length_take,List.length_drop]; omega
  obtain ⟨φ1,i1,f1,e1⟩:=hd.wP (c:=(cs.drop off).take (i * 2)++Z1.toList) (C:=OL++Z1.toList) Z2.toList 81 2 (rOL.append hZp);have harr:OL.toArray++Z1++Z2=(OL++Z1.toList++Z2.toList).toArray:=by apply Array.toList_inj.1; simp
  rw [harr] at hrz;have hlen:(OL++Z1.toList++Z2.toList).length=G * 2:=by
   simp only [List.length_append,Array.length_toList,hOl,hZ1s,hZ2s]; omega
  rw [hlen] at e1;have e1':φ1 m.next=some ⟨w.heap.size,0,some 2,G * 2⟩:=e1;generalize hw1:({ w.drew with heap:=w.drew.heap.push (.cells (OL++Z1.toList++Z2.toList).toArray 81) }:World)=w1 at i1 f1;have hrz':∀ ty,(Builtin.append_ #[39,3] ty #[.slice (some ⟨l.blk,off',none⟩) i cap',.int .i64 ((n:Int)+((1:Nat):Int) - (i:Int))]).run IP w=.ok (.slice (some ⟨w.heap.size,0,none⟩) (n+1) G) w1:=λty=>by
   have h1:(n:Int)+((1:Nat):Int) - (i:Int)=((n+1 - i:Nat):Int):=by omega
   rw [h1,<- hw1];exact hrz ty
  have hgv1:(m.add ⟨.cells ((cs.drop off).take (i * 2)++Z1.toList) 81,false,some 2⟩).get vb=some ⟨.cells vs e',false,none⟩:=by rw [Mem.zO _ _ hvn]; exact hv
  obtain ⟨VL,hVL,rVL⟩:=i1.loadCells (P:=IP) hgv1 (f1.ren _ _ hlv) voff 2 hvl;obtain ⟨w2,hrun2,i2,f2⟩:=Inv.storeCells (P:=IP) e1' (i * 2) ((vs.drop voff).take 2) VL 0 _ _ w1 i1 (Mem.qf ..) rVL (λv hv=>List.all_eq_true.1 honev v hv) (by rw [hVl,List.length_append,hZl,List.length_take,List.length_drop]; omega);rw [Nat.add_zero] at i2 f2;simp only [Nat.zero_add] at hrun2;generalize hc2:qP ((cs.drop off).take (i * 2)++Z1.toList) (i * 2) ((vs.drop voff).take 2)=c2 at i2 f2;have hc2l:c2.length=(n+1) * 2:=by
   rw [<- hc2,XA,List.length_append,hZl,List.length_take,List.length_drop]; omega
  have d2:Inv φ1 ((m.add ⟨.cells ((cs.drop off).take (i * 2)++Z1.toList) 81,false,some 2⟩).put m.next ⟨.cells c2 81,false,some 2⟩) w2.drew:=i2.drawn rfl;have fd2:Frm φ1 ((m.add ⟨.cells ((cs.drop off).take (i * 2)++Z1.toList) 81,false,some 2⟩).put m.next ⟨.cells c2 81,false,some 2⟩) w2 φ1 ((m.add ⟨.cells ((cs.drop off).take (i * 2)++Z1.toList) 81,false,some 2⟩).put m.next ⟨.cells c2 81,false,some 2⟩) w2.drew:=Frm.drawn rfl rfl rfl rfl;have hgb2:((m.add ⟨.cells ((cs.drop off).take (i * 2)++Z1.toList) 81,false,some 2⟩).put m.next ⟨.cells c2 81,false,some 2⟩).get b=some ⟨.cells cs 81,false,some 2⟩:=by
   rw [Mem.zh,if_neg (by omega),Mem.zO _ _ hbn]; exact hb
  obtain ⟨TL2,hTL2,rTL2⟩:=d2.loadCells (P:=IP) hgb2 (f1.ren _ _ hl) (off+i * 2) ((n - i) * 2) (by omega);obtain ⟨w3,hrun3,i3,f3⟩:=Inv.storeCells (P:=IP) e1' ((i+1) * 2) ((cs.drop (off+i * 2)).take ((n - i) * 2)) TL2 0 _ _ w2.drew d2 (Mem.qe ..) rTL2 (qiD hone hin) (by rw [hc2l,hTl]; omega);rw [Nat.add_zero] at i3 f3;simp only [Nat.zero_add] at hrun3;have hcall:=qfp l.blk off' n cap' i lv.blk (lv.base+voff) 1 vc w.heap.size G w w1 w2 w3 hin (by omega) (by omega) (by omega) (by omega) hG hrz'
   (λty dc=>by
    have:=wA (P:=IP) (dT:=39) (sT:=39) (ty:=ty) (dCap:=dc) (sCap:=vc) (b:=w.heap.size) (o:=i * 2) (dLen:=n+1 - i) (sLen:=1) (a:=⟨lv.blk,lv.base+voff,none⟩) Qa qcp (cs:=VL) (by rw [hmin2]; exact hVL) hrun2;rw [hmin2] at this; exact this)
   (λty dc sc=>by
    have:=wA (P:=IP) (dT:=39) (sT:=39) (ty:=ty) (dCap:=dc) (sCap:=sc) (b:=w.heap.size) (o:=(i+1) * 2) (dLen:=n+1 - (i+1)) (sLen:=n - i) (a:=⟨l.blk,off'+i * 2,none⟩) Qa qcp (cs:=TL2) (by rw [hmin3,hoA]; exact hTL2) hrun3;rw [hmin3] at this; exact this)
  refine Calls.mono hcall ?_
  rintro e w' ⟨rfl,rfl⟩
  obtain ⟨i4,f4⟩:=i3.kill b;have hfin:qP c2 ((i+1) * 2) ((cs.drop (off+i * 2)).take ((n - i) * 2))=(cs.drop off).take (i * 2)++((vs.drop voff).take 2++(cs.drop (off+i * 2)).take ((n - i) * 2)):=by
   have hl1:((cs.drop off).take (i * 2)).length=i * 2:=by rw [List.length_take,List.length_drop]; omega
   have h1:=xh ((cs.drop off).take (i * 2)) (Z1.toList.take 2) (Z1.toList.drop 2) ((vs.drop voff).take 2) (by rw [hVl,List.length_take,hZl]; omega);rw [List.take_append_drop,hl1,hc2] at h1;have h2:=xh ((cs.drop off).take (i * 2)++(vs.drop voff).take 2) (Z1.toList.drop 2) [] ((cs.drop (off+i * 2)).take ((n - i) * 2)) (by rw [hTl,List.length_drop,hZl]; omega);rw [List.append_nil,List.append_nil,List.length_append,hl1,hVl,show i * 2+2=(i+1) * 2 by omega,List.append_assoc,List.append_assoc] at h2;rw [h1,h2]
  have hg:∀ d,((m.kill b).add ⟨.cells ((cs.drop off).take (i * 2)++((vs.drop voff).take 2++(cs.drop (off+i * 2)).take ((n - i) * 2))) 81,false,some 2⟩).get d =
    ((((m.add ⟨.cells ((cs.drop off).take (i * 2)++Z1.toList) 81,false,some 2⟩).put m.next ⟨.cells c2 81,false,some 2⟩).put m.next ⟨.cells (qP c2 ((i+1) * 2) ((cs.drop (off+i * 2)).take ((n - i) * 2))) 81,false,some 2⟩).kill b).get d:=by
   intro d;rw [Mem.xU,Mem.zh,Mem.zh,Mem.zv,Mem.zv,Mem.xU,Mem.xW,hfin];by_cases hd:d=m.next
   ·rw [if_pos hd,if_neg (by omega),if_pos hd]
   ·rw [if_neg hd,if_neg hd,if_neg hd,if_neg hd]
  exact ⟨_,φ1,rfl,.sliceLoose m.next 0 (n+1) (n+1) 0 G 2 ⟨w.heap.size,0,some 2,G * 2⟩ e1' rfl (λ_=>rfl) (Nat.le_refl _) hG (by simp),Inv.ext hg rfl i4,Frm.ext hg rfl ((((fd.trans f1).trans f2).trans fd2).trans (f3.trans f4))⟩
end
end Go.Fx.Tryz
namespace Go.Fx.Tryz
open Go Go.Fx
abbrev u:Value:=undef
theorem qmg (S:zi) (hS:∀ l m,S 132 l m=none) (x0 x1 x2:Value) (m:Mem):Call S tab 132 [x0,x1,x2] m=qx 2 x0 (some x1) none m>>=λv1=>qd x2>>=λv2=>arith .eql v2 (.int .i64 0)>>=λv3=>cnd v3 (some (x0,m)) (qd x0>>=λv4=>arith .eql x1 v4>>=λv5=>cnd v5 (qM 2 x2 m>>=λp6=>qA 81 2 32 x0 p6.1 p6.2 m>>=λp7=>some (p7.1,p7.2)) (arith .add v4 v2>>=λv8=>kr x0 m>>=λv9=>arith .gtr v8 v9>>=λv10=>cnd v10 (qx 2 x0 none (some x1) m>>=λv11=>arith .add v4 v2>>=λv12=>arith .sub v12 x1>>=λv13=>xi 81 2 32 (.agg #[.string ⟨#[]⟩,.string ⟨#[]⟩]) v11 v13 m>>=λp14=>qx 2 p14.1 (some x1) none p14.2>>=λv15=>qM 2 x2 p14.2>>=λp16=>vh 2 v15 p16.1 p16.2 p14.2>>=λp17=>arith .add x1 v2>>=λv18=>qx 2 p14.1 (some v18) none p17.2>>=λv19=>qx 2 x0 (some x1) none p17.2>>=λv20=>qM 2 v20 p17.2>>=λp21=>vh 2 v19 p21.1 p21.2 p17.2>>=λp22=>some (p14.1,p22.2)) (arith .add v4 v2>>=λv23=>qx 2 x0 none (some v23) m>>=λv24=>arith .add x1 v2>>=λv25=>qx 2 v24 (some v25) none m>>=λv26=>none))) :=
 (ql (fn:=(qK P 132)) (by kernel_rfl) [x0,x1,x2] m (hS _ _)).trans (by kernel_rfl)
end Go.Fx.Tryz
