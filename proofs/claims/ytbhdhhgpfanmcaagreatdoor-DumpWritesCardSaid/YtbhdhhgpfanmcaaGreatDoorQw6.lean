/- Parts of a proof: FxTmps, FxDraw, FxDraw2, FxDraw3. Conditions: none. -/
import Derived.Orders
import Derived.Test.YtbhdhhgpfanmcaaGreatDoorQw5
set_option linter.unusedSimpArgs false
set_option linter.unusedVariables false
namespace Go.Fx
open Go
mutual
def veq:Value->Value->Bool
 | .bool a,.bool b=>a == b
 | .int k a,.int l b=>decide (k=l)&&a == b
 | .float k a,.float l b=>decide (k=l)&&a == b
 | .complex k a b,.complex l c d=>decide (k=l)&&a == c&&b == d
 | .string a,.string b=>decide (a.data.toList=b.data.toList)
 | .pointer a,.pointer b=>decide (a=b)
 | .slice a n c,.slice b m d=>decide (a=b)&&n == m&&c == d
 | .map a,.map b=>decide (a=b)
 | .chan a,.chan b=>decide (a=b)
 | .func f ⟨xs⟩ ⟨ys⟩,.func g ⟨us⟩ ⟨vs⟩=>decide (f=g)&&XX xs us&&XX ys vs
 | .nilFunc,.nilFunc=>true
 | .iface t v,.iface u w=>t == u&&veq v w
 | .nilIface,.nilIface=>true
 | .agg ⟨xs⟩,.agg ⟨ys⟩=>XX xs ys
 | .tuple ⟨xs⟩,.tuple ⟨ys⟩=>XX xs ys
 | _,_=>false
def XX:List Value->List Value->Bool
 | [],[]=>true
 | x::xs,y::ys=>veq x y&&XX xs ys
 | _,_=>false
end
mutual
theorem veq_eq:∀ (a b:Value),veq a b=true->a=b
 | .bool a,b,h=>by cases b<;>simp [veq] at h; subst h; rfl
 | .int k a,b,h=>by cases b<;>simp [veq] at h; obtain ⟨rfl,rfl⟩:=h; rfl
 | .float k a,b,h=>by cases b<;>simp [veq] at h; obtain ⟨rfl,rfl⟩:=h; rfl
 | .complex k a c,b,h=>by cases b<;>simp [veq] at h; obtain ⟨⟨rfl,rfl⟩,rfl⟩:=h; rfl
 | .string a,b,h=>by
  cases b<;>simp [veq] at h
  rename_i b;obtain ⟨a⟩:=a; obtain ⟨b⟩:=b;simp only at h;subst h; rfl
 | .pointer a,b,h=>by cases b<;>simp [veq] at h; subst h; rfl
 | .slice a n c,b,h=>by cases b<;>simp [veq] at h; obtain ⟨⟨rfl,rfl⟩,rfl⟩:=h; rfl
 | .map a,b,h=>by cases b<;>simp [veq] at h; subst h; rfl
 | .chan a,b,h=>by cases b<;>simp [veq] at h; subst h; rfl
 | .func f ⟨xs⟩ ⟨ys⟩,b,h=>by
  cases b<;>try (simp [veq] at h; done)
  rename_i g us vs;obtain ⟨us⟩:=us; obtain ⟨vs⟩:=vs;simp only [veq,baI,decide_eq_true_eq] at h;obtain ⟨⟨rfl,h1⟩,h2⟩:=h;rw [veqs_eq _ _ h1,veqs_eq _ _ h2]
 | .nilFunc,b,h=>by cases b<;>simp [veq] at h; rfl
 | .iface t v,b,h=>by
  cases b<;>try (simp [veq] at h; done)
  simp only [veq,baI,beq_iff_eq] at h;obtain ⟨rfl,h1⟩:=h;rw [veq_eq _ _ h1]
 | .nilIface,b,h=>by cases b<;>simp [veq] at h; rfl
 | .agg ⟨xs⟩,b,h=>by
  cases b<;>try (simp [veq] at h; done)
  rename_i ys;obtain ⟨ys⟩:=ys;simp only [veq] at h;rw [veqs_eq _ _ h]
 | .tuple ⟨xs⟩,b,h=>by
  cases b<;>try (simp [veq] at h; done)
  rename_i ys;obtain ⟨ys⟩:=ys;simp only [veq] at h;rw [veqs_eq _ _ h]
theorem veqs_eq:∀ (a b:List Value),XX a b=true->a=b
 | [],b,h=>by cases b<;>simp [XX] at h; rfl
 | x::xs,b,h=>by
  cases b<;>simp [XX] at h
  rw [veq_eq _ _ h.1,veqs_eq _ _ h.2]
end
mutual
theorem QA:∀ (a:Value),veq a a=true
 | .bool a=>by simp [veq]
 | .int k a=>by simp [veq]
 | .float k a=>by simp [veq]
 | .complex k a c=>by simp [veq]
 | .string a=>by simp [veq]
 | .pointer a=>by simp [veq]
 | .slice a n c=>by simp [veq]
 | .map a=>by simp [veq]
 | .chan a=>by simp [veq]
 | .func f ⟨xs⟩ ⟨ys⟩=>by simp [veq,vT xs,vT ys]
 | .nilFunc=>by simp [veq]
 | .iface t v=>by simp [veq,QA v]
 | .nilIface=>by simp [veq]
 | .agg ⟨xs⟩=>by simp [veq,vT xs]
 | .tuple ⟨xs⟩=>by simp [veq,vT xs]
theorem vT:∀ (a:List Value),XX a a=true
 | []=>by simp [XX]
 | x::xs=>by simp [XX,QA x,vT xs]
end
def opT:Operand->List Nat
 | .tmp t=>[t]
 | _=>[]
def qdt:Option Operand->List Nat
 | some x=>opT x
 | none=>[]
def AOp.ve:AOp->List Nat
 | .mov x|.nilck x|.box _ x|.load1 x|.loadN _ x|.un _ x|.conv _ x|.b2s x|.fieldAddr _ x|.field _ _ _ x|.extract _ x|.lenS x|.lenStr x=>opT x
 | .pick c a b=>opT c++opT a++opT b
 | .alloc _ _|.stop=>[]
 | .flo _ o|.floAt _ o=>o.ve
 | .clearS _ x|.mkiface _ x=>opT x
 | .makeS _ _ _ a x=>opT a++opT x
 | .slice3 _ x lo hi mx=>opT x++qdt lo++qdt hi++opT mx
 | .build _ ps|.buildSlice _ _ _ ps=>ps.flatMap λp=>opT p.2.2
 | .store _ a x|.arith _ a x|.eqD _ _ a x|.eqBool _ a x|.eqNil _ _ a x|.indexS _ a x|.indexA _ _ a x|.indexStr a x|.indexArr _ _ _ a x|.append _ _ _ a x|.copy _ a x=>opT a++opT x
 | .sliceStr x lo hi|.sliceS _ x lo hi|.sliceA _ _ x lo hi=>opT x++qdt lo++qdt hi
 | .min x xs|.max x xs|.callv x xs=>opT x++xs.flatMap opT
 | .call _ xs=>xs.flatMap opT
 | .mkfunc _ fs xs=>fs.flatMap opT++xs.flatMap opT
 | .p1 _ x|.r1 _ x|.e1 _ x=>opT x
 | .p2 _ x y|.r2 _ x y|.e2 _ x y=>opT x++opT y
 | .mapUpd _ x k y=>opT x++opT k++opT y
 | .makeM x=>qdt x
def jW (l:List Nat) (ts us:List Value):Prop:=∀ t,t∈l->ts[t]? = us[t]?
theorem jW.left {l k:List Nat} {ts us:List Value} (h:jW (l++k) ts us):jW l ts us:=λt ht=>h t (List.mem_append_left _ ht)
theorem jW.right {l k:List Nat} {ts us:List Value} (h:jW (l++k) ts us):jW k ts us:=λt ht=>h t (List.mem_append_right _ ht)
theorem qY {ts us:List Value} {x:Operand} (h:jW (opT x) ts us):zc ts x=zc us x:=by
 cases x with
 | tmp t=>simp only [zc]; rw [h t (by simp [opT])]
 | _=>rfl
theorem xe {ts us:List Value} {x:Option Operand} (h:jW (qdt x) ts us):jo ts x=jo us x:=by
 cases x with
 | none=>rfl
 | some x=>simp only [jo]; rw [qY h]
theorem kW {ts us:List Value}:∀ {xs:List Operand},jW (xs.flatMap opT) ts us->ko ts xs=ko us xs
 | [],_=>rfl
 | x::xs,h=>by
  rw [List.flatMap_cons] at h;simp only [ko]; rw [qY h.left,kW h.right]
theorem wR {ts us:List Value}:∀ {ps:List (Nat × Nat × Operand)},jW (ps.flatMap λp=>opT p.2.2) ts us->kI ts ps=kI us ps
 | [],_=>rfl
 | (o,s,x)::ps,h=>by
  rw [List.flatMap_cons] at h;simp only [kI]; rw [qY h.left,wR h.right]
theorem QR {ts us:List Value} {ao:AOp} (h:jW ao.ve ts us):jN ts ao=jN us ao:=by
 cases ao<;>try rfl
 ·simp only [AOp.ve] at h; simp only [jN]; rw [qY h]
 ·simp only [AOp.ve] at h; simp only [jN]; rw [wR h]
theorem jr (call:zj) {ts us:List Value} (m:Mem) {ao:AOp} (h:jW ao.ve ts us):zA call ts m ao=zA call us m ao:=by
 cases ao<;>simp only [AOp.ve] at h<;>simp only [zA,AOp.run]
 all_goals first
  | rw [qY h]
  | rw [qY h.left,qY h.right]
  | rw [qY h.left.left,qY h.left.right,qY h.right]
  | rw [qY h.left.left,xe h.left.right,xe h.right]
  | rw [qY h.left.left.left,xe h.left.left.right,xe h.left.right,qY h.right]
  | rw [qY h.left,kW h.right]
  | rw [kW h]
  | rw [kW h.left,kW h.right]
  | rw [xe h]
  | rw [wR h]
  | rw [QR h]
  | rfl
inductive Cls where
 | pure|read|eff
 deriving DecidableEq
def AOp.cls:AOp->Cls
 | .alloc _ _|.box _ _|.buildSlice _ _ _ _|.store _ _ _|.append _ _ _ _ _|.copy _ _ _|.clearS _ _|.makeS _ _ _ _ _|.call _ _|.callv _ _|.flo _ _|.floAt _ _|.e1 _ _|.e2 _ _ _|.mapUpd _ _ _ _|.makeM _=>.eff
 | .load1 _|.loadN _ _|.b2s _|.sliceS _ _ _ _|.sliceA _ _ _ _ _|.slice3 _ _ _ _ _|.r1 _ _|.r2 _ _ _=>.read
 | _=>.pure
inductive Req where
 | load1 (v:Value)
 | loadN (n:Nat) (v:Value)
 | b2s (v:Value)
 | sliceS (size:Nat) (v:Value) (lo hi:Option Value)
 | sliceA (n size:Nat) (v:Value) (lo hi:Option Value)
 | slice3 (size:Nat) (v:Value) (lo hi:Option Value) (mx:Value)
 | r1 (k:R1) (v:Value)
 | r2 (k:R2) (v u:Value)
def Req.run (m:Mem):Req->Option Value
 | .load1 v=>qa v m
 | .loadN n v=>ql n v m
 | .b2s v=>xZ v m
 | .sliceS size v lo hi=>qx size v lo hi m
 | .sliceA n size v lo hi=>xX n size v lo hi m
 | .slice3 size v lo hi mx=>jO size v lo hi mx m
 | .r1 k v=>k.run v m
 | .r2 k v u=>k.run v u m
def AOp.req (ts:List Value):AOp->Option Req
 | .load1 x=>(zc ts x).map .load1
 | .loadN n x=>(zc ts x).map (.loadN n)
 | .b2s x=>(zc ts x).map .b2s
 | .sliceS size x lo hi=>(zc ts x).bind λv=>(jo ts lo).bind λl=>(jo ts hi).map λh=>.sliceS size v l h
 | .sliceA n size x lo hi=>(zc ts x).bind λv=>(jo ts lo).bind λl=>(jo ts hi).map λh=>.sliceA n size v l h
 | .slice3 size x lo hi mx=>(zc ts x).bind λv=>(jo ts lo).bind λl=>(jo ts hi).bind λh=>(zc ts mx).map λk=>.slice3 size v l h k
 | .r1 k x=>(zc ts x).map (.r1 k)
 | .r2 k x y=>(zc ts x).bind λv=>(zc ts y).map λu=>.r2 k v u
 | _=>none
theorem Qd {ts:List Value} {ao:AOp} {q:Req} {m:Mem} {v:Value} (hq:ao.req ts=some q) (h:q.run m=some v):ao.run ts m=some (v,m):=by
 cases ao<;>simp only [AOp.req] at hq<;>try (cases hq; done)
 ·simp only [msI] at hq; obtain ⟨p,hp,rfl⟩:=hq; simp only [Req.run] at h; simp [AOp.run,hp,h]
 ·simp only [msI] at hq; obtain ⟨p,hp,rfl⟩:=hq; simp only [Req.run] at h; simp [AOp.run,hp,h]
 ·simp only [msI] at hq; obtain ⟨p,hp,rfl⟩:=hq; simp only [Req.run] at h; simp [AOp.run,hp,h]
 ·simp only [bsI,msI] at hq; obtain ⟨p,hp,l,hl,r,hr,rfl⟩:=hq; simp only [Req.run] at h; simp [AOp.run,hp,hl,hr,h]
 ·simp only [bsI,msI] at hq; obtain ⟨p,hp,l,hl,r,hr,rfl⟩:=hq; simp only [Req.run] at h; simp [AOp.run,hp,hl,hr,h]
 ·simp only [msI] at hq; obtain ⟨p,hp,rfl⟩:=hq; simp only [Req.run] at h; simp [AOp.run,hp,h]
 ·simp only [bsI,msI] at hq; obtain ⟨p,hp,l,hl,rfl⟩:=hq; simp only [Req.run] at h; simp [AOp.run,hp,hl,h]
 ·simp only [bsI,msI] at hq; obtain ⟨p,hp,l,hl,r,hr,k,hk,rfl⟩:=hq; simp only [Req.run] at h; simp [AOp.run,hp,hl,hr,hk,h]
theorem Qj {ts:List Value} {ao:AOp} {q:Req} (hq:ao.req ts=some q):ao.vC=false:=by
 cases ao<;>simp only [AOp.req] at hq<;>first|(cases hq; done)|rfl
theorem yD {ts us:List Value} {ao:AOp} (h:jW ao.ve ts us):ao.req ts=ao.req us:=by
 cases ao<;>simp only [AOp.ve] at h<;>simp only [AOp.req]
 ·rw [qY h]
 ·rw [qY h]
 ·rw [qY h]
 ·rw [qY h.left.left,xe h.left.right,xe h.right]
 ·rw [qY h.left.left,xe h.left.right,xe h.right]
 ·rw [qY h]
 ·rw [qY h.left,qY h.right]
 ·rw [qY h.left.left.left,xe h.left.left.right,xe h.left.right,qY h.right]
theorem run_pure {ts:List Value} {ao:AOp} {m m':Mem} {v:Value} (hc:ao.cls=.pure) (h:ao.run ts m=some (v,m')):m'=m/\∀ M,ao.run ts M=some (v,M):=by
  cases ao<;>simp only [AOp.cls] at hc<;>first
    | (cases hc; done)
    | (simp [AOp.run] at h; done)
    | (simp only [AOp.run,bsI,msI,pjI] at h
       first
         | (obtain ⟨p,hp,rfl,rfl⟩:=h; exact ⟨rfl,λM=>by simp [AOp.run,hp]⟩)
         | (obtain ⟨p,hp,u,hu,rfl,rfl⟩:=h; exact ⟨rfl,λM=>by simp [AOp.run,hp,hu]⟩)
         | (obtain ⟨p,hp,q,hq,u,hu,rfl,rfl⟩:=h; exact ⟨rfl,λM=>by simp [AOp.run,hp,hq,hu]⟩)
         | (obtain ⟨p,hp,q,hq,r,hr,u,hu,rfl,rfl⟩:=h; exact ⟨rfl,λM=>by simp [AOp.run,hp,hq,hr,hu]⟩))
end Go.Fx
namespace Go.Fx
open Go
abbrev Tr:=List Value × Mem × List Mem × List (Req × Value × Nat × Nat)
def xQ (call:zj):List AOper->List (Nat × Nat)->List Value->Mem->Option Tr
 | [],_,ts,m=>some (ts,m,[m],[])
 | o::r,lh,ts,m =>
  if zh ts o.guard then
   match o.op.cls with
   | .eff=>(zA call ts m o.op).bind λp=>(xQ call r lh.tail (ja ts o.dst p.1) p.2).map λx=>(x.1,x.2.1,m::x.2.2.1,x.2.2.2)
   | .read=>(o.op.req ts).bind λq=>(q.run m).bind λv=>(xQ call r lh.tail (ja ts o.dst v) m).map λx=>(x.1,x.2.1,x.2.2.1,(q,v,lh.headD (0,0))::x.2.2.2)
   | .pure=>(o.op.run ts m).bind λp=>xQ call r lh.tail (ja ts o.dst p.1) m
  else
   match o.op.cls with
   | .eff=>(xQ call r lh.tail (ja ts o.dst undef) m).map λx=>(x.1,x.2.1,m::x.2.2.1,x.2.2.2)
   | _=>xQ call r lh.tail (ja ts o.dst undef) m
def wU (ms:List Mem) (x:Req × Value × Nat × Nat):Bool :=
 (List.range (x.2.2.2+1 - x.2.2.1)).all λk=>match ms[x.2.2.1+k]? with
  | some M=>match x.1.run M with
   | some u=>veq u x.2.1
   | none=>false
  | none=>false
def kQ (call:zj) (ops:List AOper) (lh:List (Nat × Nat)) (ts:List Value) (m:Mem):Option (List Value × Mem) :=
 (xQ call ops lh ts m).bind λx=>if x.2.2.2.all (wU x.2.2.1)=true then some (x.1,x.2.1) else none
def Jy:Nat->List AOper->List (Nat × Nat)->Bool
 | _,[],_=>true
 | k,o::r,lh=>match o.op.cls with
  | .eff=>Jy (k+1) r lh.tail
  | .read=>lh.headD (0,0) == (k,k)&&Jy k r lh.tail
  | .pure=>Jy k r lh.tail
theorem qdn (call:zj):∀ (ops:List AOper) (k:Nat) (lh:List (Nat × Nat)) (ts:List Value) (m:Mem),Jy k ops lh=true->∀ r,xc call ops ts m=some r ->
    ∃ ms rq,xQ call ops lh ts m=some (r.1,r.2,m::ms,rq)/\∀ pre:List Mem,pre.length=k->rq.all (wU (pre++m::ms))=true:=by
  intro ops
  induction ops with
  | nil =>
    intro k lh ts m _ r hr;simp only [xc,sjI] at hr;subst hr;exact ⟨[],[],rfl,λ_ _=>rfl⟩
  | cons o r ih =>
    intro k lh ts m hs x hr;unfold Jy at hs;unfold xc at hr;unfold xQ;by_cases hw:zh ts o.guard=true
    · rw [if_pos hw] at hr;rw [if_pos hw];cases hc:o.op.cls with
      | eff =>
        rw [hc] at hs;simp only at hs ⊢;obtain ⟨p,hp,hr⟩:=bsI.1 hr;obtain ⟨ms,rq,h1,h2⟩:=ih (k+1) lh.tail _ _ hs x hr;refine ⟨p.2::ms,rq,by rw [hp,bmI,h1]; rfl,λpre hpre=>?_⟩;have:=h2 (pre++[m]) (by simp [hpre]);simpa using this
      | pure =>
        rw [hc] at hs;simp only at hs ⊢;obtain ⟨p,hp,hr⟩:=bsI.1 hr;rw [zJ call ts m (by cases ho:o.op<;>rw [ho] at hc<;>first|rfl|cases hc)] at hp
        obtain ⟨h3,_⟩:=run_pure (v:=p.1) (m':=p.2) hc hp;rw [h3] at hr;obtain ⟨ms,rq,h1,h2⟩:=ih k lh.tail _ _ hs x hr;exact ⟨ms,rq,by rw [hp,bmI,h1],h2⟩
      | read =>
        rw [hc] at hs;simp only [baI,beq_iff_eq] at hs ⊢;obtain ⟨hl,hs⟩:=hs;obtain ⟨p,hp,hr⟩:=bsI.1 hr;rw [zJ call ts m (by cases ho:o.op<;>rw [ho] at hc<;>first|rfl|cases hc)] at hp
        obtain ⟨q,hq1,hq2,hq3⟩:∃ q,o.op.req ts=some q/\q.run m=some p.1/\p.2=m:=by
          cases ho:o.op<;>rw [ho] at hc hp<;>first
            | (cases hc; done)
            | (simp only [AOp.run,bsI,msI] at hp
               first
                 | (obtain ⟨v,hv,u,hu,rfl⟩:=hp; refine ⟨_,by simp only [AOp.req,hv]; rfl,?_,rfl⟩; exact hu)
                 | (obtain ⟨v,hv,l,hl,u,hu,rfl⟩:=hp; refine ⟨_,by simp only [AOp.req,hv,hl,bmI]; rfl,?_,rfl⟩; exact hu)
                 | (obtain ⟨v,hv,l,hl,h,hh,u,hu,rfl⟩:=hp; refine ⟨_,by simp only [AOp.req,hv,hl,hh,bmI]; rfl,?_,rfl⟩; exact hu)
                 | (obtain ⟨v,hv,l,hl,h,hh,k,hk,u,hu,rfl⟩:=hp; refine ⟨_,by simp only [AOp.req,hv,hl,hh,hk,bmI]; rfl,?_,rfl⟩; exact hu))
        rw [hq3] at hr;obtain ⟨ms,rq,h1,h2⟩:=ih k lh.tail _ _ hs x hr;refine ⟨ms,(q,p.1,lh.headD (0,0))::rq,by rw [hq1,bmI,hq2,bmI,h1]; rfl,λpre hpre=>?_⟩;rw [List.all_cons,h2 pre hpre,Bool.and_true,hl];subst hpre;simp [wU,hq2,QA]
    · rw [if_neg hw] at hr;rw [if_neg hw];cases hc:o.op.cls with
      | eff =>
        rw [hc] at hs;simp only at hs ⊢;obtain ⟨ms,rq,h1,h2⟩:=ih (k+1) lh.tail _ _ hs x hr;refine ⟨m::ms,rq,by rw [h1]; rfl,λpre hpre=>?_⟩;have:=h2 (pre++[m]) (by simp [hpre]);simpa using this
      | pure =>
        rw [hc] at hs;simp only at hs ⊢;exact ih k lh.tail _ _ hs x hr
      | read =>
        rw [hc] at hs;simp only [baI] at hs ⊢;obtain ⟨ms,rq,h1,h2⟩:=ih k lh.tail _ _ hs.2 x hr;exact ⟨ms,rq,h1,h2⟩
theorem qeK {call:zj} {ops:List AOper} {lh:List (Nat × Nat)} (h:Jy 0 ops lh=true) {ts:List Value} {m:Mem} {r:List Value × Mem} (hr:xc call ops ts m=some r):kQ call ops lh ts m=some r:=by
 obtain ⟨ms,rq,h1,h2⟩:=qdn call ops 0 lh ts m h r hr;have:=h2 [] rfl;simp only [List.nil_append] at this;simp only [kQ,h1,bmI,this,if_true]
def qN (o:AOper):Bool:=decide (o.op.cls=.eff)
def zp:List AOper->Nat->Nat
 | [],_=>0
 | _::_,0=>0
 | o::r,i+1=>(if qN o then 1 else 0)+zp r i
def Fact (call:zj) (ms:List Mem) (rq:List (Req × Value × Nat × Nat)) (lh:Nat × Nat) (c:Nat) (o:AOper) (T:List Value) (V:Value):Prop :=
 (zh T o.guard=true/\(o.op.cls=.eff->∃ M M',ms[c]? = some M/\ms[c+1]? = some M'/\zA call T M o.op=some (V,M')) /\
  (o.op.cls=.read->∃ q,o.op.req T=some q/\(q,V,lh)∈rq)/\(o.op.cls=.pure->∀ M,o.op.run T M=some (V,M))) ∨
 (zh T o.guard=false/\V=undef/\(o.op.cls=.eff->∃ M,ms[c]? = some M/\ms[c+1]? = some M))
theorem Fact.shift {call:zj} {ms:List Mem} {rq:List (Req × Value × Nat × Nat)} {lh:Nat × Nat} {c:Nat} {o:AOper} {T:List Value} {V:Value} (h:Fact call ms rq lh c o T V) (m:Mem) (q:List (Req × Value × Nat × Nat)):Fact call (m::ms) (q++rq) lh (1+c) o T V:=by
 rcases h with ⟨h1,h2,h3,h4⟩|⟨h1,h2,h3⟩
 ·refine .inl ⟨h1,λhc=>?_,λhc=>?_,h4⟩
  ·obtain ⟨M,M',a,b,d⟩:=h2 hc;exact ⟨M,M',by rw [Nat.add_comm]; exact a,by rw [show 1+c+1=(c+1)+1 by omega]; exact b,d⟩
  ·obtain ⟨q',a,b⟩:=h3 hc;exact ⟨q',a,List.mem_append_right _ b⟩
 ·refine .inr ⟨h1,h2,λhc=>?_⟩;obtain ⟨M,a,b⟩:=h3 hc;exact ⟨M,by rw [Nat.add_comm]; exact a,by rw [show 1+c+1=(c+1)+1 by omega]; exact b⟩
theorem Fact.more {call:zj} {ms:List Mem} {rq:List (Req × Value × Nat × Nat)} {lh:Nat × Nat} {c:Nat} {o:AOper} {T:List Value} {V:Value} (h:Fact call ms rq lh c o T V) (q:List (Req × Value × Nat × Nat)):Fact call ms (q++rq) lh c o T V:=by
 rcases h with ⟨h1,h2,h3,h4⟩|h
 ·refine .inl ⟨h1,h2,λhc=>?_,h4⟩;obtain ⟨q',a,b⟩:=h3 hc;exact ⟨q',a,List.mem_append_right _ b⟩
 ·exact .inr h
theorem facts (call:zj):∀ (ops:List AOper) (lh:List (Nat × Nat)) (ts:List Value) (m:Mem) (ts':List Value) (m':Mem) (ms:List Mem) (rq:List (Req × Value × Nat × Nat)),
  xQ call ops lh ts m=some (ts',m',ms,rq)->∃ (T:Nat->List Value) (V:Nat->Value),T 0=ts/\T ops.length=ts'/\ms[0]? = some m/\ms[zp ops ops.length]? = some m' /\
   ∀ i o,ops[i]? = some o->T (i+1)=ja (T i) o.dst (V i)/\Fact call ms rq (lh[i]?.getD (0,0)) (zp ops i) o (T i) (V i):=by
 intro ops
 induction ops with
 | nil =>
  intro lh ts m ts' m' ms rq h;simp only [xQ,sjI,pjI] at h;obtain ⟨rfl,rfl,rfl,rfl⟩:=h;exact ⟨λ_=>ts,λ_=>undef,rfl,rfl,rfl,rfl,λi o h=>by simp at h⟩
 | cons o r ih =>
  intro lh ts m ts' m' ms rq h;have hlh:∀ i:Nat,lh.tail[i]?.getD (0,0)=lh[i+1]?.getD (0,0):=by intro i; rw [List.getElem?_tail]
  have hlh0:lh.headD (0,0)=lh[0]?.getD (0,0):=by cases lh<;>rfl
  have build:∀ (v:Value) (m1:Mem) (ms1:List Mem) (rq1 q:List (Req × Value × Nat × Nat)),xQ call r lh.tail (ja ts o.dst v) m1=some (ts',m',ms1,rq1) ->
    (if qN o then ms=m::ms1 else ms=ms1/\m1=m)->rq=q++rq1->(Fact call ms rq (lh[0]?.getD (0,0)) 0 o ts v) ->
    ∃ (T:Nat->List Value) (V:Nat->Value),T 0=ts/\T (o::r).length=ts'/\ms[0]? = some m/\ms[zp (o::r) (o::r).length]? = some m' /\
     ∀ i p,(o::r)[i]? = some p->T (i+1)=ja (T i) p.dst (V i)/\Fact call ms rq (lh[i]?.getD (0,0)) (zp (o::r) i) p (T i) (V i):=by
   intro v m1 ms1 rq1 q hrun hms hrq hfact;obtain ⟨T,V,h1,h2,h3,h4,h5⟩:=ih lh.tail _ m1 ts' m' ms1 rq1 hrun;refine ⟨λi=>match i with|0=>ts|i+1=>T i,λi=>match i with|0=>v|i+1=>V i,rfl,h2,?_,?_,?_⟩
   ·split at hms
    ·rw [hms]; rfl
    ·rw [hms.1,h3,hms.2]
   ·simp only [lnI,zp];split at hms
    ·rename_i he;rw [hms,if_pos he,Nat.add_comm]; exact h4
    ·rename_i he;rw [hms.1,if_neg he,Nat.zero_add]; exact h4
   ·intro i p hp;cases i with
    | zero =>
     simp only [List.getElem?_cons_zero,sjI] at hp;subst hp;exact ⟨h1,hfact⟩
    | succ i =>
     obtain ⟨g1,g2⟩:=h5 i p (by simpa using hp);refine ⟨g1,?_⟩;rw [hlh] at g2;simp only [zp];split at hms
     ·rename_i he;rw [hms,hrq,if_pos he]; exact g2.shift m q
     ·rename_i he;rw [hms.1,hrq,if_neg he,Nat.zero_add]; exact g2.more q
  simp only [xQ] at h;split at h
  ·rename_i hw;split at h
   ·rename_i hc;simp only [bsI,msI] at h;obtain ⟨⟨v,m1⟩,hs,⟨ts1,m2,ms1,rq1⟩,hr,he⟩:=h;simp only [pjI] at he;obtain ⟨rfl,rfl,rfl,rfl⟩:=he;have hm1:ms1[0]? = some m1:=by
     obtain ⟨_,_,_,_,h3,_⟩:=ih lh.tail _ m1 _ _ ms1 rq1 hr;exact h3
    exact build v m1 ms1 rq1 [] hr (by simp [qN,hc]) rfl (.inl ⟨hw,λ_=>⟨m,m1,rfl,by simpa using hm1,hs⟩,(λh=>absurd (hc.symm.trans h) (by decide)),(λh=>absurd (hc.symm.trans h) (by decide))⟩)
   ·rename_i hc;simp only [bsI,msI] at h;obtain ⟨q,hq,v,hv,⟨ts1,m2,ms1,rq1⟩,hr,he⟩:=h;simp only [pjI] at he;obtain ⟨rfl,rfl,rfl,rfl⟩:=he;exact build v m ms1 rq1 [(q,v,lh.headD (0,0))] hr (by simp [qN,hc]) rfl (.inl ⟨hw,(λh=>absurd (hc.symm.trans h) (by decide)),λ_=>⟨q,hq,by rw [<- hlh0]; exact List.mem_cons_self ..⟩,(λh=>absurd (hc.symm.trans h) (by decide))⟩)
   ·rename_i hc;simp only [bsI] at h;obtain ⟨⟨v,m1⟩,hs,hr⟩:=h;obtain ⟨rfl,hall⟩:=run_pure hc hs;exact build v m1 ms rq [] hr (by simp [qN,hc]) rfl (.inl ⟨hw,(λh=>absurd (hc.symm.trans h) (by decide)),(λh=>absurd (hc.symm.trans h) (by decide)),λ_=>hall⟩)
  ·rename_i hw;have hw:zh ts o.guard=false:=by simpa using hw
   split at h
   ·rename_i hc;simp only [msI] at h;obtain ⟨⟨ts1,m2,ms1,rq1⟩,hr,he⟩:=h;simp only [pjI] at he;obtain ⟨rfl,rfl,rfl,rfl⟩:=he;have hm1:ms1[0]? = some m:=by
     obtain ⟨_,_,_,_,h3,_⟩:=ih lh.tail _ m _ _ ms1 rq1 hr;exact h3
    exact build undef m ms1 rq1 [] hr (by simp [qN,hc]) rfl (.inr ⟨hw,rfl,λ_=>⟨m,rfl,by simpa using hm1⟩⟩)
   ·rename_i hc;exact build undef m ms rq [] h (by simp [qN]; intro h; exact absurd h hc) rfl (.inr ⟨hw,rfl,λh=>absurd h hc⟩)
inductive Anc (E:Nat->List Nat):Nat->Nat->Prop where
 | base {i e:Nat} (h:e∈E i):Anc E i e
 | step {i e j:Nat} (h:e∈E i) (h':Anc E e j):Anc E i j
theorem Anc.lt {E:Nat->List Nat} (hE:∀ i e,e∈E i->e<i) {i j:Nat} (h:Anc E i j):j<i:=by
 induction h with
 | base h=>exact hE _ _ h
 | step h _ ih=>exact Nat.lt_trans ih (hE _ _ h)
theorem Anc.qo {E:Nat->List Nat} {L:Nat->Prop} (hL:∀ x,L x->∀ e∈E x,L e) {i j:Nat} (h:Anc E i j) (hi:∀ e∈E i,L e):L j:=by
 induction h with
 | base h=>exact hi _ h
 | step h _ ih=>exact ih (hL _ (hi _ h))
def xd (acc:List Nat) (es:List Nat):List Nat:=acc++[es.foldl (λs e=>s ||| 2 ^ e ||| acc[e]?.getD 0) 0]
def xy (l:List (List Nat)):List Nat:=l.foldl xd []
theorem qbe (acc:List Nat) (j:Nat):∀ (es:List Nat) (s:Nat),(es.foldl (λs e=>s ||| 2 ^ e ||| acc[e]?.getD 0) s).testBit j=true->s.testBit j=true∨∃ e∈es,e=j∨(acc[e]?.getD 0).testBit j=true:=by
 intro es
 induction es with
 | nil=>intro s h; exact .inl h
 | cons e es ih =>
  intro s h;rcases ih _ h with h|⟨e',he',h⟩
  ·simp only [Nat.testBit_or,Bool.or_eq_true,Nat.testBit_two_pow,decide_eq_true_eq] at h;rcases h with (h|h)|h
   ·exact .inl h
   ·exact .inr ⟨e,List.mem_cons_self ..,.inl h⟩
   ·exact .inr ⟨e,List.mem_cons_self ..,.inr h⟩
  ·exact .inr ⟨e',List.mem_cons_of_mem _ he',h⟩
theorem Vl (E:Nat->List Nat):∀ (l:List (List Nat)) (acc:List Nat) ,(∀ i es,l[i]? = some es->es=E (acc.length+i))->(∀ i k,acc[i]? = some k->∀ j,k.testBit j=true->Anc E i j) ->
  ∀ i k,(l.foldl xd acc)[i]? = some k->∀ j,k.testBit j=true->Anc E i j:=by
 intro l
 induction l with
 | nil=>intro acc _ h; exact h
 | cons es l ih =>
  intro acc hl hacc;simp only [List.foldl_cons];refine ih (xd acc es) (λi es' h=>?_) (λi k hk j hj=>?_)
  ·have:=hl (i+1) es' (by simpa using h);rw [this]; congr 1; simp [xd]; omega
  ·simp only [xd] at hk;by_cases hi:i<acc.length
   ·rw [List.getElem?_append_left hi] at hk;exact hacc i k hk j hj
   ·rw [List.getElem?_append_right (by omega)] at hk;have hi':i - acc.length=0:=by
     rcases Nat.eq_zero_or_pos (i - acc.length) with h|h
     ·exact h
     ·rw [List.getElem?_eq_none (by simp; omega)] at hk; cases hk
    rw [hi'] at hk;simp only [List.getElem?_cons_zero,sjI] at hk;subst hk;have hEi:es=E i:=by
     have:=hl 0 es rfl;rw [this]; congr 1; omega
    rcases qbe acc j es 0 hj with h|⟨e,he,h⟩
    ·simp at h
    ·rcases h with rfl|h
     ·exact .base (by rw [<- hEi]; exact he)
     ·cases ha:acc[e]? with
      | none=>rw [ha] at h; simp at h
      | some k' =>
       rw [ha] at h;exact .step (by rw [<- hEi]; exact he) (hacc e k' ha j h)
def zR (o:Oper):List Nat:=o.after.toList.filterMap λe=>if Region.binds .any e then some e.on else none
def AOper.looks (o:AOper):List Nat:=o.op.ve++(match o.guard with|some (t,_)=>[t]|none=>[])
def Wz (effs:List Bool) (ms:List Nat) (i:Nat):Nat × Nat :=
  (((List.range effs.length).filter λj=>(effs[j]?.getD false)&&(ms[i]?.getD 0).testBit j).length,
   ((List.range effs.length).filter λj=>(effs[j]?.getD false)&&!(ms[j]?.getD 0).testBit i).length)
def Wu (ms:List Nat) (o p:AOper) (i j:Nat):Bool :=
  (match p.dst with
   | some t=>(!(o.looks.contains t)||(ms[i]?.getD 0).testBit j||(ms[j]?.getD 0).testBit i)&&o.dst != some t
   | none=>true)&&(!(qN o&&qN p)||(ms[i]?.getD 0).testBit j||(ms[j]?.getD 0).testBit i)
def dOk (es:List (List Nat)) (ops:List AOper):Bool :=
 let ms:=xy es
 (List.range ops.length).all λi =>
  ((es[i]?.getD []).all λe=>e<i) &&
  (List.range ops.length).all λj=>i == j||(match ops[i]?,ops[j]? with
   | some o,some p=>Wu ms o p i j
   | _,_=>false)
def wW (es:List (List Nat)) (ops:List AOper):List (Nat × Nat):=(List.range ops.length).map (Wz (ops.map qN) (xy es))
theorem effN_eq:∀ (ops:List AOper) (i:Nat),zp ops i=((List.range ops.length).filter λj=>((ops.map qN)[j]?.getD false)&&decide (j<i)).length:=by
 intro ops
 induction ops with
 | nil=>intro i; simp [zp]
 | cons o r ih =>
  intro i;cases i with
  | zero =>
   have:∀ l:List Nat,(l.filter λ_=>false).length=0:=by intro l; induction l<;>simp_all
   simp [zp,this]
  | succ i =>
   simp only [zp,ih i,lnI,List.range_succ_eq_map,List.filter_cons,List.map_cons,List.getElem?_cons_zero,Option.getD_some,Nat.zero_lt_succ,decide_true,Bool.and_true,List.filter_map,List.length_map];have:((λj=>((qN o::r.map qN)[j]?.getD false)&&decide (j<i+1)) ∘ Nat.succ)=λj=>((r.map qN)[j]?.getD false)&&decide (j<i):=by
    funext j; simp
   rw [this];by_cases h:qN o=true
   ·simp [h]; omega
   ·simp [h]
theorem filter_le {p q:Nat->Bool} (l:List Nat) (h:∀ x∈l,p x=true->q x=true):(l.filter p).length<=(l.filter q).length:=by
 induction l with
 | nil=>simp
 | cons x l ih =>
  have:=ih (λy hy=>h y (List.mem_cons_of_mem _ hy));simp only [List.filter_cons];by_cases hp:p x=true
  ·rw [if_pos hp,if_pos (h x (List.mem_cons_self ..) hp)]; simp; exact this
  ·rw [if_neg hp];by_cases hq:q x=true
   ·rw [if_pos hq]; simp; omega
   ·rw [if_neg hq]; exact this
theorem filter_eq {p q:Nat->Bool} (l:List Nat) (h:∀ x∈l,p x=q x):(l.filter p).length=(l.filter q).length :=
 Nat.le_antisymm (filter_le l λx hx hp=>by rw [<- h x hx]; exact hp) (filter_le l λx hx hq=>by rw [h x hx]; exact hq)
end Go.Fx
namespace Go.Fx
open Go
theorem kE {md:Region.Mode} {ops:Array Oper} {qo:Array Bool} {i:Nat} (h:i∈Region.ready md ops qo) :
  i<ops.size/\qo.getD i true=false/\∃ o,ops[i]? = some o/\∀ e∈o.after,Region.binds md e=true->qo.getD e.on false=true:=by
 unfold Region.ready at h;simp only [List.mem_filter,List.mem_range,baI,Bool.not_eq_true'] at h;obtain ⟨h1,h2,h3⟩:=h;refine ⟨h1,h2,ops[i],Array.getElem?_eq_getElem h1,λe he hb=>?_⟩;rw [Array.getElem?_eq_getElem h1] at h3;simp only [Option.map_some,Option.getD_some,Array.all_eq_true',Bool.or_eq_true,Bool.not_eq_true'] at h3;rcases h3 e he with h|h
 ·rw [hb] at h; cases h
 ·exact h
theorem Hl {md:Region.Mode} {ops:Array Oper} {qo:Array Bool} {i:Nat} {o:Oper} (h1:ops[i]? = some o) (h2:qo.getD i true=false) (h3:∀ e∈o.after,Region.binds md e=true->qo.getD e.on false=true):i∈Region.ready md ops qo:=by
 have hi:i<ops.size:=by
  rcases Nat.lt_or_ge i ops.size with h|h
  ·exact h
  ·rw [Array.getElem?_eq_none h] at h1; cases h1
 unfold Region.ready;simp only [List.mem_filter,List.mem_range,baI,Bool.not_eq_true'];refine ⟨hi,h2,?_⟩;rw [h1];simp only [Option.map_some,Option.getD_some,Array.all_eq_true',Bool.or_eq_true,Bool.not_eq_true'];intro e he;cases hb:Region.binds md e with
 | false=>exact .inl rfl
 | true=>exact .inr (h3 e he hb)
theorem yt {P:Program} {ops:Array Oper}:∀ {l:List Oper} {al:List AOper},kg P ops l=some al->al.length=l.length/\∀ (i:Nat) o,l[i]? = some o->∃ p,al[i]? = some p/\p.dst=o.dst/\yZ P o=p.op /\
  (match o.guard with|none=>p.guard=none|some (j,want)=>∃ t,(ops[j]?).bind (·.dst)=some t/\p.guard=some (t,want))
 | [],al,h=>by simp only [kg,sjI] at h; subst h; exact ⟨rfl,λi o h=>by simp at h⟩
 | o::l,al,h=>by
  simp only [kg,bsI] at h;obtain ⟨al',hal,h⟩:=h;obtain ⟨h1,h2⟩:=yt hal;have hal2:∃ g,al=⟨o.dst,yZ P o,g⟩::al'/\(match o.guard with|none=>g=none|some (j,want)=>∃ t,(ops[j]?).bind (·.dst)=some t/\g=some (t,want)):=by
   split at h
   ·rename_i h0; cases h; exact ⟨none,rfl,by first|rfl|rw [h0]⟩
   ·rename_i j want h0;simp only [msI] at h;obtain ⟨t,ht,rfl⟩:=h;exact ⟨some (t,want),rfl,by first|exact ⟨t,ht,rfl⟩|(rw [h0]; exact ⟨t,ht,rfl⟩)⟩
  obtain ⟨g,rfl,hgu⟩:=hal2;refine ⟨by simp [h1],λi p hp=>?_⟩;cases i with
  | zero =>
   simp only [List.getElem?_cons_zero,sjI] at hp;subst hp;exact ⟨_,rfl,rfl,rfl,hgu⟩
  | succ i=>simpa using h2 i p (by simpa using hp)
theorem jk (ts:List Value) (d:Option Nat) (v:Value):(ja ts d v).length=ts.length:=by cases d<;>simp [ja]
theorem jE (ts:List Value) (d:Option Nat) (v:Value) (t:Nat):(ja ts d v)[t]? = if d=some t/\t<ts.length then some v else ts[t]?:=by
 cases d with
 | none=>simp [ja]
 | some d =>
  simp only [ja,List.getElem?_set,sjI];by_cases h:d=t
  ·subst h;by_cases h2:d<ts.length
   ·simp [h2]
   ·simp [h2]
  ·simp [h]
def cnt (al:List AOper) (L:Nat->Bool):Nat:=((List.range al.length).filter λj=>((al.map qN)[j]?.getD false)&&L j).length
structure Rg (P:Program) (call:zj) (ops:Array Oper) (al:List AOper) (E:Nat->List Nat) (lo hi:Nat->Nat) (ms:List Mem) (ts0:List Value) (T:Nat->List Value) (V:Nat->Value):Prop where
 len:al.length=ops.size
 op:∀ (i:Nat) o,ops[i]? = some o->∃ p,al[i]? = some p/\p.dst=o.dst/\yZ P o=p.op /\
  (match o.guard with|none=>p.guard=none|some (j,want)=>∃ t,(ops[j]?).bind (·.dst)=some t/\p.guard=some (t,want))
 edges:∀ (i:Nat) o,ops[i]? = some o->E i=zR o
 lt:∀ i e,e∈E i->e<i
 slot:∀ (i j:Nat) (o p:AOper) t,i≠j->al[i]? = some o->al[j]? = some p->p.dst=some t->(t∈o.looks->Anc E i j∨Anc E j i)/\o.dst≠some t
 chain:∀ (i j:Nat) (o p:AOper),i≠j->al[i]? = some o->al[j]? = some p->qN o=true->qN p=true->Anc E i j∨Anc E j i
 lo_le:∀ i L,(∀ j,Anc E i j->L j=true)->lo i<=cnt al L
 le_hi:∀ i L,(∀ j,L j=true->¬ Anc E j i)->cnt al L<=hi i
 zero:T 0=ts0
 next:∀ (i:Nat) o,al[i]? = some o->T (i+1)=ja (T i) o.dst (V i)
 eff:∀ (i:Nat) o,al[i]? = some o->zh (T i) o.guard=true->o.op.cls=.eff->∃ M M',ms[zp al i]? = some M/\ms[zp al i+1]? = some M'/\zA call (T i) M o.op=some (V i,M')
 read:∀ (i:Nat) o,al[i]? = some o->zh (T i) o.guard=true->o.op.cls=.read->∃ q,o.op.req (T i)=some q/\∀ k,lo i<=k->k<=hi i->∃ M,ms[k]? = some M/\q.run M=some (V i)
 pure:∀ (i:Nat) o,al[i]? = some o->zh (T i) o.guard=true->o.op.cls=.pure->∀ M,o.op.run (T i) M=some (V i,M)
 idle:∀ (i:Nat) o,al[i]? = some o->zh (T i) o.guard=false->V i=undef/\(o.op.cls=.eff->∃ M,ms[zp al i]? = some M/\ms[zp al i+1]? = some M)
section
variable {P:Program} {call:zj} {ops:Array Oper} {al:List AOper} {E:Nat->List Nat} {lo hi:Nat->Nat} {ms:List Mem} {ts0:List Value} {T:Nat->List Value} {V:Nat->Value}
def xz (al:List AOper) (i:Nat):Option Nat:=(al[i]?).bind (·.dst)
def Fr (al:List AOper) (V:Nat->Value) (ts0:List Value) (L:Nat->Bool) (ts:List Value):Prop :=
 ts.length=ts0.length/\(∀ i d,L i=true->xz al i=some d->d<ts0.length->ts[d]? = some (V i))/\(∀ d,(∀ i,L i=true->xz al i≠some d)->ts[d]? = ts0[d]?)
theorem Rg.kF (R:Rg P call ops al E lo hi ms ts0 T V) {i j d:Nat} (hi:xz al i=some d) (hj:xz al j=some d):i=j:=by
 rcases Nat.decEq i j with h|h
 ·simp only [xz,bsI] at hi hj;obtain ⟨o,ho,hod⟩:=hi;obtain ⟨p,hp,hpd⟩:=hj;exact absurd hod (R.slot i j o p d h ho hp hpd).2
 ·exact h
theorem Rg.fr (R:Rg P call ops al E lo hi ms ts0 T V):∀ i,i<=al.length->Fr al V ts0 (λj=>decide (j<i)) (T i):=by
 intro i
 induction i with
 | zero =>
  intro _;rw [R.zero];exact ⟨rfl,λi d h=>by simp at h,λ_ _=>rfl⟩
 | succ i ih =>
  intro hi';obtain ⟨h1,h2,h3⟩:=ih (by omega);have ho:al[i]? = some (al[i]'(by omega)):=List.getElem?_eq_getElem (by omega);generalize al[i]'(by omega)=o at ho;rw [R.next i o ho];refine ⟨by rw [jk,h1],λj d hj hd hlt=>?_,λd hd=>?_⟩
  ·rw [jE,h1];simp only [decide_eq_true_eq] at hj;by_cases hji:j=i
   ·subst hji;have:o.dst=some d:=by simpa [xz,ho] using hd
    rw [if_pos ⟨this,hlt⟩]
   ·rw [if_neg (λhh=>hji (R.kF hd (by simpa [xz,ho] using hh.1)))];exact h2 j d (by simp; omega) hd hlt
  ·rw [jE];have:o.dst≠some d:=by
    have:=hd i (by simp);simpa [xz,ho] using this
   rw [if_neg (λhh=>this hh.1)];exact h3 d (λj hj=>hd j (by simp at hj ⊢; omega))
theorem Fr.put (R:Rg P call ops al E lo hi ms ts0 T V) {L:Nat->Bool} {ts:List Value} (h:Fr al V ts0 L ts) {i:Nat} {o:AOper} (ho:al[i]? = some o) {L':Nat->Bool} (hL:∀ j,L' j=true↔j=i∨L j=true):Fr al V ts0 L' (ja ts o.dst (V i)):=by
 obtain ⟨h1,h2,h3⟩:=h;refine ⟨by rw [jk,h1],λj d hj hd hlt=>?_,λd hd=>?_⟩
 ·rw [jE,h1];by_cases hji:j=i
  ·subst hji;have:o.dst=some d:=by simpa [xz,ho] using hd
   rw [if_pos ⟨this,hlt⟩]
  ·rw [if_neg (λhh=>hji (R.kF hd (by simpa [xz,ho] using hh.1)))];exact h2 j d (((hL j).1 hj).resolve_left hji) hd hlt
 ·rw [jE];have:o.dst≠some d:=by
   have:=hd i ((hL i).2 (.inl rfl));simpa [xz,ho] using this
  rw [if_neg (λhh=>this hh.1)];exact h3 d (λj hj=>hd j ((hL j).2 (.inr hj)))
theorem Rg.agree (R:Rg P call ops al E lo hi ms ts0 T V) {L:Nat->Bool} {ts:List Value} (h:Fr al V ts0 L ts) (hL:∀ x,L x=true->∀ e∈E x,L e=true) {i:Nat} {o:AOper} (ho:al[i]? = some o) (hi':L i=false) (hr:∀ e∈E i,L e=true):jW o.looks ts (T i):=by
 intro t ht;have hlen:i<al.length:=by
  rcases Nat.lt_or_ge i al.length with h|h
  ·exact h
  ·rw [List.getElem?_eq_none h] at ho; cases ho
 obtain ⟨g1,g2,g3⟩:=R.fr i (by omega);obtain ⟨f1,f2,f3⟩:=h;by_cases hlt:t<ts0.length
 ·by_cases hex:∃ j,xz al j=some t
  ·obtain ⟨j,hj⟩:=hex;by_cases hji:j=i
   ·subst hji;rw [f3 t (λk hk hkd=>by rw [R.kF hkd hj] at hk; rw [hk] at hi'; cases hi'),g3 t (λk hk hkd=>by rw [R.kF hkd hj] at hk; simp at hk)]
   ·have hj':=hj;simp only [xz,bsI] at hj;obtain ⟨p,hp,hpd⟩:=hj;rcases (R.slot i j o p t (Ne.symm hji) ho hp hpd).1 ht with ha|ha
    ·have hLj:L j=true:=ha.qo (L:=λx=>L x=true) hL hr;have hlt':=ha.lt R.lt;rw [f2 j t hLj hj' hlt,g2 j t (by simpa using hlt') hj' hlt]
    ·have hLj:L j=false:=by
      cases hh:L j with
      | false=>rfl
      | true =>
       have:=ha.qo (L:=λx=>L x=true) hL (hL j hh);rw [hi'] at this; cases this
     have hlt':=ha.lt R.lt;rw [f3 t (λk hk hkd=>by rw [R.kF hkd hj'] at hk; rw [hk] at hLj; cases hLj),g3 t (λk hk hkd=>by rw [R.kF hkd hj'] at hk; simp at hk; omega)]
  ·have hn:∀ k,xz al k≠some t:=λk hk=>hex ⟨k,hk⟩
   rw [f3 t (λk _=>hn k),g3 t (λk _=>hn k)]
 ·rw [List.getElem?_eq_none (by omega),List.getElem?_eq_none (by omega)]
theorem qij (al:List AOper) {L L':Nat->Bool} {i:Nat} {o:AOper} (ho:al[i]? = some o) (hi:L i=false) (hL:∀ j,L' j=true↔j=i∨L j=true):cnt al L'=cnt al L+(if qN o then 1 else 0):=by
 have hlen:i<al.length:=by
  rcases Nat.lt_or_ge i al.length with h|h
  ·exact h
  ·rw [List.getElem?_eq_none h] at ho; cases ho
 unfold cnt;have hL':∀ j,L' j=(decide (j=i)||L j):=by
  intro j;rw [Bool.eq_iff_iff]; simp [hL j]
 have key:∀ (l:List Nat),l.Nodup->(l.filter λj=>((al.map qN)[j]?.getD false)&&L' j).length=(l.filter λj=>((al.map qN)[j]?.getD false)&&L j).length+(if i∈l/\qN o=true then 1 else 0):=by
  intro l
  induction l with
  | nil=>intro _; simp
  | cons x l ih =>
   intro hnd;rw [List.nodup_cons] at hnd;have:=ih hnd.2;simp only [List.filter_cons,hL',lcI];simp only [hL'] at this;by_cases hx:x=i
   ·subst hx;have hx':(al.map qN)[x]?.getD false=qN o:=by simp [ho]
    simp only [hx',hi,decide_true,Bool.true_or,Bool.and_true,Bool.and_false,Bool.false_eq_true,if_false,true_or,true_and];have hnot:¬ (x∈l/\qN o=true):=λh=>hnd.1 h.1
    rw [if_neg hnot] at this;by_cases he:qN o=true
    ·rw [if_pos he,if_pos he,lnI,this]
    ·rw [if_neg he,if_neg he,this]
   ·simp only [hx,decide_false,Bool.false_or,Ne.symm hx,false_or];have hx2:(i=x)=False:=by simp; exact λh=>hx h.symm
    by_cases he:((al.map qN)[x]?.getD false&&L x)=true
    ·rw [if_pos he,if_pos he,lnI,lnI,this]; omega
    ·rw [if_neg he,if_neg he,this]
 rw [key _ List.nodup_range];simp [hlen]
theorem Rg.qcx (R:Rg P call ops al E lo hi ms ts0 T V) {L:Nat->Bool} (hL:∀ x,L x=true->∀ e∈E x,L e=true) (hsub:∀ x,L x=true->x<al.length) {i:Nat} {o:AOper} (ho:al[i]? = some o) (he:qN o=true) (hi':L i=false) (hr:∀ e∈E i,L e=true):cnt al L=zp al i:=by
 rw [effN_eq];unfold cnt;refine filter_eq _ λj hj=>?_
 cases hje:(al.map qN)[j]?.getD false with
 | false=>rfl
 | true =>
  have hjl:j<al.length:=by simpa using hj
  have hp:al[j]? = some al[j]:=List.getElem?_eq_getElem hjl;have hpe:qN al[j]=true:=by simpa [hp] using hje
  by_cases hji:j=i
  ·subst hji; simp [hi']
  ·rcases R.chain i j o al[j] (Ne.symm hji) ho hp he hpe with ha|ha
   ·have hLj:L j=true:=ha.qo (L:=λx=>L x=true) hL hr;have hlt:=ha.lt R.lt;simp [hLj,hlt]
   ·have hLj:L j=false:=by
     cases hh:L j with
     | false=>rfl
     | true =>
      have:=ha.qo (L:=λx=>L x=true) hL (hL j hh);rw [hi'] at this; cases this
    have hlt:=ha.lt R.lt;simp [hLj]; omega
end
end Go.Fx
namespace Go.Fx
open Go
section
variable {P:Program} {call:zj} {ops:Array Oper} {al:List AOper} {E:Nat->List Nat} {lo hi:Nat->Nat} {ms:List Mem} {ts0:List Value} {T:Nat->List Value} {V:Nat->Value}
def isL (qo:Array Bool) (i:Nat):Bool:=qo.getD i false
structure J (P:Program) (al:List AOper) (E:Nat->List Nat) (ms:List Mem) (ts0:List Value) (V:Nat->Value) (φ0:Ren) (m0:Mem) (w0:World) (a0:Act) (qo:Array Bool) (a:Act) (w:World):Prop where
 sz:qo.size=al.length
 closed:∀ x,isL qo x=true->∀ e∈E x,isL qo e=true
 st:∃ φ ts M,VRs φ ts a.tmps.toList/\Inv φ M w/\Frm φ0 m0 w0 φ M w/\ms[cnt al (isL qo)]? = some M/\a.defers=a0.defers/\Fr al V ts0 (isL qo) ts
theorem WC {qo:Array Bool} {i:Nat} (hi:i<qo.size) (j:Nat):isL (qo.setIfInBounds i true) j=true↔j=i∨isL qo j=true:=by
 unfold isL;simp only [Array.getD_eq_getD_getElem?,Array.getElem?_setIfInBounds];by_cases h:i=j
 ·subst h; simp [hi]
 ·simp [h,Ne.symm h]
theorem yO {qo:Array Bool} {i:Nat} (h:qo.getD i true=false):isL qo i=false:=by
 unfold isL;rcases Nat.lt_or_ge i qo.size with h'|h'
 ·simp [h'] at h ⊢; exact h
 ·simp [Array.getElem?_eq_none h'] at h ⊢
theorem Rg.step {ro:Option Nat} (hc:CallOk P call) (hg:∀ f args m r,f<yBase->call f args m=some r->zX P f=true) (R:Rg P call ops al E lo hi ms ts0 T V) {φ0:Ren} {m0:Mem} {w0:World} {a0 a:Act} {w:World} {qo:Array Bool}
  (h:J P al E ms ts0 V φ0 m0 w0 a0 qo a w) {i:Nat} (hr:i∈Region.ready .any ops qo) {K:Act->World->Prop} {Q:Exit->Act->World->Prop} (hK:∀ a' w',J P al E ms ts0 V φ0 m0 w0 a0 (qo.setIfInBounds i true) a' w'->K a' w'):wpOpIn (rf ro) 0 P ops Q i K a w:=by
 obtain ⟨hi1,hi2,o,ho,hedge⟩:=kE hr;obtain ⟨p,hp,hpd,hpr,hpg⟩:=R.op i o ho;have hLi:=yO hi2;have hEl:∀ e∈E i,isL qo e=true:=by
  intro e he;rw [R.edges i o ho] at he;simp only [zR,List.mem_filterMap] at he;obtain ⟨x,hx,hxe⟩:=he;split at hxe
  ·rename_i hb;cases hxe
   exact hedge x (by simpa using hx) hb
  ·cases hxe
 obtain ⟨φ,ts,M,hvr,hinv,hfrm,hms,hdef,hfr⟩:=h.st;have hag:=R.agree hfr h.closed hp hLi hEl;have hagS:jW p.op.ve ts (T i):=λt ht=>hag t (by simp [AOper.looks,ht])
 have hsz:i<qo.size:=by rw [h.sz,R.len]; exact hi1
 have hset:=WC hsz;have hclosed':∀ x,isL (qo.setIfInBounds i true) x=true->∀ e∈E x,isL (qo.setIfInBounds i true) e=true:=by
  intro x hx e he;rcases (hset x).1 hx with rfl|hx
  ·exact (hset e).2 (.inr (hEl e he))
  ·exact (hset e).2 (.inr (h.closed x hx e he))
 have hcnt:=qij al hp hLi hset;have hwantT:zh ts p.guard=zh (T i) p.guard:=by
  cases hgd:p.guard with
  | none=>rfl
  | some g =>
   obtain ⟨t,want⟩:=g;have:ts[t]? = (T i)[t]?:=hag t (by simp [AOper.looks,hgd]);simp [zh,this]
 have hw:Region.wanted o (yielded ops a.tmps)=zh (T i) p.guard:=by rw [<- hwantT]; exact Zw hvr hpg
 have fin:∀ (V':Value) (w':World) (φ':Ren) (M':Mem),VR φ' (V i) V'->Inv φ' M' w'->Frm φ M w φ' M' w'->ms[cnt al (isL (qo.setIfInBounds i true))]? = some M'->K (a.put o.dst V') w':=by
  intro V' w' φ' M' h1 h2 h3 h4;refine hK _ _ ⟨by rw [Array.size_setIfInBounds]; exact h.sz,hclosed',φ',ja ts p.dst (V i),M',?_,h2,hfrm.trans h3,h4,by rw [put_defers,hdef],hfr.put R hp hset⟩;rw [<- hpd];exact XM (hvr.mono h3.ren) p.dst h1
 unfold wpOpIn;rw [ho];simp only;rw [hw];cases hwant:zh (T i) p.guard with
 | false =>
  simp only [Bool.false_eq_true,if_false];refine ⟨λ_ _=>trivial,?_⟩;obtain ⟨hV,hM⟩:=R.idle i p hp hwant;have hVu:VR φ (V i) undef:=by rw [hV]; exact VR.undef φ
  refine fin undef w φ M hVu hinv (Frm.refl φ M w) ?_;rw [hcnt];by_cases he:qN p=true
  ·rw [if_pos he];obtain ⟨M1,hM1,hM2⟩:=hM (by simpa [qN] using he);have hce:=R.qcx h.closed (λx hx=>by
    rcases Nat.lt_or_ge x qo.size with h'|h'
    ·rw [<- h.sz]; exact h'
    ·simp [isL,Array.getElem?_eq_none h'] at hx) hp he hLi hEl
   rw [hce] at hms ⊢;rw [hms] at hM1; cases hM1
   exact hM2
  ·rw [if_neg he]; exact hms
 | true =>
  simp only [if_true];cases hcl:p.op.cls with
  | eff =>
   obtain ⟨M1,M2,hM1,hM2,hs⟩:=R.eff i p hp hwant hcl;have he:qN p=true:=by simp [qN,hcl]
   have hce:=R.qcx h.closed (λx hx=>by
    rcases Nat.lt_or_ge x qo.size with h'|h'
    ·rw [<- h.sz]; exact h'
    ·simp [isL,Array.getElem?_eq_none h'] at hx) hp he hLi hEl
   rw [hce] at hms;rw [hms] at hM1; cases hM1
   rw [<- jr call M hagS] at hs;refine jh hc hg hpr hinv hvr hs ?_;intro V' w' φ' h1 h2 h3;refine fin V' w' φ' M2 h1 h2 h3 ?_;rw [hcnt,if_pos he,hce];exact hM2
  | read =>
   have he:qN p=false:=by simp [qN,hcl]
   obtain ⟨q,hq,hall⟩:=R.read i p hp hwant hcl;have hlo:=R.lo_le i (isL qo) (λj hj=>hj.qo (L:=λx=>isL qo x=true) h.closed hEl);have hhi:=R.le_hi i (isL qo) (λj hj ha=>by
    have:=ha.qo (L:=λx=>isL qo x=true) h.closed (h.closed j hj);rw [hLi] at this; cases this)
   obtain ⟨M1,hM1,hrun⟩:=hall _ hlo hhi;rw [hms] at hM1; cases hM1
   rw [<- yD hagS] at hq;have hs:zA call ts M p.op=some (V i,M):=by rw [zJ call ts M (Qj hq)]; exact Qd hq hrun
   refine jh hc hg hpr hinv hvr hs ?_;intro V' w' φ' h1 h2 h3;refine fin V' w' φ' M h1 h2 h3 ?_;rw [hcnt,if_neg (by simp [he])]; exact hms
  | pure =>
   have he:qN p=false:=by simp [qN,hcl]
   have hall:=R.pure i p hp hwant hcl M;have hnc:p.op.vC=false:=by
    cases hop:p.op<;>rw [hop] at hcl<;>first|rfl|simp [AOp.cls] at hcl
   have hs:zA call ts M p.op=some (V i,M):=by rw [jr call M hagS,zJ call _ M hnc]; exact hall
   refine jh hc hg hpr hinv hvr hs ?_;intro V' w' φ' h1 h2 h3;refine fin V' w' φ' M h1 h2 h3 ?_;rw [hcnt,if_neg (by simp [he])]; exact hms
def left (qo:Array Bool) (n:Nat):Nat:=((List.range n).filter λi=>!isL qo i).length
theorem Hw {qo:Array Bool} {i n:Nat} (hi:i<qo.size) (hn:i<n) (hl:isL qo i=false):left (qo.setIfInBounds i true) n+1=left qo n:=by
 unfold left;have hset:=WC hi;have key:∀ (l:List Nat),l.Nodup->(l.filter λj=>!isL (qo.setIfInBounds i true) j).length+(if i∈l then 1 else 0)=(l.filter λj=>!isL qo j).length:=by
  intro l
  induction l with
  | nil=>intro _; rfl
  | cons x l ih =>
   intro hnd;rw [List.nodup_cons] at hnd;have:=ih hnd.2;simp only [List.filter_cons,lcI];by_cases hx:x=i
   ·subst hx;have h1:isL (qo.setIfInBounds x true) x=true:=(hset x).2 (.inl rfl);rw [if_neg hnd.1] at this;simp only [h1,hl,Bool.not_true,Bool.not_false,Bool.false_eq_true,if_false,if_true,true_or,lnI];omega
   ·have h1:isL (qo.setIfInBounds i true) x=isL qo x:=by
     rw [Bool.eq_iff_iff,hset x]; simp [hx]
    simp only [h1,Ne.symm hx,false_or];cases isL qo x<;>simp<;>omega
 have:=key _ (List.nodup_range (n:=n));simpa [hn] using this
theorem Rg.any {ro:Option Nat} (hc:CallOk P call) (hg:∀ f args m r,f<yBase->call f args m=some r->zX P f=true) (R:Rg P call ops al E lo hi ms ts0 T V) {φ0:Ren} {m0:Mem} {w0:World} {a0:Act} {Q:Exit->Act->World->Prop}
  (hQ:∀ φ a w M,VRs φ (T al.length) a.tmps.toList->ms[zp al al.length]? = some M->Inv φ M w->Frm φ0 m0 w0 φ M w->a.defers=a0.defers->Q .normal a w) :
  ∀ (fuel:Nat) (qo:Array Bool) (a:Act) (w:World),left qo al.length=fuel->J P al E ms ts0 V φ0 m0 w0 a0 qo a w->wpAnyIn (rf ro) 0 P .any ops Q fuel qo a w:=by
 have done:∀ (qo:Array Bool) (a:Act) (w:World),left qo al.length=0->J P al E ms ts0 V φ0 m0 w0 a0 qo a w->Region.ready .any ops qo=[]/\Q .normal a w:=by
  intro qo a w h0 h;have hall:∀ i,i<al.length->isL qo i=true:=by
   intro i hi;unfold left at h0;have:=List.length_eq_zero_iff.1 h0;rw [List.filter_eq_nil_iff] at this;simpa using this i (by simpa using hi)
  refine ⟨?_,?_⟩
  ·apply List.eq_nil_iff_forall_not_mem.2;intro i hr;obtain ⟨hi1,hi2,_⟩:=kE hr;have:=hall i (by rw [R.len]; exact hi1);rw [yO hi2] at this; cases this
  ·obtain ⟨φ,ts,M,hvr,hinv,hfrm,hms,hdef,f1,f2,f3⟩:=h.st;obtain ⟨g1,g2,g3⟩:=R.fr al.length (Nat.le_refl _);have hLt:∀ i,isL qo i=true->i<al.length:=by
    intro i hi;rcases Nat.lt_or_ge i qo.size with h'|h'
    ·rw [<- h.sz]; exact h'
    ·simp [isL,Array.getElem?_eq_none h'] at hi
   have hts:ts=T al.length:=by
    apply List.ext_getElem?;intro d;by_cases hlt:d<ts0.length
    ·by_cases hex:∃ j,xz al j=some d
     ·obtain ⟨j,hj⟩:=hex;have hjl:j<al.length:=by
       rcases Nat.lt_or_ge j al.length with h'|h'
       ·exact h'
       ·simp [xz,List.getElem?_eq_none h'] at hj
      rw [f2 j d (hall j hjl) hj hlt,g2 j d (by simpa using hjl) hj hlt]
     ·rw [f3 d (λk _ hk=>hex ⟨k,hk⟩),g3 d (λk _ hk=>hex ⟨k,hk⟩)]
    ·rw [List.getElem?_eq_none (by omega),List.getElem?_eq_none (by omega)]
   have hcnt:cnt al (isL qo)=zp al al.length:=by
    rw [effN_eq];unfold cnt;refine filter_eq _ λj hj=>?_
    have hj':j<al.length:=by simpa using hj
    simp [hall j hj',hj']
   rw [hcnt] at hms;exact hQ φ a w M (hts ▸ hvr) hms hinv hfrm hdef
 intro fuel
 induction fuel with
 | zero=>intro qo a w h0 h; exact done qo a w h0 h
 | succ fuel ih =>
  intro qo a w hf h;refine ⟨λhnil=>?_,λi hr=>?_⟩
  ·exfalso;have hex:∃ i,i<al.length/\isL qo i=false/\∀ j,j<i->isL qo j=true:=by
    have hne:∃ i,i<al.length/\isL qo i=false:=by
     unfold left at hf;cases hl:(List.range al.length).filter (λi=>!isL qo i) with
     | nil=>rw [hl] at hf; simp at hf
     | cons x l =>
      have:x∈(List.range al.length).filter (λi=>!isL qo i):=by rw [hl]; exact List.mem_cons_self ..
      simp only [List.mem_filter,List.mem_range,Bool.not_eq_true'] at this;exact ⟨x,this⟩
    obtain ⟨i,h1,h2⟩:=hne
    induction i using Nat.strongRecOn with
    | _ i ihi =>
     by_cases hm:∀ j,j<i->isL qo j=true
     ·exact ⟨i,h1,h2,hm⟩
     ·have:∃ j,j<i/\isL qo j=false:=by
       apply Classical.byContradiction;intro hn;apply hm;intro j hj;cases hh:isL qo j with
       | true=>rfl
       | false=>exact absurd ⟨j,hj,hh⟩ hn
      obtain ⟨j,hj,hj2⟩:=this;exact ihi j hj (by omega) hj2
   obtain ⟨i,h1,h2,h3⟩:=hex;have hi1:i<ops.size:=by rw [<- R.len]; exact h1
   have ho:ops[i]? = some ops[i]:=Array.getElem?_eq_getElem hi1;have hmem:i∈Region.ready .any ops qo:=by
    refine Hl ho ?_ (λe he hb=>?_)
    ·have:i<qo.size:=by rw [h.sz]; exact h1
     unfold isL at h2;simp [this] at h2 ⊢; exact h2
    ·have hmemE:e.on∈E i:=by
      rw [R.edges i _ ho];simp only [zR,List.mem_filterMap];exact ⟨e,by simpa using he,by rw [if_pos hb]⟩
     exact h3 e.on (R.lt i e.on hmemE)
   rw [hnil] at hmem; cases hmem
  ·have hi:=kE hr;refine R.step hc hg h hr (λa' w' h'=>ih _ a' w' ?_ h');have:=Hw (n:=al.length) (qo:=qo) (i:=i) (by rw [h.sz,R.len]; exact hi.1) (by rw [R.len]; exact hi.1) (yO hi.2.1);omega
end
theorem Jr {ro:Option Nat} {P:Program} {call:zj} (hc:CallOk P call) (hg:∀ f args m r,f<yBase->call f args m=some r->zX P f=true) (hm:P.follows .mixedOrders=true) {id:Nat} {ops:Array Oper} {al:List AOper} {ts:List Value} {m:Mem} {a:Act} {w:World} {φ:Ren} {ts':List Value} {m':Mem} {Q:Exit->Act->World->Prop}
  (hal:kg P ops ops.toList=some al) (hd:dOk (ops.toList.map zR) al=true) (hi:Inv φ m w) (ht:VRs φ ts a.tmps.toList) (hr:kQ call al (wW (ops.toList.map zR) al) ts m=some (ts',m'))
  (hQ:∀ a' w',St φ m w a ts' m' a' w'->Q .normal a' w'):(Code.region id ops true).wpIn (rf ro) 0 P Q a w:=by
 simp only [kQ,bsI] at hr;obtain ⟨⟨ts1,m1,ms,rq⟩,htr,hr⟩:=hr;split at hr
 ·rename_i hok;cases hr
  obtain ⟨T,V,hT0,hTn,hms0,hmsn,hfact⟩:=facts call al _ ts m _ _ ms rq htr;obtain ⟨hlen,hops⟩:=yt hal;have hlen':al.length=ops.size:=by rw [hlen]; simp
  generalize hes:ops.toList.map zR=es at hd htr hfact;have hesl:es.length=al.length:=by rw [<- hes,hlen']; simp
  have hE:∀ (i:Nat) o,ops[i]? = some o->es[i]?.getD []=zR o:=by
   intro i o ho;rw [<- hes]; simp [ho]
  have hEn:∀ (i:Nat),al.length<=i->es[i]?.getD []=[]:=by
   intro i hi;rw [List.getElem?_eq_none (by omega)]; rfl
  have hanc:∀ i k,(xy es)[i]? = some k->∀ j,k.testBit j=true->Anc (λi=>es[i]?.getD []) i j :=
   Vl (λi=>es[i]?.getD []) es [] (λi x hx=>by simp [hx]) (λi k h=>by simp at h)
  have hanc':∀ i j,((xy es)[i]?.getD 0).testBit j=true->Anc (λi=>es[i]?.getD []) i j:=by
   intro i j h;cases hk:(xy es)[i]? with
   | none=>rw [hk] at h; simp at h
   | some k=>rw [hk] at h; exact hanc i k hk j h
  unfold dOk at hd;simp only [List.all_eq_true,List.mem_range,baI,Bool.or_eq_true,beq_iff_eq,decide_eq_true_eq] at hd;have hlt:∀ (i e:Nat),e∈es[i]?.getD []->e<i:=by
   intro i e he;rcases Nat.lt_or_ge i al.length with h'|h'
   ·exact (hd i h').1 e he
   ·rw [hEn i h'] at he; cases he
  have hpair:∀ (i j:Nat) (o p:AOper),i≠j->al[i]? = some o->al[j]? = some p->Wu (xy es) o p i j=true:=by
   intro i j o p hij ho hp;have hi:i<al.length:=by
    rcases Nat.lt_or_ge i al.length with h|h
    ·exact h
    ·rw [List.getElem?_eq_none h] at ho; cases ho
   have hj:j<al.length:=by
    rcases Nat.lt_or_ge j al.length with h|h
    ·exact h
    ·rw [List.getElem?_eq_none h] at hp; cases hp
   rcases (hd i hi).2 j hj with h|h
   ·exact absurd h hij
   ·rw [ho,hp] at h; exact h
  have R:Rg P call ops al (λi=>es[i]?.getD []) (λi=>(wW es al)[i]?.getD (0,0) |>.1) (λi=>if i<al.length then ((wW es al)[i]?.getD (0,0)).2 else al.length) ms ts T V:=by
   have hdl:∀ i,i<al.length->(wW es al)[i]?.getD (0,0)=Wz (al.map qN) (xy es) i:=by
    intro i hi; simp [wW,hi]
   refine ⟨hlen',λi o ho=>hops i o (by simpa using ho),λi o ho=>hE i o ho,hlt,λi j o p t hij ho hp hpt=>?_,λi j o p hij ho hp hoe hpe=>?_,λi L hL=>?_,λi L hL=>?_,hT0,λi o ho=>(hfact i o ho).1,λi o ho hw hcl=>?_,λi o ho hw hcl=>?_,λi o ho hw hcl=>?_,λi o ho hw=>?_⟩
   ·have:=hpair i j o p hij ho hp;simp only [Wu,hpt,baI,Bool.or_eq_true,Bool.not_eq_true',bne_iff_ne,ne_eq] at this;refine ⟨λhmem=>?_,this.1.2⟩;rcases this.1.1 with (h|h)|h
    ·rw [List.contains_eq_mem] at h; simp [hmem] at h
    ·exact .inl (hanc' i j h)
    ·exact .inr (hanc' j i h)
   ·have:=hpair i j o p hij ho hp;simp only [Wu,baI,Bool.or_eq_true,Bool.not_eq_true',Bool.and_eq_false_iff] at this;rcases this.2 with (h|h)|h
    ·rcases h with h|h
     ·rw [hoe] at h; cases h
     ·rw [hpe] at h; cases h
    ·exact .inl (hanc' i j h)
    ·exact .inr (hanc' j i h)
   ·rcases Nat.lt_or_ge i al.length with hi|hi
    ·rw [hdl i hi];unfold cnt;simp only [Wz,List.length_map];refine filter_le _ λj hj hp=>?_
     simp only [baI] at hp ⊢;exact ⟨hp.1,hL j (hanc' i j hp.2)⟩
    ·have:(wW es al)[i]? = none:=List.getElem?_eq_none (by simp [wW]; omega);simp [this]
   ·rcases Nat.lt_or_ge i al.length with hi|hi
    ·rw [if_pos hi,hdl i hi];unfold cnt;simp only [Wz,List.length_map];refine filter_le _ λj hj hp=>?_
     simp only [baI,Bool.not_eq_true'] at hp ⊢;refine ⟨hp.1,?_⟩;cases hh:((xy es)[j]?.getD 0).testBit i with
     | false=>rfl
     | true=>exact absurd (hanc' j i hh) (hL j hp.2)
    ·rw [if_neg (by omega)];unfold cnt;have:=List.length_filter_le (λj=>((al.map qN)[j]?.getD false)&&L j) (List.range al.length);simpa using this
   ·rcases (hfact i o ho).2 with ⟨_,h2,_,_⟩|⟨h1,_⟩
    ·exact h2 hcl
    ·rw [hw] at h1; cases h1
   ·rcases (hfact i o ho).2 with ⟨_,_,h3,_⟩|⟨h1,_⟩
    ·obtain ⟨q,hq,hmem⟩:=h3 hcl;refine ⟨q,hq,λk hk1 hk2=>?_⟩;have hi:i<al.length:=by
      rcases Nat.lt_or_ge i al.length with h|h
      ·exact h
      ·rw [List.getElem?_eq_none h] at ho; cases ho
     rw [if_pos hi] at hk2;have:=List.all_eq_true.1 hok _ hmem;simp only [wU,List.all_eq_true,List.mem_range] at this;have hk:=this (k - ((wW es al)[i]?.getD (0,0)).1) (by omega);rw [show ((wW es al)[i]?.getD (0,0)).1+(k - ((wW es al)[i]?.getD (0,0)).1)=k by omega] at hk;split at hk
     ·rename_i M hM;split at hk
      ·rename_i u hu;have:=veq_eq _ _ hk;subst this;exact ⟨M,hM,hu⟩
      ·cases hk
     ·cases hk
    ·rw [hw] at h1; cases h1
   ·rcases (hfact i o ho).2 with ⟨_,_,_,h4⟩|⟨h1,_⟩
    ·exact h4 hcl
    ·rw [hw] at h1; cases h1
   ·rcases (hfact i o ho).2 with ⟨h1,_⟩|⟨_,h2,h3⟩
    ·rw [hw] at h1; cases h1
    ·exact ⟨h2,h3⟩
  refine wpIn_region_any hm ?_;have hleft:left (Array.replicate ops.size false) al.length=ops.size:=by
   unfold left;have:(List.range al.length).filter (λi=>!isL (Array.replicate ops.size false) i)=List.range al.length:=by
    rw [List.filter_eq_self];intro i hi;have hi':i<ops.size:=by rw [<- hlen']; simpa using hi
    simp [isL,hi']
   rw [this,List.length_range,hlen']
  refine R.any (φ0:=φ) (m0:=m) (w0:=w) (a0:=a) hc hg (λφ' a' w' M h1 h2 h3 h4 h5=>?_) ops.size _ a _ hleft ?_
  ·rw [hTn] at h1;rw [hmsn] at h2; cases h2
   exact hQ a' w' ⟨φ',h1,h3,h4,h5⟩
  ·have hnone:∀ i,isL (Array.replicate ops.size false) i=false:=by
    intro i;unfold isL;rcases Nat.lt_or_ge i ops.size with h|h
    ·simp [h]
    ·simp [h]
   refine ⟨by simp [hlen'],(λx hx=>absurd hx (by rw [hnone x]; decide)),φ,ts,m,ht,hi.drawn rfl,Frm.drawn rfl rfl rfl rfl,?_,rfl,rfl,(λi d h=>absurd h (by rw [hnone i]; decide)),λd _=>rfl⟩;have:cnt al (isL (Array.replicate ops.size false))=0:=by
    unfold cnt;rw [List.length_eq_zero_iff,List.filter_eq_nil_iff];intro i _;simp [hnone i]
   rw [this]; exact hms0
 ·cases hr
end Go.Fx
