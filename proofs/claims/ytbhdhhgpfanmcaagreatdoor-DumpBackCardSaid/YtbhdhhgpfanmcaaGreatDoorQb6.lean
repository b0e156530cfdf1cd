/- Parts of a proof: FxStep, FxTmps, FxDraw, FxDraw2. Conditions: none. -/
import Derived.LoopNIn
import Derived.TacticsIn
import Derived.OrdersIn
import Derived.RangeFuncSeq
import Derived.Tactics
import Derived.Scope
import Derived.Orders
import Derived.Test.YtbhdhhgpfanmcaaGreatDoorQb5
namespace Go.Fx
open Go
structure AOper where
 dst:Option Nat
 op:AOp
 guard:Option (Nat × Bool)
abbrev zi:=FuncId->List Value->Mem->Option (Value × Mem)
def kE:Value->Option (FuncId × List Value × List Value)
 | .func (.func f) first cap=>bif Nat.blt f yBase then some (f,first.toList,cap.toList) else none
 | .func (.yield N) _ _=>some (yBase+N,[],[])
 | _=>none
def zA (call:zi) (ts:List Value) (m:Mem):AOp->Option (Value × Mem)
 | .call f xs=>(kg ts xs).bind λl=>call f l m
 | .callv x xs=>(zc ts x).bind λv=>(kE v).bind λp=>(kg ts xs).bind λl=>call p.1 (p.2.1++(l++p.2.2)) m
 | o=>o.run ts m
def xX (ts:List Value) (dst:Option Nat) (v:Value):List Value :=
 match dst with
 | some d=>ts.set d v
 | none=>ts
def zg (ts:List Value) (g:Option (Nat × Bool)):Bool :=
 match g with
 | none=>true
 | some (t,want)=>match ts[t]? with
  | some (.bool b)=>b == want
  | _=>false
def zZ (call:zi):List AOper->List Value->Mem->Option (List Value × Mem)
 | [],ts,m=>some (ts,m)
 | o::r,ts,m =>
  if zg ts o.guard then (zA call ts m o.op).bind λp=>zZ call r (xX ts o.dst p.1) p.2
  else zZ call r (xX ts o.dst undef) m
def yX (P:Program) (o:Oper):AOp:=(res P o).getD .stop
def jY (P:Program) (ops:Array Oper):List Oper->Option (List AOper)
 | []=>some []
 | o::r=>(jY P ops r).bind λl =>
  match o.guard with
  | none=>some (⟨o.dst,yX P o,none⟩::l)
  | some (j,want)=>((ops[j]?).bind (·.dst)).map λt=>⟨o.dst,yX P o,some (t,want)⟩::l
def rf (ro:Option Nat):Fence:={ Fence.wide with round:=ro }
theorem He (ro:Option Nat) (k:Nat):(rf ro).depth.isSome=true->1<=k:=λh=>(by cases h)
theorem Hf {ro:Option Nat} {n:Nat} {P:Program} {f:FuncId} {args:Array Value} {w:World} {R:Ending->World->Prop}:CallsIn (rf ro) n P f args w R↔Calls P f args w R :=
 Iff.trans (show CallsIn (rf ro) n P f args w R↔CallsIn Fence.wide n P f args w R from Iff.rfl) callsIn_wide
def vP (P:Program) (φ:Ren) (m:Mem) (w:World) (f:FuncId) (args:Array Value) (v:Value) (m':Mem):Prop :=
 Calls P f args w λe w'=>∃ V φ',e=.returned V/\VR φ' v V/\Inv φ' m' w'/\Frm φ m w φ' m' w'
def qkd (P:Program) (φ:Ren) (m:Mem) (w:World) (N:Nat) (args:Array Value) (v:Value) (m':Mem):Prop :=
 ∃ l b,φ N=some l/\v=.bool b/\YieldAt (rf none) 0 P l.blk args w λe w'=>e=.returned (.bool b)/\∃ φ',Inv φ' m' w'/\Frm φ m w φ' m' w'
structure CallOk (P:Program) (call:zi):Prop where
 fn:∀ f args m v m',f<yBase->call f args m=some (v,m')->∀ φ w (ARGS:Array Value),Inv φ m w->VRs φ args ARGS.toList->vP P φ m w f ARGS v m'
 yl:∀ N args m v m',call (yBase+N) args m=some (v,m')->∀ φ w (ARGS:Array Value),Inv φ m w->VRs φ args ARGS.toList->qkd P φ m w N ARGS v m'
theorem qeH {P:Program} {w:World} {ρ:Operand->Value} {x:Operand} {f:FuncId} {fst cap:Array Value} {xs:Array Operand} {tys:Array TypeId} {ty:TypeId} {d:Option Tmp} {pos:String} {af:Array Edge} {g:Option (Nat × Bool)}
  (hx:ρ x=.func (.func f) fst cap) (hf:zW P f=true) :
  (execOp ρ ⟨d,.call { callee:=.value x,args:=xs,argTypes:=tys },ty,pos,af,g⟩).run P w=.ok (.enter f (fst++xs.map ρ++cap)) w:=by
 unfold zW at hf;split at hf
 ·rename_i fn hfn;simp only [Bool.and_eq_true,bne_iff_ne,ne_eq] at hf;obtain ⟨c,hb⟩:=Option.isSome_iff_exists.1 hf.2;simp [execOp,resolve,Deferred.ofValue,hx,invoke,callFunc,hfn,hf.1.2,hb]
 ·cases hf
theorem Vq {P:Program} {f:FuncId} (h:zW P f=true):f<yBase:=by
 unfold zW at h;split at h
 ·simp only [Bool.and_eq_true] at h;simpa using h.1.1
 ·cases h
theorem KF {P:Program} {w w':World} {ρ:Operand->Value} {x:Operand} {N:Nat} {xs:Array Operand} {tys:Array TypeId} {ty:TypeId} {d:Option Tmp} {pos:String} {af:Array Edge} {g:Option (Nat × Bool)} {r:Next}
  (hx:ρ x=.func (.yield N) #[] #[]) (hy:(Instr.yield N (xs.map ρ)).run P w=.ok r w') :
  (execOp ρ ⟨d,.call { callee:=.value x,args:=xs,argTypes:=tys },ty,pos,af,g⟩).run P w=.ok r w':=by
 simp [execOp,resolve,Deferred.ofValue,hx,invoke,hy]
theorem KC {ro:Option Nat} {P:Program} {o:Oper} (hnd:∀ c,o.op≠.defer c) {φ:Ren} {m m':Mem} {w:World} {a:Act} {v:Value} {next:Act->World->Prop} {Q:Exit->Act->World->Prop} (h:qH φ m w ((execOp a.eval o).run P w) v m')
  (hn:∀ V w' φ',VR φ' v V->Inv φ' m' w'->Frm φ m w φ' m' w'->next (a.put o.dst V) w'):o.wpIn (rf ro) 0 P a w next Q:=by
 obtain ⟨V,w',φ',hr,hv,hi,hf⟩:=h;refine ⟨λ_ _=>trivial,?_⟩;rw [Oper.semAt_eq _ _ _ hnd];rcases hr with hr|⟨hr,rfl⟩
 ·rw [hr]; exact hn V w' φ' hv hi hf
 ·rw [hr]; exact hn undef w' φ' hv hi hf
theorem zH (call:zi) (ts:List Value) (m:Mem) {ao:AOp} (h:ao.vy=false):zA call ts m ao=ao.run ts m:=by
 cases ao<;>first|rfl|simp [AOp.vy] at h
theorem KY {P:Program} {o:Oper} {ao:AOp} (h:res P o=some ao):∀ c,o.op≠.defer c:=by
 intro c hc;unfold res at h;rw [hc] at h;simp only [yF,ZI,hc,Option.bind_none] at h;cases h
theorem je {ro:Option Nat} {P:Program} {call:zi} (hc:CallOk P call) (hg:∀ f args m r,f<yBase->call f args m=some r->zW P f=true) {o:Oper} {ao:AOp} (hr0:yX P o=ao) {φ:Ren} {m m':Mem} {w:World} (hi:Inv φ m w) {ts:List Value} {a:Act}
  (ht:VRs φ ts a.tmps.toList) {v:Value} (h:zA call ts m ao=some (v,m')) {next:Act->World->Prop} {Q:Exit->Act->World->Prop}
  (hn:∀ V w' φ',VR φ' v V->Inv φ' m' w'->Frm φ m w φ' m' w'->next (a.put o.dst V) w'):o.wpIn (rf ro) 0 P a w next Q:=by
 have hr:res P o=some ao:=by
  unfold yX at hr0;cases hres:res P o with
  | none=>rw [hres] at hr0; simp only [Option.getD_none] at hr0; subst hr0; simp [zA,AOp.run] at h
  | some x=>rw [hres] at hr0; simp only [Option.getD_some] at hr0; rw [hr0]
 rcases qaH hr with hcl|⟨x,args,tys,ho,hcase⟩
 ·rw [zH call ts m hcl] at h;exact KC (KY hr) (qdn hr hi ht h) hn
 ·obtain ⟨d,op,ty,pos,af,g⟩:=o;simp only at ho;subst ho;have fin:∀ {f:FuncId} {fst cap:Array Value} {fstA capA:List Value} {l:List Value},a.eval x=.func (.func f) fst cap->VRs φ fstA fst.toList->VRs φ capA cap.toList ->
    kg ts args.toList=some l->f<yBase->call f (fstA++(l++capA)) m=some (v,m')->Oper.wpIn (rf ro) 0 P ⟨d,.call { callee:=.value x,args,argTypes:=tys },ty,pos,af,g⟩ a w next Q:=by
   intro f fst cap fstA capA l hx hfst hcap hl hfl hcall;refine ⟨λ_ _=>trivial,?_⟩;rw [Oper.semAt_eq _ _ _ (λc hc=>by cases hc)]
   rw [qeH hx (hg _ _ _ _ hfl hcall)];rw [Oper.uponIn_enter];refine ⟨He ro _,Hf.2 ?_⟩;have:=hc.fn f _ m v m' hfl hcall φ w (fst++args.map a.eval++cap) hi (by
    have:=hfst.append ((vD ht hl).append hcap);simpa using this)
   refine this.mono ?_
   rintro e w' ⟨V,φ',rfl,hv,hi',hf'⟩
   exact hn V w' φ' hv hi' hf'
  rcases hcase with ⟨f,rfl,rfl,hgf⟩|rfl
  ·simp only [zA,Option.bind_eq_some_iff] at h;obtain ⟨l,hl,h⟩:=h;exact fin (fst:=#[]) (cap:=#[]) (fstA:=[]) (capA:=[]) rfl (VRs.nil φ) (VRs.nil φ) hl (Vq hgf) (by simpa using h)
  ·simp only [zA,Option.bind_eq_some_iff] at h;obtain ⟨u,hu,⟨f,fstA,cap⟩,hcap,l,hl,h⟩:=h;have hv:=qw ht hu;generalize hx:a.eval x=X at hv;unfold kE at hcap;split at hcap
   ·rename_i f' us vs;cases hlt:Nat.blt f' yBase with
    | false=>rw [hlt] at hcap; cases hcap
    | true =>
     rw [hlt] at hcap;simp only [cond_true,Option.some.injEq,Prod.mk.injEq] at hcap;obtain ⟨rfl,rfl,rfl⟩:=hcap;cases hv with
     | func _ _ _ _ _ h1 h2 h3 h4=>exact fin hx (VRs.of_array h1 h2) (VRs.of_array h3 h4) hl (by simpa using hlt) h
   ·rename_i N us vs;cases hcap
    cases hv with
    | yield _ lo hlo =>
     have hcl:=hc.yl N _ m v m' h φ w (args.map a.eval) hi (by simpa using vD ht hl);obtain ⟨lo',b,hlo',rfl,fn,tm,ass,bo,hyr,hround⟩:=hcl;rw [hlo] at hlo'; cases hlo'
     refine ⟨λ_ _=>trivial,?_⟩;rw [Oper.semAt_eq _ _ _ (λc hc=>by cases hc)]
     rw [KF hx hyr,Oper.uponIn_round];refine ⟨He ro _,?_⟩;refine RoundIn.mono (show RoundIn (rf ro) 0 P lo.blk fn tm ass bo w _ from hround) ?_
     rintro e w' ⟨rfl,φ',hi',hf'⟩
     exact hn (.bool b) w' φ' (.bool b) hi' hf'
   ·cases hcap
theorem XJ {φ:Ren} {ts:List Value} {a:Act} (ht:VRs φ ts a.tmps.toList) (d:Option Nat) {v V:Value} (hv:VR φ v V):VRs φ (xX ts d v) (a.put d V).tmps.toList:=by
 cases d with
 | none=>exact ht
 | some d=>simpa [xX,Act.put] using ht.set hv d
theorem put_defers (a:Act) (d:Option Nat) (v:Value):(a.put d v).defers=a.defers:=by cases d<;>rfl
theorem Zv {φ:Ren} {ts:List Value} {a:Act} (ht:VRs φ ts a.tmps.toList) {ops:Array Oper} {o:Oper} {g:Option (Nat × Bool)}
  (hg:match o.guard with|none=>g=none|some (j,want)=>∃ t,(ops[j]?).bind (·.dst)=some t/\g=some (t,want)):Region.wanted o (yielded ops a.tmps)=zg ts g:=by
 unfold Region.wanted;split at hg
 ·rename_i h0;rw [h0]; subst hg; rfl
 ·rename_i j want h0;obtain ⟨t,h1,rfl⟩:=hg;rw [h0];simp only [yielded,h1,Option.bind_some,zg];cases e:ts[t]? with
  | none =>
   have:a.tmps[t]? = none:=by
    rw [Array.getElem?_eq_none_iff];rw [List.getElem?_eq_none_iff] at e;have:=ht.1; simp at this; omega
   rw [this]; rfl
  | some u =>
   obtain ⟨V,hV,r⟩:=ht.get e;have hV':a.tmps[t]? = some V:=by simpa using hV
   rw [hV'];cases r<;>simp
   all_goals (rename_i b; cases b<;>cases want<;>rfl)
def St (φ:Ren) (m:Mem) (w:World) (a:Act) (ts':List Value) (m':Mem) (a':Act) (w':World):Prop :=
 ∃ φ',VRs φ' ts' a'.tmps.toList/\Inv φ' m' w'/\Frm φ m w φ' m' w'/\a'.defers=a.defers
end Go.Fx
namespace Go.Fx
open Go
mutual
def veq:Value->Value->Bool
 | .bool a,.bool b=>a == b
 | .int k a,.int l b=>decide (k=l)&&a == b
 | .float k a,.float l b=>decide (k=l)&&a == b
 | .complex k a b,.complex l c d=>decide (k=l)&&a == c&&b == d
 | .string a,.string b=>decide (a.data.toList=b.data.toList)
 | .pointer a,.pointer b=>decide (a=b)
 | .slice a n c,.slice b m d=>decide (a=b)&&n == m&&c == d
 | .map a,.map b=>decide (a=b)
 | .chan a,.chan b=>decide (a=b)
 | .func f ⟨xs⟩ ⟨ys⟩,.func g ⟨us⟩ ⟨vs⟩=>decide (f=g)&&XV xs us&&XV ys vs
 | .nilFunc,.nilFunc=>true
 | .iface t v,.iface u w=>t == u&&veq v w
 | .nilIface,.nilIface=>true
 | .agg ⟨xs⟩,.agg ⟨ys⟩=>XV xs ys
 | .tuple ⟨xs⟩,.tuple ⟨ys⟩=>XV xs ys
 | _,_=>false
def XV:List Value->List Value->Bool
 | [],[]=>true
 | x::xs,y::ys=>veq x y&&XV xs ys
 | _,_=>false
end
mutual
theorem veq_eq:∀ (a b:Value),veq a b=true->a=b
 | .bool a,b,h=>by cases b<;>simp [veq] at h; subst h; rfl
 | .int k a,b,h=>by cases b<;>simp [veq] at h; obtain ⟨rfl,rfl⟩:=h; rfl
 | .float k a,b,h=>by cases b<;>simp [veq] at h; obtain ⟨rfl,rfl⟩:=h; rfl
 | .complex k a c,b,h=>by cases b<;>simp [veq] at h; obtain ⟨⟨rfl,rfl⟩,rfl⟩:=h; rfl
 | .string a,b,h=>by
  cases b<;>simp [veq] at h
  rename_i b;obtain ⟨a⟩:=a; obtain ⟨b⟩:=b;simp only at h;subst h; rfl
 | .pointer a,b,h=>by cases b<;>simp [veq] at h; subst h; rfl
 | .slice a n c,b,h=>by cases b<;>simp [veq] at h; obtain ⟨⟨rfl,rfl⟩,rfl⟩:=h; rfl
 | .map a,b,h=>by cases b<;>simp [veq] at h; subst h; rfl
 | .chan a,b,h=>by cases b<;>simp [veq] at h; subst h; rfl
 | .func f ⟨xs⟩ ⟨ys⟩,b,h=>by
  cases b<;>try (simp [veq] at h; done)
  rename_i g us vs;obtain ⟨us⟩:=us; obtain ⟨vs⟩:=vs;simp only [veq,Bool.and_eq_true,decide_eq_true_eq] at h;obtain ⟨⟨rfl,h1⟩,h2⟩:=h;rw [veqs_eq _ _ h1,veqs_eq _ _ h2]
 | .nilFunc,b,h=>by cases b<;>simp [veq] at h; rfl
 | .iface t v,b,h=>by
  cases b<;>try (simp [veq] at h; done)
  simp only [veq,Bool.and_eq_true,beq_iff_eq] at h;obtain ⟨rfl,h1⟩:=h;rw [veq_eq _ _ h1]
 | .nilIface,b,h=>by cases b<;>simp [veq] at h; rfl
 | .agg ⟨xs⟩,b,h=>by
  cases b<;>try (simp [veq] at h; done)
  rename_i ys;obtain ⟨ys⟩:=ys;simp only [veq] at h;rw [veqs_eq _ _ h]
 | .tuple ⟨xs⟩,b,h=>by
  cases b<;>try (simp [veq] at h; done)
  rename_i ys;obtain ⟨ys⟩:=ys;simp only [veq] at h;rw [veqs_eq _ _ h]
theorem veqs_eq:∀ (a b:List Value),XV a b=true->a=b
 | [],b,h=>by cases b<;>simp [XV] at h; rfl
 | x::xs,b,h=>by
  cases b<;>simp [XV] at h
  rw [veq_eq _ _ h.1,veqs_eq _ _ h.2]
end
mutual
theorem Qz:∀ (a:Value),veq a a=true
 | .bool a=>by simp [veq]
 | .int k a=>by simp [veq]
 | .float k a=>by simp [veq]
 | .complex k a c=>by simp [veq]
 | .string a=>by simp [veq]
 | .pointer a=>by simp [veq]
 | .slice a n c=>by simp [veq]
 | .map a=>by simp [veq]
 | .chan a=>by simp [veq]
 | .func f ⟨xs⟩ ⟨ys⟩=>by simp [veq,vQ xs,vQ ys]
 | .nilFunc=>by simp [veq]
 | .iface t v=>by simp [veq,Qz v]
 | .nilIface=>by simp [veq]
 | .agg ⟨xs⟩=>by simp [veq,vQ xs]
 | .tuple ⟨xs⟩=>by simp [veq,vQ xs]
theorem vQ:∀ (a:List Value),XV a a=true
 | []=>by simp [XV]
 | x::xs=>by simp [XV,Qz x,vQ xs]
end
def opT:Operand->List Nat
 | .tmp t=>[t]
 | _=>[]
def qdq:Option Operand->List Nat
 | some x=>opT x
 | none=>[]
def AOp.kY:AOp->List Nat
 | .mov x|.nilck x|.box _ x|.load1 x|.loadN _ x|.un _ x|.conv _ x|.b2s x|.fieldAddr _ x|.field _ _ _ x|.extract _ x|.lenS x|.lenStr x=>opT x
 | .pick c a b=>opT c++opT a++opT b
 | .alloc _ _|.stop=>[]
 | .flo _ o|.floAt _ o=>o.kY
 | .clearS _ x|.mkiface _ x=>opT x
 | .makeS _ _ _ a x=>opT a++opT x
 | .slice3 _ x lo hi mx=>opT x++qdq lo++qdq hi++opT mx
 | .build _ ps|.buildSlice _ _ _ ps=>ps.flatMap λp=>opT p.2.2
 | .store _ a x|.arith _ a x|.eqD _ _ a x|.eqBool _ a x|.eqNil _ _ a x|.indexS _ a x|.indexA _ _ a x|.indexStr a x|.indexArr _ _ _ a x|.append _ _ _ a x|.copy _ a x=>opT a++opT x
 | .sliceStr x lo hi|.sliceS _ x lo hi|.sliceA _ _ x lo hi=>opT x++qdq lo++qdq hi
 | .min x xs|.max x xs|.callv x xs=>opT x++xs.flatMap opT
 | .call _ xs=>xs.flatMap opT
 | .mkfunc _ fs xs=>fs.flatMap opT++xs.flatMap opT
 | .p1 _ x|.r1 _ x|.e1 _ x=>opT x
 | .p2 _ x y|.r2 _ x y|.e2 _ x y=>opT x++opT y
 | .mapUpd _ x k y=>opT x++opT k++opT y
 | .makeM x=>qdq x
def jT (l:List Nat) (ts us:List Value):Prop:=∀ t,t∈l->ts[t]? = us[t]?
theorem jT.left {l k:List Nat} {ts us:List Value} (h:jT (l++k) ts us):jT l ts us:=λt ht=>h t (List.mem_append_left _ ht)
theorem jT.right {l k:List Nat} {ts us:List Value} (h:jT (l++k) ts us):jT k ts us:=λt ht=>h t (List.mem_append_right _ ht)
theorem qY {ts us:List Value} {x:Operand} (h:jT (opT x) ts us):zc ts x=zc us x:=by
 cases x with
 | tmp t=>simp only [zc]; rw [h t (by simp [opT])]
 | _=>rfl
theorem xd {ts us:List Value} {x:Option Operand} (h:jT (qdq x) ts us):jn ts x=jn us x:=by
 cases x with
 | none=>rfl
 | some x=>simp only [jn]; rw [qY h]
theorem kU {ts us:List Value}:∀ {xs:List Operand},jT (xs.flatMap opT) ts us->kg ts xs=kg us xs
 | [],_=>rfl
 | x::xs,h=>by
  rw [List.flatMap_cons] at h;simp only [kg]; rw [qY h.left,kU h.right]
theorem wO {ts us:List Value}:∀ {ps:List (Nat × Nat × Operand)},jT (ps.flatMap λp=>opT p.2.2) ts us->kF ts ps=kF us ps
 | [],_=>rfl
 | (o,s,x)::ps,h=>by
  rw [List.flatMap_cons] at h;simp only [kF]; rw [qY h.left,wO h.right]
theorem QP {ts us:List Value} {ao:AOp} (h:jT ao.kY ts us):jK ts ao=jK us ao:=by
 cases ao<;>try rfl
 ·simp only [AOp.kY] at h; simp only [jK]; rw [qY h]
 ·simp only [AOp.kY] at h; simp only [jK]; rw [wO h]
theorem jq (call:zi) {ts us:List Value} (m:Mem) {ao:AOp} (h:jT ao.kY ts us):zA call ts m ao=zA call us m ao:=by
 cases ao<;>simp only [AOp.kY] at h<;>simp only [zA,AOp.run]
 all_goals first
  | rw [qY h]
  | rw [qY h.left,qY h.right]
  | rw [qY h.left.left,qY h.left.right,qY h.right]
  | rw [qY h.left.left,xd h.left.right,xd h.right]
  | rw [qY h.left.left.left,xd h.left.left.right,xd h.left.right,qY h.right]
  | rw [qY h.left,kU h.right]
  | rw [kU h]
  | rw [kU h.left,kU h.right]
  | rw [xd h]
  | rw [wO h]
  | rw [QP h]
  | rfl
inductive Cls where
 | pure|read|eff
 deriving DecidableEq
def AOp.cls:AOp->Cls
 | .alloc _ _|.box _ _|.buildSlice _ _ _ _|.store _ _ _|.append _ _ _ _ _|.copy _ _ _|.clearS _ _|.makeS _ _ _ _ _|.call _ _|.callv _ _|.flo _ _|.floAt _ _|.e1 _ _|.e2 _ _ _|.mapUpd _ _ _ _|.makeM _=>.eff
 | .load1 _|.loadN _ _|.b2s _|.sliceS _ _ _ _|.sliceA _ _ _ _ _|.slice3 _ _ _ _ _|.r1 _ _|.r2 _ _ _=>.read
 | _=>.pure
inductive Req where
 | load1 (v:Value)
 | loadN (n:Nat) (v:Value)
 | b2s (v:Value)
 | sliceS (size:Nat) (v:Value) (lo hi:Option Value)
 | sliceA (n size:Nat) (v:Value) (lo hi:Option Value)
 | slice3 (size:Nat) (v:Value) (lo hi:Option Value) (mx:Value)
 | r1 (k:R1) (v:Value)
 | r2 (k:R2) (v u:Value)
def Req.run (m:Mem):Req->Option Value
 | .load1 v=>qa v m
 | .loadN n v=>qk n v m
 | .b2s v=>jh v m
 | .sliceS size v lo hi=>qx size v lo hi m
 | .sliceA n size v lo hi=>xV n size v lo hi m
 | .slice3 size v lo hi mx=>jL size v lo hi mx m
 | .r1 k v=>k.run v m
 | .r2 k v u=>k.run v u m
def AOp.req (ts:List Value):AOp->Option Req
 | .load1 x=>(zc ts x).map .load1
 | .loadN n x=>(zc ts x).map (.loadN n)
 | .b2s x=>(zc ts x).map .b2s
 | .sliceS size x lo hi=>(zc ts x).bind λv=>(jn ts lo).bind λl=>(jn ts hi).map λh=>.sliceS size v l h
 | .sliceA n size x lo hi=>(zc ts x).bind λv=>(jn ts lo).bind λl=>(jn ts hi).map λh=>.sliceA n size v l h
 | .slice3 size x lo hi mx=>(zc ts x).bind λv=>(jn ts lo).bind λl=>(jn ts hi).bind λh=>(zc ts mx).map λk=>.slice3 size v l h k
 | .r1 k x=>(zc ts x).map (.r1 k)
 | .r2 k x y=>(zc ts x).bind λv=>(zc ts y).map λu=>.r2 k v u
 | _=>none
theorem Qc {ts:List Value} {ao:AOp} {q:Req} {m:Mem} {v:Value} (hq:ao.req ts=some q) (h:q.run m=some v):ao.run ts m=some (v,m):=by
 cases ao<;>simp only [AOp.req] at hq<;>try (cases hq; done)
 ·simp only [Option.map_eq_some_iff] at hq; obtain ⟨p,hp,rfl⟩:=hq; simp only [Req.run] at h; simp [AOp.run,hp,h]
 ·simp only [Option.map_eq_some_iff] at hq; obtain ⟨p,hp,rfl⟩:=hq; simp only [Req.run] at h; simp [AOp.run,hp,h]
 ·simp only [Option.map_eq_some_iff] at hq; obtain ⟨p,hp,rfl⟩:=hq; simp only [Req.run] at h; simp [AOp.run,hp,h]
 ·simp only [Option.bind_eq_some_iff,Option.map_eq_some_iff] at hq; obtain ⟨p,hp,l,hl,r,hr,rfl⟩:=hq; simp only [Req.run] at h; simp [AOp.run,hp,hl,hr,h]
 ·simp only [Option.bind_eq_some_iff,Option.map_eq_some_iff] at hq; obtain ⟨p,hp,l,hl,r,hr,rfl⟩:=hq; simp only [Req.run] at h; simp [AOp.run,hp,hl,hr,h]
 ·simp only [Option.map_eq_some_iff] at hq; obtain ⟨p,hp,rfl⟩:=hq; simp only [Req.run] at h; simp [AOp.run,hp,h]
 ·simp only [Option.bind_eq_some_iff,Option.map_eq_some_iff] at hq; obtain ⟨p,hp,l,hl,rfl⟩:=hq; simp only [Req.run] at h; simp [AOp.run,hp,hl,h]
 ·simp only [Option.bind_eq_some_iff,Option.map_eq_some_iff] at hq; obtain ⟨p,hp,l,hl,r,hr,k,hk,rfl⟩:=hq; simp only [Req.run] at h; simp [AOp.run,hp,hl,hr,hk,h]
theorem Qi {ts:List Value} {ao:AOp} {q:Req} (hq:ao.req ts=some q):ao.vy=false:=by
 cases ao<;>simp only [AOp.req] at hq<;>first|(cases hq; done)|rfl
theorem yC {ts us:List Value} {ao:AOp} (h:jT ao.kY ts us):ao.req ts=ao.req us:=by
 cases ao<;>simp only [AOp.kY] at h<;>simp only [AOp.req]
 ·rw [qY h]
 ·rw [qY h]
 ·rw [qY h]
 ·rw [qY h.left.left,xd h.left.right,xd h.right]
 ·rw [qY h.left.left,xd h.left.right,xd h.right]
 ·rw [qY h]
 ·rw [qY h.left,qY h.right]
 ·rw [qY h.left.left.left,xd h.left.left.right,xd h.left.right,qY h.right]
theorem run_pure {ts:List Value} {ao:AOp} {m m':Mem} {v:Value} (hc:ao.cls=.pure) (h:ao.run ts m=some (v,m')):m'=m/\∀ M,ao.run ts M=some (v,M):=by
  cases ao<;>simp only [AOp.cls] at hc<;>first
    | (cases hc; done)
    | (simp [AOp.run] at h; done)
    | (simp only [AOp.run,Option.bind_eq_some_iff,Option.map_eq_some_iff,Prod.mk.injEq] at h
       first
         | (obtain ⟨p,hp,rfl,rfl⟩:=h; exact ⟨rfl,λM=>by simp [AOp.run,hp]⟩)
         | (obtain ⟨p,hp,u,hu,rfl,rfl⟩:=h; exact ⟨rfl,λM=>by simp [AOp.run,hp,hu]⟩)
         | (obtain ⟨p,hp,q,hq,u,hu,rfl,rfl⟩:=h; exact ⟨rfl,λM=>by simp [AOp.run,hp,hq,hu]⟩)
         | (obtain ⟨p,hp,q,hq,r,hr,u,hu,rfl,rfl⟩:=h; exact ⟨rfl,λM=>by simp [AOp.run,hp,hq,hr,hu]⟩))
end Go.Fx
namespace Go.Fx
open Go
abbrev Tr:=List Value × Mem × List Mem × List (Req × Value × Nat × Nat)
def xO (call:zi):List AOper->List (Nat × Nat)->List Value->Mem->Option Tr
 | [],_,ts,m=>some (ts,m,[m],[])
 | o::r,lh,ts,m =>
  if zg ts o.guard then
   match o.op.cls with
   | .eff=>(zA call ts m o.op).bind λp=>(xO call r lh.tail (xX ts o.dst p.1) p.2).map λx=>(x.1,x.2.1,m::x.2.2.1,x.2.2.2)
   | .read=>(o.op.req ts).bind λq=>(q.run m).bind λv=>(xO call r lh.tail (xX ts o.dst v) m).map λx=>(x.1,x.2.1,x.2.2.1,(q,v,lh.headD (0,0))::x.2.2.2)
   | .pure=>(o.op.run ts m).bind λp=>xO call r lh.tail (xX ts o.dst p.1) m
  else
   match o.op.cls with
   | .eff=>(xO call r lh.tail (xX ts o.dst undef) m).map λx=>(x.1,x.2.1,m::x.2.2.1,x.2.2.2)
   | _=>xO call r lh.tail (xX ts o.dst undef) m
def wR (ms:List Mem) (x:Req × Value × Nat × Nat):Bool :=
 (List.range (x.2.2.2+1 - x.2.2.1)).all λk=>match ms[x.2.2.1+k]? with
  | some M=>match x.1.run M with
   | some u=>veq u x.2.1
   | none=>false
  | none=>false
def kN (call:zi) (ops:List AOper) (lh:List (Nat × Nat)) (ts:List Value) (m:Mem):Option (List Value × Mem) :=
 (xO call ops lh ts m).bind λx=>if x.2.2.2.all (wR x.2.2.1)=true then some (x.1,x.2.1) else none
def Jx:Nat->List AOper->List (Nat × Nat)->Bool
 | _,[],_=>true
 | k,o::r,lh=>match o.op.cls with
  | .eff=>Jx (k+1) r lh.tail
  | .read=>lh.headD (0,0) == (k,k)&&Jx k r lh.tail
  | .pure=>Jx k r lh.tail
theorem qdk (call:zi):∀ (ops:List AOper) (k:Nat) (lh:List (Nat × Nat)) (ts:List Value) (m:Mem),Jx k ops lh=true->∀ r,zZ call ops ts m=some r ->
    ∃ ms rq,xO call ops lh ts m=some (r.1,r.2,m::ms,rq)/\∀ pre:List Mem,pre.length=k->rq.all (wR (pre++m::ms))=true:=by
  intro ops
  induction ops with
  | nil =>
    intro k lh ts m _ r hr;simp only [zZ,Option.some.injEq] at hr;subst hr;exact ⟨[],[],rfl,λ_ _=>rfl⟩
  | cons o r ih =>
    intro k lh ts m hs x hr;unfold Jx at hs;unfold zZ at hr;unfold xO;by_cases hw:zg ts o.guard=true
    · rw [if_pos hw] at hr;rw [if_pos hw];cases hc:o.op.cls with
      | eff =>
        rw [hc] at hs;simp only at hs ⊢;obtain ⟨p,hp,hr⟩:=Option.bind_eq_some_iff.1 hr;obtain ⟨ms,rq,h1,h2⟩:=ih (k+1) lh.tail _ _ hs x hr;refine ⟨p.2::ms,rq,by rw [hp,Option.bind_some,h1]; rfl,λpre hpre=>?_⟩;have:=h2 (pre++[m]) (by simp [hpre]);simpa using this
      | pure =>
        rw [hc] at hs;simp only at hs ⊢;obtain ⟨p,hp,hr⟩:=Option.bind_eq_some_iff.1 hr;rw [zH call ts m (by cases ho:o.op<;>rw [ho] at hc<;>first|rfl|cases hc)] at hp
        obtain ⟨h3,_⟩:=run_pure (v:=p.1) (m':=p.2) hc hp;rw [h3] at hr;obtain ⟨ms,rq,h1,h2⟩:=ih k lh.tail _ _ hs x hr;exact ⟨ms,rq,by rw [hp,Option.bind_some,h1],h2⟩
      | read =>
        rw [hc] at hs;simp only [Bool.and_eq_true,beq_iff_eq] at hs ⊢;obtain ⟨hl,hs⟩:=hs;obtain ⟨p,hp,hr⟩:=Option.bind_eq_some_iff.1 hr;rw [zH call ts m (by cases ho:o.op<;>rw [ho] at hc<;>first|rfl|cases hc)] at hp
        obtain ⟨q,hq1,hq2,hq3⟩:∃ q,o.op.req ts=some q/\q.run m=some p.1/\p.2=m:=by
          cases ho:o.op<;>rw [ho] at hc hp<;>first
            | (cases hc; done)
            | (simp only [AOp.run,Option.bind_eq_some_iff,Option.map_eq_some_iff] at hp
               first
                 | (obtain ⟨v,hv,u,hu,rfl⟩:=hp; refine ⟨_,by simp only [AOp.req,hv]; rfl,?_,rfl⟩; exact hu)
                 | (obtain ⟨v,hv,l,hl,u,hu,rfl⟩:=hp; refine ⟨_,by simp only [AOp.req,hv,hl,Option.bind_some]; rfl,?_,rfl⟩; exact hu)
                 | (obtain ⟨v,hv,l,hl,h,hh,u,hu,rfl⟩:=hp; refine ⟨_,by simp only [AOp.req,hv,hl,hh,Option.bind_some]; rfl,?_,rfl⟩; exact hu)
                 | (obtain ⟨v,hv,l,hl,h,hh,k,hk,u,hu,rfl⟩:=hp; refine ⟨_,by simp only [AOp.req,hv,hl,hh,hk,Option.bind_some]; rfl,?_,rfl⟩; exact hu))
        rw [hq3] at hr;obtain ⟨ms,rq,h1,h2⟩:=ih k lh.tail _ _ hs x hr;refine ⟨ms,(q,p.1,lh.headD (0,0))::rq,by rw [hq1,Option.bind_some,hq2,Option.bind_some,h1]; rfl,λpre hpre=>?_⟩;rw [List.all_cons,h2 pre hpre,Bool.and_true,hl];subst hpre;simp [wR,hq2,Qz]
    · rw [if_neg hw] at hr;rw [if_neg hw];cases hc:o.op.cls with
      | eff =>
        rw [hc] at hs;simp only at hs ⊢;obtain ⟨ms,rq,h1,h2⟩:=ih (k+1) lh.tail _ _ hs x hr;refine ⟨m::ms,rq,by rw [h1]; rfl,λpre hpre=>?_⟩;have:=h2 (pre++[m]) (by simp [hpre]);simpa using this
      | pure =>
        rw [hc] at hs;simp only at hs ⊢;exact ih k lh.tail _ _ hs x hr
      | read =>
        rw [hc] at hs;simp only [Bool.and_eq_true] at hs ⊢;obtain ⟨ms,rq,h1,h2⟩:=ih k lh.tail _ _ hs.2 x hr;exact ⟨ms,rq,h1,h2⟩
theorem qeI {call:zi} {ops:List AOper} {lh:List (Nat × Nat)} (h:Jx 0 ops lh=true) {ts:List Value} {m:Mem} {r:List Value × Mem} (hr:zZ call ops ts m=some r):kN call ops lh ts m=some r:=by
 obtain ⟨ms,rq,h1,h2⟩:=qdk call ops 0 lh ts m h r hr;have:=h2 [] rfl;simp only [List.nil_append] at this;simp only [kN,h1,Option.bind_some,this,if_true]
def qN (o:AOper):Bool:=decide (o.op.cls=.eff)
def zn:List AOper->Nat->Nat
 | [],_=>0
 | _::_,0=>0
 | o::r,i+1=>(if qN o then 1 else 0)+zn r i
def Fact (call:zi) (ms:List Mem) (rq:List (Req × Value × Nat × Nat)) (lh:Nat × Nat) (c:Nat) (o:AOper) (T:List Value) (V:Value):Prop :=
 (zg T o.guard=true/\(o.op.cls=.eff->∃ M M',ms[c]? = some M/\ms[c+1]? = some M'/\zA call T M o.op=some (V,M')) /\
  (o.op.cls=.read->∃ q,o.op.req T=some q/\(q,V,lh)∈rq)/\(o.op.cls=.pure->∀ M,o.op.run T M=some (V,M))) ∨
 (zg T o.guard=false/\V=undef/\(o.op.cls=.eff->∃ M,ms[c]? = some M/\ms[c+1]? = some M))
theorem Fact.shift {call:zi} {ms:List Mem} {rq:List (Req × Value × Nat × Nat)} {lh:Nat × Nat} {c:Nat} {o:AOper} {T:List Value} {V:Value} (h:Fact call ms rq lh c o T V) (m:Mem) (q:List (Req × Value × Nat × Nat)):Fact call (m::ms) (q++rq) lh (1+c) o T V:=by
 rcases h with ⟨h1,h2,h3,h4⟩|⟨h1,h2,h3⟩
 ·refine .inl ⟨h1,λhc=>?_,λhc=>?_,h4⟩
  ·obtain ⟨M,M',a,b,d⟩:=h2 hc;exact ⟨M,M',by rw [Nat.add_comm]; exact a,by rw [show 1+c+1=(c+1)+1 by omega]; exact b,d⟩
  ·obtain ⟨q',a,b⟩:=h3 hc;exact ⟨q',a,List.mem_append_right _ b⟩
 ·refine .inr ⟨h1,h2,λhc=>?_⟩;obtain ⟨M,a,b⟩:=h3 hc;exact ⟨M,by rw [Nat.add_comm]; exact a,by rw [show 1+c+1=(c+1)+1 by omega]; exact b⟩
theorem Fact.more {call:zi} {ms:List Mem} {rq:List (Req × Value × Nat × Nat)} {lh:Nat × Nat} {c:Nat} {o:AOper} {T:List Value} {V:Value} (h:Fact call ms rq lh c o T V) (q:List (Req × Value × Nat × Nat)):Fact call ms (q++rq) lh c o T V:=by
 rcases h with ⟨h1,h2,h3,h4⟩|h
 ·refine .inl ⟨h1,h2,λhc=>?_,h4⟩;obtain ⟨q',a,b⟩:=h3 hc;exact ⟨q',a,List.mem_append_right _ b⟩
 ·exact .inr h
theorem facts (call:zi):∀ (ops:List AOper) (lh:List (Nat × Nat)) (ts:List Value) (m:Mem) (ts':List Value) (m':Mem) (ms:List Mem) (rq:List (Req × Value × Nat × Nat)),
  xO call ops lh ts m=some (ts',m',ms,rq)->∃ (T:Nat->List Value) (V:Nat->Value),T 0=ts/\T ops.length=ts'/\ms[0]? = some m/\ms[zn ops ops.length]? = some m' /\
   ∀ i o,ops[i]? = some o->T (i+1)=xX (T i) o.dst (V i)/\Fact call ms rq (lh[i]?.getD (0,0)) (zn ops i) o (T i) (V i):=by
 intro ops
 induction ops with
 | nil =>
  intro lh ts m ts' m' ms rq h;simp only [xO,Option.some.injEq,Prod.mk.injEq] at h;obtain ⟨rfl,rfl,rfl,rfl⟩:=h;exact ⟨λ_=>ts,λ_=>undef,rfl,rfl,rfl,rfl,λi o h=>by simp at h⟩
 | cons o r ih =>
  intro lh ts m ts' m' ms rq h;have hlh:∀ i:Nat,lh.tail[i]?.getD (0,0)=lh[i+1]?.getD (0,0):=by intro i; rw [List.getElem?_tail]
  have hlh0:lh.headD (0,0)=lh[0]?.getD (0,0):=by cases lh<;>rfl
  have build:∀ (v:Value) (m1:Mem) (ms1:List Mem) (rq1 q:List (Req × Value × Nat × Nat)),xO call r lh.tail (xX ts o.dst v) m1=some (ts',m',ms1,rq1) ->
    (if qN o then ms=m::ms1 else ms=ms1/\m1=m)->rq=q++rq1->(Fact call ms rq (lh[0]?.getD (0,0)) 0 o ts v) ->
    ∃ (T:Nat->List Value) (V:Nat->Value),T 0=ts/\T (o::r).length=ts'/\ms[0]? = some m/\ms[zn (o::r) (o::r).length]? = some m' /\
     ∀ i p,(o::r)[i]? = some p->T (i+1)=xX (T i) p.dst (V i)/\Fact call ms rq (lh[i]?.getD (0,0)) (zn (o::r) i) p (T i) (V i):=by
   intro v m1 ms1 rq1 q hrun hms hrq hfact;obtain ⟨T,V,h1,h2,h3,h4,h5⟩:=ih lh.tail _ m1 ts' m' ms1 rq1 hrun;refine ⟨λi=>match i with|0=>ts|i+1=>T i,λi=>match i with|0=>v|i+1=>V i,rfl,h2,?_,?_,?_⟩
   ·split at hms
    ·rw [hms]; rfl
    ·rw [hms.1,h3,hms.2]
   ·simp only [List.length_cons,zn];split at hms
    ·rename_i he;rw [hms,if_pos he,Nat.add_comm]; exact h4
    ·rename_i he;rw [hms.1,if_neg he,Nat.zero_add]; exact h4
   ·intro i p hp;cases i with
    | zero =>
     simp only [List.getElem?_cons_zero,Option.some.injEq] at hp;subst hp;exact ⟨h1,hfact⟩
    | succ i =>
     obtain ⟨g1,g2⟩:=h5 i p (by simpa using hp);refine ⟨g1,?_⟩;rw [hlh] at g2;simp only [zn];split at hms
     ·rename_i he;rw [hms,hrq,if_pos he]; exact g2.shift m q
     ·rename_i he;rw [hms.1,hrq,if_neg he,Nat.zero_add]; exact g2.more q
  simp only [xO] at h;split at h
  ·rename_i hw;split at h
   ·rename_i hc;simp only [Option.bind_eq_some_iff,Option.map_eq_some_iff] at h;obtain ⟨⟨v,m1⟩,hs,⟨ts1,m2,ms1,rq1⟩,hr,he⟩:=h;simp only [Prod.mk.injEq] at he;obtain ⟨rfl,rfl,rfl,rfl⟩:=he;have hm1:ms1[0]? = some m1:=by
     obtain ⟨_,_,_,_,h3,_⟩:=ih lh.tail _ m1 _ _ ms1 rq1 hr;exact h3
    exact build v m1 ms1 rq1 [] hr (by simp [qN,hc]) rfl (.inl ⟨hw,λ_=>⟨m,m1,rfl,by simpa using hm1,hs⟩,(λh=>absurd (hc.symm.trans h) (by decide)),(λh=>absurd (hc.symm.trans h) (by decide))⟩)
   ·rename_i hc;simp only [Option.bind_eq_some_iff,Option.map_eq_some_iff] at h;obtain ⟨q,hq,v,hv,⟨ts1,m2,ms1,rq1⟩,hr,he⟩:=h;simp only [Prod.mk.injEq] at he;obtain ⟨rfl,rfl,rfl,rfl⟩:=he;exact build v m ms1 rq1 [(q,v,lh.headD (0,0))] hr (by simp [qN,hc]) rfl (.inl ⟨hw,(λh=>absurd (hc.symm.trans h) (by decide)),λ_=>⟨q,hq,by rw [<- hlh0]; exact List.mem_cons_self ..⟩,(λh=>absurd (hc.symm.trans h) (by decide))⟩)
   ·rename_i hc;simp only [Option.bind_eq_some_iff] at h;obtain ⟨⟨v,m1⟩,hs,hr⟩:=h;obtain ⟨rfl,hall⟩:=run_pure hc hs;exact build v m1 ms rq [] hr (by simp [qN,hc]) rfl (.inl ⟨hw,(λh=>absurd (hc.symm.trans h) (by decide)),(λh=>absurd (hc.symm.trans h) (by decide)),λ_=>hall⟩)
  ·rename_i hw;have hw:zg ts o.guard=false:=by simpa using hw
   split at h
   ·rename_i hc;simp only [Option.map_eq_some_iff] at h;obtain ⟨⟨ts1,m2,ms1,rq1⟩,hr,he⟩:=h;simp only [Prod.mk.injEq] at he;obtain ⟨rfl,rfl,rfl,rfl⟩:=he;have hm1:ms1[0]? = some m:=by
     obtain ⟨_,_,_,_,h3,_⟩:=ih lh.tail _ m _ _ ms1 rq1 hr;exact h3
    exact build undef m ms1 rq1 [] hr (by simp [qN,hc]) rfl (.inr ⟨hw,rfl,λ_=>⟨m,rfl,by simpa using hm1⟩⟩)
   ·rename_i hc;exact build undef m ms rq [] h (by simp [qN]; intro h; exact absurd h hc) rfl (.inr ⟨hw,rfl,λh=>absurd h hc⟩)
inductive Anc (E:Nat->List Nat):Nat->Nat->Prop where
 | base {i e:Nat} (h:e∈E i):Anc E i e
 | step {i e j:Nat} (h:e∈E i) (h':Anc E e j):Anc E i j
theorem Anc.lt {E:Nat->List Nat} (hE:∀ i e,e∈E i->e<i) {i j:Nat} (h:Anc E i j):j<i:=by
 induction h with
 | base h=>exact hE _ _ h
 | step h _ ih=>exact Nat.lt_trans ih (hE _ _ h)
theorem Anc.qn {E:Nat->List Nat} {L:Nat->Prop} (hL:∀ x,L x->∀ e∈E x,L e) {i j:Nat} (h:Anc E i j) (hi:∀ e∈E i,L e):L j:=by
 induction h with
 | base h=>exact hi _ h
 | step h _ ih=>exact ih (hL _ (hi _ h))
def xc (acc:List Nat) (es:List Nat):List Nat:=acc++[es.foldl (λs e=>s ||| 2 ^ e ||| acc[e]?.getD 0) 0]
def xw (l:List (List Nat)):List Nat:=l.foldl xc []
theorem qbc (acc:List Nat) (j:Nat):∀ (es:List Nat) (s:Nat),(es.foldl (λs e=>s ||| 2 ^ e ||| acc[e]?.getD 0) s).testBit j=true->s.testBit j=true∨∃ e∈es,e=j∨(acc[e]?.getD 0).testBit j=true:=by
 intro es
 induction es with
 | nil=>intro s h; exact .inl h
 | cons e es ih =>
  intro s h;rcases ih _ h with h|⟨e',he',h⟩
  ·simp only [Nat.testBit_or,Bool.or_eq_true,Nat.testBit_two_pow,decide_eq_true_eq] at h;rcases h with (h|h)|h
   ·exact .inl h
   ·exact .inr ⟨e,List.mem_cons_self ..,.inl h⟩
   ·exact .inr ⟨e,List.mem_cons_self ..,.inr h⟩
  ·exact .inr ⟨e',List.mem_cons_of_mem _ he',h⟩
theorem Vi (E:Nat->List Nat):∀ (l:List (List Nat)) (acc:List Nat) ,(∀ i es,l[i]? = some es->es=E (acc.length+i))->(∀ i k,acc[i]? = some k->∀ j,k.testBit j=true->Anc E i j) ->
  ∀ i k,(l.foldl xc acc)[i]? = some k->∀ j,k.testBit j=true->Anc E i j:=by
 intro l
 induction l with
 | nil=>intro acc _ h; exact h
 | cons es l ih =>
  intro acc hl hacc;simp only [List.foldl_cons];refine ih (xc acc es) (λi es' h=>?_) (λi k hk j hj=>?_)
  ·have:=hl (i+1) es' (by simpa using h);rw [this]; congr 1; simp [xc]; omega
  ·simp only [xc] at hk;by_cases hi:i<acc.length
   ·rw [List.getElem?_append_left hi] at hk;exact hacc i k hk j hj
   ·rw [List.getElem?_append_right (by omega)] at hk;have hi':i - acc.length=0:=by
     rcases Nat.eq_zero_or_pos (i - acc.length) with h|h
     ·exact h
     ·rw [List.getElem?_eq_none (by simp; omega)] at hk; cases hk
    rw [hi'] at hk;simp only [List.getElem?_cons_zero,Option.some.injEq] at hk;subst hk;have hEi:es=E i:=by
     have:=hl 0 es rfl;rw [this]; congr 1; omega
    rcases qbc acc j es 0 hj with h|⟨e,he,h⟩
    ·simp at h
    ·rcases h with rfl|h
     ·exact .base (by rw [<- hEi]; exact he)
     ·cases ha:acc[e]? with
      | none=>rw [ha] at h; simp at h
      | some k' =>
       rw [ha] at h;exact .step (by rw [<- hEi]; exact he) (hacc e k' ha j h)
def zR (o:Oper):List Nat:=o.after.toList.filterMap λe=>if Region.binds .any e then some e.on else none
def AOper.looks (o:AOper):List Nat:=o.op.kY++(match o.guard with|some (t,_)=>[t]|none=>[])
def Wy (effs:List Bool) (ms:List Nat) (i:Nat):Nat × Nat :=
  (((List.range effs.length).filter λj=>(effs[j]?.getD false)&&(ms[i]?.getD 0).testBit j).length,
   ((List.range effs.length).filter λj=>(effs[j]?.getD false)&&!(ms[j]?.getD 0).testBit i).length)
def Wt (ms:List Nat) (o p:AOper) (i j:Nat):Bool :=
  (match p.dst with
   | some t=>(!(o.looks.contains t)||(ms[i]?.getD 0).testBit j||(ms[j]?.getD 0).testBit i)&&o.dst != some t
   | none=>true)&&(!(qN o&&qN p)||(ms[i]?.getD 0).testBit j||(ms[j]?.getD 0).testBit i)
def dOk (es:List (List Nat)) (ops:List AOper):Bool :=
 let ms:=xw es
 (List.range ops.length).all λi =>
  ((es[i]?.getD []).all λe=>e<i) &&
  (List.range ops.length).all λj=>i == j||(match ops[i]?,ops[j]? with
   | some o,some p=>Wt ms o p i j
   | _,_=>false)
def wT (es:List (List Nat)) (ops:List AOper):List (Nat × Nat):=(List.range ops.length).map (Wy (ops.map qN) (xw es))
theorem effN_eq:∀ (ops:List AOper) (i:Nat),zn ops i=((List.range ops.length).filter λj=>((ops.map qN)[j]?.getD false)&&decide (j<i)).length:=by
 intro ops
 induction ops with
 | nil=>intro i; simp [zn]
 | cons o r ih =>
  intro i;cases i with
  | zero =>
   have:∀ l:List Nat,(l.filter λ_=>false).length=0:=by intro l; induction l<;>simp_all
   simp [zn,this]
  | succ i =>
   simp only [zn,ih i,List.length_cons,List.range_succ_eq_map,List.filter_cons,List.map_cons,List.getElem?_cons_zero,Option.getD_some,Nat.zero_lt_succ,decide_true,Bool.and_true,List.filter_map,List.length_map];have:((λj=>((qN o::r.map qN)[j]?.getD false)&&decide (j<i+1)) ∘ Nat.succ)=λj=>((r.map qN)[j]?.getD false)&&decide (j<i):=by
    funext j; simp
   rw [this];by_cases h:qN o=true
   ·simp [h]; omega
   ·simp [h]
theorem filter_le {p q:Nat->Bool} (l:List Nat) (h:∀ x∈l,p x=true->q x=true):(l.filter p).length<=(l.filter q).length:=by
 induction l with
 | nil=>simp
 | cons x l ih =>
  have:=ih (λy hy=>h y (List.mem_cons_of_mem _ hy));simp only [List.filter_cons];by_cases hp:p x=true
  ·rw [if_pos hp,if_pos (h x (List.mem_cons_self ..) hp)]; simp; exact this
  ·rw [if_neg hp];by_cases hq:q x=true
   ·rw [if_pos hq]; simp; omega
   ·rw [if_neg hq]; exact this
theorem filter_eq {p q:Nat->Bool} (l:List Nat) (h:∀ x∈l,p x=q x):(l.filter p).length=(l.filter q).length :=
 Nat.le_antisymm (filter_le l λx hx hp=>by rw [<- h x hx]; exact hp) (filter_le l λx hx hq=>by rw [h x hx]; exact hq)
end Go.Fx
namespace Go.Fx
open Go
theorem kz {md:Region.Mode} {ops:Array Oper} {qn:Array Bool} {i:Nat} (h:i∈Region.ready md ops qn) :
  i<ops.size/\qn.getD i true=false/\∃ o,ops[i]? = some o/\∀ e∈o.after,Region.binds md e=true->qn.getD e.on false=true:=by
 unfold Region.ready at h;simp only [List.mem_filter,List.mem_range,Bool.and_eq_true,Bool.not_eq_true'] at h;obtain ⟨h1,h2,h3⟩:=h;refine ⟨h1,h2,ops[i],Array.getElem?_eq_getElem h1,λe he hb=>?_⟩;rw [Array.getElem?_eq_getElem h1] at h3;simp only [Option.map_some,Option.getD_some,Array.all_eq_true',Bool.or_eq_true,Bool.not_eq_true'] at h3;rcases h3 e he with h|h
 ·rw [hb] at h; cases h
 ·exact h
theorem Hi {md:Region.Mode} {ops:Array Oper} {qn:Array Bool} {i:Nat} {o:Oper} (h1:ops[i]? = some o) (h2:qn.getD i true=false) (h3:∀ e∈o.after,Region.binds md e=true->qn.getD e.on false=true):i∈Region.ready md ops qn:=by
 have hi:i<ops.size:=by
  rcases Nat.lt_or_ge i ops.size with h|h
  ·exact h
  ·rw [Array.getElem?_eq_none h] at h1; cases h1
 unfold Region.ready;simp only [List.mem_filter,List.mem_range,Bool.and_eq_true,Bool.not_eq_true'];refine ⟨hi,h2,?_⟩;rw [h1];simp only [Option.map_some,Option.getD_some,Array.all_eq_true',Bool.or_eq_true,Bool.not_eq_true'];intro e he;cases hb:Region.binds md e with
 | false=>exact .inl rfl
 | true=>exact .inr (h3 e he hb)
theorem yq {P:Program} {ops:Array Oper}:∀ {l:List Oper} {al:List AOper},jY P ops l=some al->al.length=l.length/\∀ (i:Nat) o,l[i]? = some o->∃ p,al[i]? = some p/\p.dst=o.dst/\yX P o=p.op /\
  (match o.guard with|none=>p.guard=none|some (j,want)=>∃ t,(ops[j]?).bind (·.dst)=some t/\p.guard=some (t,want))
 | [],al,h=>by simp only [jY,Option.some.injEq] at h; subst h; exact ⟨rfl,λi o h=>by simp at h⟩
 | o::l,al,h=>by
  simp only [jY,Option.bind_eq_some_iff] at h;obtain ⟨al',hal,h⟩:=h;obtain ⟨h1,h2⟩:=yq hal;have hal2:∃ g,al=⟨o.dst,yX P o,g⟩::al'/\(match o.guard with|none=>g=none|some (j,want)=>∃ t,(ops[j]?).bind (·.dst)=some t/\g=some (t,want)):=by
   split at h
   ·rename_i h0; cases h; exact ⟨none,rfl,by first|rfl|rw [h0]⟩
   ·rename_i j want h0;simp only [Option.map_eq_some_iff] at h;obtain ⟨t,ht,rfl⟩:=h;exact ⟨some (t,want),rfl,by first|exact ⟨t,ht,rfl⟩|(rw [h0]; exact ⟨t,ht,rfl⟩)⟩
  obtain ⟨g,rfl,hgu⟩:=hal2;refine ⟨by simp [h1],λi p hp=>?_⟩;cases i with
  | zero =>
   simp only [List.getElem?_cons_zero,Option.some.injEq] at hp;subst hp;exact ⟨_,rfl,rfl,rfl,hgu⟩
  | succ i=>simpa using h2 i p (by simpa using hp)
theorem ji (ts:List Value) (d:Option Nat) (v:Value):(xX ts d v).length=ts.length:=by cases d<;>simp [xX]
theorem jA (ts:List Value) (d:Option Nat) (v:Value) (t:Nat):(xX ts d v)[t]? = if d=some t/\t<ts.length then some v else ts[t]?:=by
 cases d with
 | none=>simp [xX]
 | some d =>
  simp only [xX,List.getElem?_set,Option.some.injEq];by_cases h:d=t
  ·subst h;by_cases h2:d<ts.length
   ·simp [h2]
   ·simp [h2]
  ·simp [h]
def cnt (al:List AOper) (L:Nat->Bool):Nat:=((List.range al.length).filter λj=>((al.map qN)[j]?.getD false)&&L j).length
structure Rg (P:Program) (call:zi) (ops:Array Oper) (al:List AOper) (E:Nat->List Nat) (lo hi:Nat->Nat) (ms:List Mem) (ts0:List Value) (T:Nat->List Value) (V:Nat->Value):Prop where
 len:al.length=ops.size
 op:∀ (i:Nat) o,ops[i]? = some o->∃ p,al[i]? = some p/\p.dst=o.dst/\yX P o=p.op /\
  (match o.guard with|none=>p.guard=none|some (j,want)=>∃ t,(ops[j]?).bind (·.dst)=some t/\p.guard=some (t,want))
 edges:∀ (i:Nat) o,ops[i]? = some o->E i=zR o
 lt:∀ i e,e∈E i->e<i
 slot:∀ (i j:Nat) (o p:AOper) t,i≠j->al[i]? = some o->al[j]? = some p->p.dst=some t->(t∈o.looks->Anc E i j∨Anc E j i)/\o.dst≠some t
 chain:∀ (i j:Nat) (o p:AOper),i≠j->al[i]? = some o->al[j]? = some p->qN o=true->qN p=true->Anc E i j∨Anc E j i
 lo_le:∀ i L,(∀ j,Anc E i j->L j=true)->lo i<=cnt al L
 le_hi:∀ i L,(∀ j,L j=true->¬ Anc E j i)->cnt al L<=hi i
 zero:T 0=ts0
 next:∀ (i:Nat) o,al[i]? = some o->T (i+1)=xX (T i) o.dst (V i)
 eff:∀ (i:Nat) o,al[i]? = some o->zg (T i) o.guard=true->o.op.cls=.eff->∃ M M',ms[zn al i]? = some M/\ms[zn al i+1]? = some M'/\zA call (T i) M o.op=some (V i,M')
 read:∀ (i:Nat) o,al[i]? = some o->zg (T i) o.guard=true->o.op.cls=.read->∃ q,o.op.req (T i)=some q/\∀ k,lo i<=k->k<=hi i->∃ M,ms[k]? = some M/\q.run M=some (V i)
 pure:∀ (i:Nat) o,al[i]? = some o->zg (T i) o.guard=true->o.op.cls=.pure->∀ M,o.op.run (T i) M=some (V i,M)
 idle:∀ (i:Nat) o,al[i]? = some o->zg (T i) o.guard=false->V i=undef/\(o.op.cls=.eff->∃ M,ms[zn al i]? = some M/\ms[zn al i+1]? = some M)
section
variable {P:Program} {call:zi} {ops:Array Oper} {al:List AOper} {E:Nat->List Nat} {lo hi:Nat->Nat} {ms:List Mem} {ts0:List Value} {T:Nat->List Value} {V:Nat->Value}
def xx (al:List AOper) (i:Nat):Option Nat:=(al[i]?).bind (·.dst)
def Fr (al:List AOper) (V:Nat->Value) (ts0:List Value) (L:Nat->Bool) (ts:List Value):Prop :=
 ts.length=ts0.length/\(∀ i d,L i=true->xx al i=some d->d<ts0.length->ts[d]? = some (V i))/\(∀ d,(∀ i,L i=true->xx al i≠some d)->ts[d]? = ts0[d]?)
theorem Rg.kC (R:Rg P call ops al E lo hi ms ts0 T V) {i j d:Nat} (hi:xx al i=some d) (hj:xx al j=some d):i=j:=by
 rcases Nat.decEq i j with h|h
 ·simp only [xx,Option.bind_eq_some_iff] at hi hj;obtain ⟨o,ho,hod⟩:=hi;obtain ⟨p,hp,hpd⟩:=hj;exact absurd hod (R.slot i j o p d h ho hp hpd).2
 ·exact h
theorem Rg.fr (R:Rg P call ops al E lo hi ms ts0 T V):∀ i,i<=al.length->Fr al V ts0 (λj=>decide (j<i)) (T i):=by
 intro i
 induction i with
 | zero =>
  intro _;rw [R.zero];exact ⟨rfl,λi d h=>by simp at h,λ_ _=>rfl⟩
 | succ i ih =>
  intro hi';obtain ⟨h1,h2,h3⟩:=ih (by omega);have ho:al[i]? = some (al[i]'(by omega)):=List.getElem?_eq_getElem (by omega);generalize al[i]'(by omega)=o at ho;rw [R.next i o ho];refine ⟨by rw [ji,h1],λj d hj hd hlt=>?_,λd hd=>?_⟩
  ·rw [jA,h1];simp only [decide_eq_true_eq] at hj;by_cases hji:j=i
   ·subst hji;have:o.dst=some d:=by simpa [xx,ho] using hd
    rw [if_pos ⟨this,hlt⟩]
   ·rw [if_neg (λhh=>hji (R.kC hd (by simpa [xx,ho] using hh.1)))];exact h2 j d (by simp; omega) hd hlt
  ·rw [jA];have:o.dst≠some d:=by
    have:=hd i (by simp);simpa [xx,ho] using this
   rw [if_neg (λhh=>this hh.1)];exact h3 d (λj hj=>hd j (by simp at hj ⊢; omega))
theorem Fr.put (R:Rg P call ops al E lo hi ms ts0 T V) {L:Nat->Bool} {ts:List Value} (h:Fr al V ts0 L ts) {i:Nat} {o:AOper} (ho:al[i]? = some o) {L':Nat->Bool} (hL:∀ j,L' j=true↔j=i∨L j=true):Fr al V ts0 L' (xX ts o.dst (V i)):=by
 obtain ⟨h1,h2,h3⟩:=h;refine ⟨by rw [ji,h1],λj d hj hd hlt=>?_,λd hd=>?_⟩
 ·rw [jA,h1];by_cases hji:j=i
  ·subst hji;have:o.dst=some d:=by simpa [xx,ho] using hd
   rw [if_pos ⟨this,hlt⟩]
  ·rw [if_neg (λhh=>hji (R.kC hd (by simpa [xx,ho] using hh.1)))];exact h2 j d (((hL j).1 hj).resolve_left hji) hd hlt
 ·rw [jA];have:o.dst≠some d:=by
   have:=hd i ((hL i).2 (.inl rfl));simpa [xx,ho] using this
  rw [if_neg (λhh=>this hh.1)];exact h3 d (λj hj=>hd j ((hL j).2 (.inr hj)))
theorem Rg.agree (R:Rg P call ops al E lo hi ms ts0 T V) {L:Nat->Bool} {ts:List Value} (h:Fr al V ts0 L ts) (hL:∀ x,L x=true->∀ e∈E x,L e=true) {i:Nat} {o:AOper} (ho:al[i]? = some o) (hi':L i=false) (hr:∀ e∈E i,L e=true):jT o.looks ts (T i):=by
 intro t ht;have hlen:i<al.length:=by
  rcases Nat.lt_or_ge i al.length with h|h
  ·exact h
  ·rw [List.getElem?_eq_none h] at ho; cases ho
 obtain ⟨g1,g2,g3⟩:=R.fr i (by omega);obtain ⟨f1,f2,f3⟩:=h;by_cases hlt:t<ts0.length
 ·by_cases hex:∃ j,xx al j=some t
  ·obtain ⟨j,hj⟩:=hex;by_cases hji:j=i
   ·subst hji;rw [f3 t (λk hk hkd=>by rw [R.kC hkd hj] at hk; rw [hk] at hi'; cases hi'),g3 t (λk hk hkd=>by rw [R.kC hkd hj] at hk; simp at hk)]
   ·have hj':=hj;simp only [xx,Option.bind_eq_some_iff] at hj;obtain ⟨p,hp,hpd⟩:=hj;rcases (R.slot i j o p t (Ne.symm hji) ho hp hpd).1 ht with ha|ha
    ·have hLj:L j=true:=ha.qn (L:=λx=>L x=true) hL hr;have hlt':=ha.lt R.lt;rw [f2 j t hLj hj' hlt,g2 j t (by simpa using hlt') hj' hlt]
    ·have hLj:L j=false:=by
      cases hh:L j with
      | false=>rfl
      | true =>
       have:=ha.qn (L:=λx=>L x=true) hL (hL j hh);rw [hi'] at this; cases this
     have hlt':=ha.lt R.lt;rw [f3 t (λk hk hkd=>by rw [R.kC hkd hj'] at hk; rw [hk] at hLj; cases hLj),g3 t (λk hk hkd=>by rw [R.kC hkd hj'] at hk; simp at hk; omega)]
  ·have hn:∀ k,xx al k≠some t:=λk hk=>hex ⟨k,hk⟩
   rw [f3 t (λk _=>hn k),g3 t (λk _=>hn k)]
 ·rw [List.getElem?_eq_none (by omega),List.getElem?_eq_none (by omega)]
theorem qhY (al:List AOper) {L L':Nat->Bool} {i:Nat} {o:AOper} (ho:al[i]? = some o) (hi:L i=false) (hL:∀ j,L' j=true↔j=i∨L j=true):cnt al L'=cnt al L+(if qN o then 1 else 0):=by
 have hlen:i<al.length:=by
  rcases Nat.lt_or_ge i al.length with h|h
  ·exact h
  ·rw [List.getElem?_eq_none h] at ho; cases ho
 unfold cnt;have hL':∀ j,L' j=(decide (j=i)||L j):=by
  intro j;rw [Bool.eq_iff_iff]; simp [hL j]
 have key:∀ (l:List Nat),l.Nodup->(l.filter λj=>((al.map qN)[j]?.getD false)&&L' j).length=(l.filter λj=>((al.map qN)[j]?.getD false)&&L j).length+(if i∈l/\qN o=true then 1 else 0):=by
  intro l
  induction l with
  | nil=>intro _; simp
  | cons x l ih =>
   intro hnd;rw [List.nodup_cons] at hnd;have:=ih hnd.2;simp only [List.filter_cons,hL',List.mem_cons];simp only [hL'] at this;by_cases hx:x=i
   ·subst hx;have hx':(al.map qN)[x]?.getD false=qN o:=by simp [ho]
    simp only [hx',hi,decide_true,Bool.true_or,Bool.and_true,Bool.and_false,Bool.false_eq_true,if_false,true_or,true_and];have hnot:¬ (x∈l/\qN o=true):=λh=>hnd.1 h.1
    rw [if_neg hnot] at this;by_cases he:qN o=true
    ·rw [if_pos he,if_pos he,List.length_cons,this]
    ·rw [if_neg he,if_neg he,this]
   ·simp only [hx,decide_false,Bool.false_or,Ne.symm hx,false_or];have hx2:(i=x)=False:=by simp; exact λh=>hx h.symm
    by_cases he:((al.map qN)[x]?.getD false&&L x)=true
    ·rw [if_pos he,if_pos he,List.length_cons,List.length_cons,this]; omega
    ·rw [if_neg he,if_neg he,this]
 rw [key _ List.nodup_range];simp [hlen]
theorem Rg.qcx (R:Rg P call ops al E lo hi ms ts0 T V) {L:Nat->Bool} (hL:∀ x,L x=true->∀ e∈E x,L e=true) (hsub:∀ x,L x=true->x<al.length) {i:Nat} {o:AOper} (ho:al[i]? = some o) (he:qN o=true) (hi':L i=false) (hr:∀ e∈E i,L e=true):cnt al L=zn al i:=by
 rw [effN_eq];unfold cnt;refine filter_eq _ λj hj=>?_
 cases hje:(al.map qN)[j]?.getD false with
 | false=>rfl
 | true =>
  have hjl:j<al.length:=by simpa using hj
  have hp:al[j]? = some al[j]:=List.getElem?_eq_getElem hjl;have hpe:qN al[j]=true:=by simpa [hp] using hje
  by_cases hji:j=i
  ·subst hji; simp [hi']
  ·rcases R.chain i j o al[j] (Ne.symm hji) ho hp he hpe with ha|ha
   ·have hLj:L j=true:=ha.qn (L:=λx=>L x=true) hL hr;have hlt:=ha.lt R.lt;simp [hLj,hlt]
   ·have hLj:L j=false:=by
     cases hh:L j with
     | false=>rfl
     | true =>
      have:=ha.qn (L:=λx=>L x=true) hL (hL j hh);rw [hi'] at this; cases this
    have hlt:=ha.lt R.lt;simp [hLj]; omega
end
end Go.Fx
