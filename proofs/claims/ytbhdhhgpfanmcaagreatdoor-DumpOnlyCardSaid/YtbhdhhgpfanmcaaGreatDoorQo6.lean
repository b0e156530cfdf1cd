/- Parts of a proof: FxStep, FxTmps, FxDraw, FxDraw2. Conditions: none. -/
import Derived.LoopNIn
import Derived.TacticsIn
import Derived.OrdersIn
import Derived.RangeFuncSeq
import Derived.Tactics
import Derived.Scope
import Derived.Orders
import Derived.Test.YtbhdhhgpfanmcaaGreatDoorQo5
set_option linter.unusedSimpArgs false
set_option linter.unusedVariables false
namespace Go.Fx
open Go
structure AOper where
 dst:Option Nat
 op:AOp
 guard:Option (Nat × Bool)
abbrev qZ:=FuncId→List Value→Mem→Option (Value × Mem)
def jV:Value→Option (FuncId × List Value × List Value)
 | .func (.func f) first cap=>bif Nat.blt f yBase then some (f,first.toList,cap.toList) else none
 | .func (.yield N) _ _=>some (yBase+N,[],[])
 | _=>none
def zo (call:qZ) (ts:List Value) (m:Mem):AOp→Option (Value × Mem)
 | .call f xs=>(jI ts xs).bind fun l=>call f l m
 | .callv x xs=>(qS ts x).bind fun v=>(jV v).bind fun p=>(jI ts xs).bind fun l=>call p.1 (p.2.1++(l++p.2.2)) m
 | o=>o.run ts m
def xK (ts:List Value) (dst:Option Nat) (v:Value):List Value :=
 match dst with
 | some d=>ts.set d v
 | none=>ts
def qX (ts:List Value) (g:Option (Nat × Bool)):Bool :=
 match g with
 | none=>true
 | some (t,want)=>match ts[t]? with
  | some (.bool b)=>b == want
  | _=>false
def zO (call:qZ):List AOper→List Value→Mem→Option (List Value × Mem)
 | [],ts,m=>some (ts,m)
 | o::r,ts,m =>
  if qX ts o.guard then (zo call ts m o.op).bind fun p=>zO call r (xK ts o.dst p.1) p.2
  else zO call r (xK ts o.dst undef) m
def yr (P:Program) (o:Oper):AOp:=(res P o).getD .stop
def jG (P:Program) (ops:Array Oper):List Oper→Option (List AOper)
 | []=>some []
 | o::r=>(jG P ops r).bind fun l =>
  match o.guard with
  | none=>some (⟨o.dst,yr P o,none⟩::l)
  | some (j,want)=>((ops[j]?).bind (·.dst)).map fun t=>⟨o.dst,yr P o,some (t,want)⟩::l
def rf (ro:Option Nat):Fence:={ Fence.wide with round:=ro }
theorem Wp (ro:Option Nat) (k:Nat):(rf ro).depth.isSome=true→1≤k:=fun h=>(by cases h)
theorem Wq {ro:Option Nat} {n:Nat} {P:Program} {f:FuncId} {args:Array Value} {w:World} {R:Ending→World→Prop}:CallsIn (rf ro) n P f args w R↔Calls P f args w R :=
 Iff.trans (show CallsIn (rf ro) n P f args w R↔CallsIn Fence.wide n P f args w R from Iff.rfl) callsIn_wide
def vk (P:Program) (φ:Ren) (m:Mem) (w:World) (f:FuncId) (args:Array Value) (v:Value) (m':Mem):Prop :=
 Calls P f args w fun e w'=>∃ V φ',e=.returned V∧VR φ' v V∧Inv φ' m' w'∧Frm φ m w φ' m' w'
def qhN (P:Program) (φ:Ren) (m:Mem) (w:World) (N:Nat) (args:Array Value) (v:Value) (m':Mem):Prop :=
 ∃ l b,φ N=some l∧v=.bool b∧YieldAt (rf none) 0 P l.blk args w fun e w'=>e=.returned (.bool b)∧∃ φ',Inv φ' m' w'∧Frm φ m w φ' m' w'
structure CallOk (P:Program) (call:qZ):Prop where
 fn:∀ f args m v m',f<yBase→call f args m=some (v,m')→∀ φ w (ARGS:Array Value),Inv φ m w→VRs φ args ARGS.toList→vk P φ m w f ARGS v m'
 yl:∀ N args m v m',call (yBase+N) args m=some (v,m')→∀ φ w (ARGS:Array Value),Inv φ m w→VRs φ args ARGS.toList→qhN P φ m w N ARGS v m'
theorem qcN {P:Program} {w:World} {ρ:Operand→Value} {x:Operand} {f:FuncId} {fst cap:Array Value} {xs:Array Operand} {tys:Array TypeId} {ty:TypeId} {d:Option Tmp} {pos:String} {af:Array Edge} {g:Option (Nat × Bool)}
  (hx:ρ x=.func (.func f) fst cap) (hf:zL P f=true) :
  (execOp ρ ⟨d,.call { callee:=.value x,args:=xs,argTypes:=tys },ty,pos,af,g⟩).run P w=.ok (.enter f (fst++xs.map ρ++cap)) w:=by
 unfold zL at hf
 split at hf
 ·rename_i fn hfn
  simp only [Bool.and_eq_true,bne_iff_ne,ne_eq] at hf
  obtain ⟨c,hb⟩:=Option.isSome_iff_exists.1 hf.2
  simp [execOp,resolve,Deferred.ofValue,hx,invoke,callFunc,hfn,hf.1.2,hb]
 ·cases hf
theorem JO {P:Program} {f:FuncId} (h:zL P f=true):f<yBase:=by
 unfold zL at h
 split at h
 ·simp only [Bool.and_eq_true] at h
  simpa using h.1.1
 ·cases h
theorem Jl {P:Program} {w w':World} {ρ:Operand→Value} {x:Operand} {N:Nat} {xs:Array Operand} {tys:Array TypeId} {ty:TypeId} {d:Option Tmp} {pos:String} {af:Array Edge} {g:Option (Nat × Bool)} {r:Next}
  (hx:ρ x=.func (.yield N) #[] #[]) (hy:(Instr.yield N (xs.map ρ)).run P w=.ok r w') :
  (execOp ρ ⟨d,.call { callee:=.value x,args:=xs,argTypes:=tys },ty,pos,af,g⟩).run P w=.ok r w':=by
 simp [execOp,resolve,Deferred.ofValue,hx,invoke,hy]
theorem Jj {ro:Option Nat} {P:Program} {o:Oper} (hnd:∀ c,o.op≠.defer c) {φ:Ren} {m m':Mem} {w:World} {a:Act} {v:Value} {next:Act→World→Prop} {Q:Exit→Act→World→Prop} (h:qE φ m w ((execOp a.eval o).run P w) v m')
  (hn:∀ V w' φ',VR φ' v V→Inv φ' m' w'→Frm φ m w φ' m' w'→next (a.put o.dst V) w'):o.wpIn (rf ro) 0 P a w next Q:=by
 obtain ⟨V,w',φ',hr,hv,hi,hf⟩:=h
 refine ⟨fun _ _=>trivial,?_⟩
 rw [Oper.semAt_eq _ _ _ hnd]
 rcases hr with hr|⟨hr,rfl⟩
 ·rw [hr]; exact hn V w' φ' hv hi hf
 ·rw [hr]; exact hn undef w' φ' hv hi hf
theorem zw (call:qZ) (ts:List Value) (m:Mem) {ao:AOp} (h:ao.kS=false):zo call ts m ao=ao.run ts m:=by
 cases ao<;>first|rfl|simp [AOp.kS] at h
theorem JA {P:Program} {o:Oper} {ao:AOp} (h:res P o=some ao):∀ c,o.op≠.defer c:=by
 intro c hc
 unfold res at h
 rw [hc] at h
 simp only [wX,QK,hc,Option.bind_none] at h
 cases h
theorem xP {ro:Option Nat} {P:Program} {call:qZ} (hc:CallOk P call) (hg:∀ f args m r,f<yBase→call f args m=some r→zL P f=true) {o:Oper} {ao:AOp} (hr0:yr P o=ao) {φ:Ren} {m m':Mem} {w:World} (hi:Inv φ m w) {ts:List Value} {a:Act}
  (ht:VRs φ ts a.tmps.toList) {v:Value} (h:zo call ts m ao=some (v,m')) {next:Act→World→Prop} {Q:Exit→Act→World→Prop}
  (hn:∀ V w' φ',VR φ' v V→Inv φ' m' w'→Frm φ m w φ' m' w'→next (a.put o.dst V) w'):o.wpIn (rf ro) 0 P a w next Q:=by
 have hr:res P o=some ao:=by
  unfold yr at hr0
  cases hres:res P o with
  | none=>rw [hres] at hr0; simp only [Option.getD_none] at hr0; subst hr0; simp [zo,AOp.run] at h
  | some x=>rw [hres] at hr0; simp only [Option.getD_some] at hr0; rw [hr0]
 rcases YQ hr with hcl|⟨x,args,tys,ho,hcase⟩
 ·rw [zw call ts m hcl] at h
  exact Jj (JA hr) (qbn hr hi ht h) hn
 ·obtain ⟨d,op,ty,pos,af,g⟩:=o
  simp only at ho
  subst ho
  have fin:∀ {f:FuncId} {fst cap:Array Value} {fstA capA:List Value} {l:List Value},a.eval x=.func (.func f) fst cap→VRs φ fstA fst.toList→VRs φ capA cap.toList →
    jI ts args.toList=some l→f<yBase→call f (fstA++(l++capA)) m=some (v,m')→Oper.wpIn (rf ro) 0 P ⟨d,.call { callee:=.value x,args,argTypes:=tys },ty,pos,af,g⟩ a w next Q:=by
   intro f fst cap fstA capA l hx hfst hcap hl hfl hcall
   refine ⟨fun _ _=>trivial,?_⟩
   rw [Oper.semAt_eq _ _ _ (fun c hc=>by cases hc)]
   rw [qcN hx (hg _ _ _ _ hfl hcall)]
   rw [Oper.uponIn_enter]
   refine ⟨Wp ro _,Wq.2 ?_⟩
   have:=hc.fn f _ m v m' hfl hcall φ w (fst++args.map a.eval++cap) hi (by
    have:=hfst.append ((kX ht hl).append hcap)
    simpa using this)
   refine this.mono ?_
   rintro e w' ⟨V,φ',rfl,hv,hi',hf'⟩
   exact hn V w' φ' hv hi' hf'
  rcases hcase with ⟨f,rfl,rfl,hgf⟩|rfl
  ·simp only [zo,Option.bind_eq_some_iff] at h
   obtain ⟨l,hl,h⟩:=h
   exact fin (fst:=#[]) (cap:=#[]) (fstA:=[]) (capA:=[]) rfl (VRs.nil φ) (VRs.nil φ) hl (JO hgf) (by simpa using h)
  ·simp only [zo,Option.bind_eq_some_iff] at h
   obtain ⟨u,hu,⟨f,fstA,cap⟩,hcap,l,hl,h⟩:=h
   have hv:=qt ht hu
   generalize hx:a.eval x=X at hv
   unfold jV at hcap
   split at hcap
   ·rename_i f' us vs
    cases hlt:Nat.blt f' yBase with
    | false=>rw [hlt] at hcap; cases hcap
    | true =>
     rw [hlt] at hcap
     simp only [cond_true,Option.some.injEq,Prod.mk.injEq] at hcap
     obtain ⟨rfl,rfl,rfl⟩:=hcap
     cases hv with
     | func _ _ _ _ _ h1 h2 h3 h4=>exact fin hx (VRs.of_array h1 h2) (VRs.of_array h3 h4) hl (by simpa using hlt) h
   ·rename_i N us vs
    cases hcap
    cases hv with
    | yield _ lo hlo =>
     have hcl:=hc.yl N _ m v m' h φ w (args.map a.eval) hi (by simpa using kX ht hl)
     obtain ⟨lo',b,hlo',rfl,fn,tm,ass,bo,hyr,hround⟩:=hcl
     rw [hlo] at hlo'; cases hlo'
     refine ⟨fun _ _=>trivial,?_⟩
     rw [Oper.semAt_eq _ _ _ (fun c hc=>by cases hc)]
     rw [Jl hx hyr,Oper.uponIn_round]
     refine ⟨Wp ro _,?_⟩
     refine RoundIn.mono (show RoundIn (rf ro) 0 P lo.blk fn tm ass bo w _ from hround) ?_
     rintro e w' ⟨rfl,φ',hi',hf'⟩
     exact hn (.bool b) w' φ' (.bool b) hi' hf'
   ·cases hcap
theorem ZK {φ:Ren} {ts:List Value} {a:Act} (ht:VRs φ ts a.tmps.toList) (d:Option Nat) {v V:Value} (hv:VR φ v V):VRs φ (xK ts d v) (a.put d V).tmps.toList:=by
 cases d with
 | none=>exact ht
 | some d=>simpa [xK,Act.put] using ht.set hv d
theorem put_defers (a:Act) (d:Option Nat) (v:Value):(a.put d v).defers=a.defers:=by cases d<;>rfl
theorem Qx {φ:Ren} {ts:List Value} {a:Act} (ht:VRs φ ts a.tmps.toList) {ops:Array Oper} {o:Oper} {g:Option (Nat × Bool)}
  (hg:match o.guard with|none=>g=none|some (j,want)=>∃ t,(ops[j]?).bind (·.dst)=some t∧g=some (t,want)):Region.wanted o (yielded ops a.tmps)=qX ts g:=by
 unfold Region.wanted
 split at hg
 ·rename_i h0
  rw [h0]; subst hg; rfl
 ·rename_i j want h0
  obtain ⟨t,h1,rfl⟩:=hg
  rw [h0]
  simp only [yielded,h1,Option.bind_some,qX]
  cases e:ts[t]? with
  | none =>
   have:a.tmps[t]? = none:=by
    rw [Array.getElem?_eq_none_iff]
    rw [List.getElem?_eq_none_iff] at e
    have:=ht.1; simp at this; omega
   rw [this]; rfl
  | some u =>
   obtain ⟨V,hV,r⟩:=ht.get e
   have hV':a.tmps[t]? = some V:=by simpa using hV
   rw [hV']
   cases r<;>simp
   all_goals (rename_i b; cases b<;>cases want<;>rfl)
def St (φ:Ren) (m:Mem) (w:World) (a:Act) (ts':List Value) (m':Mem) (a':Act) (w':World):Prop :=
 ∃ φ',VRs φ' ts' a'.tmps.toList∧Inv φ' m' w'∧Frm φ m w φ' m' w'∧a'.defers=a.defers
end Go.Fx
namespace Go.Fx
open Go
mutual
def veq:Value→Value→Bool
 | .bool a,.bool b=>a == b
 | .int k a,.int l b=>decide (k=l)&&a == b
 | .float k a,.float l b=>decide (k=l)&&a == b
 | .complex k a b,.complex l c d=>decide (k=l)&&a == c&&b == d
 | .string a,.string b=>decide (a.data.toList=b.data.toList)
 | .pointer a,.pointer b=>decide (a=b)
 | .slice a n c,.slice b m d=>decide (a=b)&&n == m&&c == d
 | .map a,.map b=>decide (a=b)
 | .chan a,.chan b=>decide (a=b)
 | .func f ⟨xs⟩ ⟨ys⟩,.func g ⟨us⟩ ⟨vs⟩=>decide (f=g)&&ZT xs us&&ZT ys vs
 | .nilFunc,.nilFunc=>true
 | .iface t v,.iface u w=>t == u&&veq v w
 | .nilIface,.nilIface=>true
 | .agg ⟨xs⟩,.agg ⟨ys⟩=>ZT xs ys
 | .tuple ⟨xs⟩,.tuple ⟨ys⟩=>ZT xs ys
 | _,_=>false
def ZT:List Value→List Value→Bool
 | [],[]=>true
 | x::xs,y::ys=>veq x y&&ZT xs ys
 | _,_=>false
end
mutual
theorem veq_eq:∀ (a b:Value),veq a b=true→a=b
 | .bool a,b,h=>by cases b<;>simp [veq] at h; subst h; rfl
 | .int k a,b,h=>by cases b<;>simp [veq] at h; obtain ⟨rfl,rfl⟩:=h; rfl
 | .float k a,b,h=>by cases b<;>simp [veq] at h; obtain ⟨rfl,rfl⟩:=h; rfl
 | .complex k a c,b,h=>by cases b<;>simp [veq] at h; obtain ⟨⟨rfl,rfl⟩,rfl⟩:=h; rfl
 | .string a,b,h=>by
  cases b<;>simp [veq] at h
  rename_i b
  obtain ⟨a⟩:=a; obtain ⟨b⟩:=b
  simp only at h
  subst h; rfl
 | .pointer a,b,h=>by cases b<;>simp [veq] at h; subst h; rfl
 | .slice a n c,b,h=>by cases b<;>simp [veq] at h; obtain ⟨⟨rfl,rfl⟩,rfl⟩:=h; rfl
 | .map a,b,h=>by cases b<;>simp [veq] at h; subst h; rfl
 | .chan a,b,h=>by cases b<;>simp [veq] at h; subst h; rfl
 | .func f ⟨xs⟩ ⟨ys⟩,b,h=>by
  cases b<;>try (simp [veq] at h; done)
  rename_i g us vs
  obtain ⟨us⟩:=us; obtain ⟨vs⟩:=vs
  simp only [veq,Bool.and_eq_true,decide_eq_true_eq] at h
  obtain ⟨⟨rfl,h1⟩,h2⟩:=h
  rw [veqs_eq _ _ h1,veqs_eq _ _ h2]
 | .nilFunc,b,h=>by cases b<;>simp [veq] at h; rfl
 | .iface t v,b,h=>by
  cases b<;>try (simp [veq] at h; done)
  simp only [veq,Bool.and_eq_true,beq_iff_eq] at h
  obtain ⟨rfl,h1⟩:=h
  rw [veq_eq _ _ h1]
 | .nilIface,b,h=>by cases b<;>simp [veq] at h; rfl
 | .agg ⟨xs⟩,b,h=>by
  cases b<;>try (simp [veq] at h; done)
  rename_i ys
  obtain ⟨ys⟩:=ys
  simp only [veq] at h
  rw [veqs_eq _ _ h]
 | .tuple ⟨xs⟩,b,h=>by
  cases b<;>try (simp [veq] at h; done)
  rename_i ys
  obtain ⟨ys⟩:=ys
  simp only [veq] at h
  rw [veqs_eq _ _ h]
theorem veqs_eq:∀ (a b:List Value),ZT a b=true→a=b
 | [],b,h=>by cases b<;>simp [ZT] at h; rfl
 | x::xs,b,h=>by
  cases b<;>simp [ZT] at h
  rw [veq_eq _ _ h.1,veqs_eq _ _ h.2]
end
mutual
theorem yR:∀ (a:Value),veq a a=true
 | .bool a=>by simp [veq]
 | .int k a=>by simp [veq]
 | .float k a=>by simp [veq]
 | .complex k a c=>by simp [veq]
 | .string a=>by simp [veq]
 | .pointer a=>by simp [veq]
 | .slice a n c=>by simp [veq]
 | .map a=>by simp [veq]
 | .chan a=>by simp [veq]
 | .func f ⟨xs⟩ ⟨ys⟩=>by simp [veq,vl xs,vl ys]
 | .nilFunc=>by simp [veq]
 | .iface t v=>by simp [veq,yR v]
 | .nilIface=>by simp [veq]
 | .agg ⟨xs⟩=>by simp [veq,vl xs]
 | .tuple ⟨xs⟩=>by simp [veq,vl xs]
theorem vl:∀ (a:List Value),ZT a a=true
 | []=>by simp [ZT]
 | x::xs=>by simp [ZT,yR x,vl xs]
end
def opT:Operand→List Nat
 | .tmp t=>[t]
 | _=>[]
def qbq:Option Operand→List Nat
 | some x=>opT x
 | none=>[]
def AOp.kD:AOp→List Nat
 | .mov x|.nilck x|.box _ x|.load1 x|.loadN _ x|.un _ x|.conv _ x|.b2s x|.fieldAddr _ x|.field _ _ _ x|.extract _ x|.lenS x|.lenStr x=>opT x
 | .pick c a b=>opT c++opT a++opT b
 | .alloc _ _|.stop=>[]
 | .flo _ o|.floAt _ o=>o.kD
 | .clearS _ x|.mkiface _ x=>opT x
 | .makeS _ _ _ a x=>opT a++opT x
 | .slice3 _ x lo hi mx=>opT x++qbq lo++qbq hi++opT mx
 | .build _ ps|.buildSlice _ _ _ ps=>ps.flatMap fun p=>opT p.2.2
 | .store _ a x|.arith _ a x|.eqD _ _ a x|.eqBool _ a x|.eqNil _ _ a x|.indexS _ a x|.indexA _ _ a x|.indexStr a x|.indexArr _ _ _ a x|.append _ _ _ a x|.copy _ a x=>opT a++opT x
 | .sliceStr x lo hi|.sliceS _ x lo hi|.sliceA _ _ x lo hi=>opT x++qbq lo++qbq hi
 | .min x xs|.max x xs|.callv x xs=>opT x++xs.flatMap opT
 | .call _ xs=>xs.flatMap opT
 | .mkfunc _ fs xs=>fs.flatMap opT++xs.flatMap opT
 | .p1 _ x|.r1 _ x|.e1 _ x=>opT x
 | .p2 _ x y|.r2 _ x y|.e2 _ x y=>opT x++opT y
 | .mapUpd _ x k y=>opT x++opT k++opT y
 | .makeM x=>qbq x
def jA (l:List Nat) (ts us:List Value):Prop:=∀ t,t∈l→ts[t]? = us[t]?
theorem jA.left {l k:List Nat} {ts us:List Value} (h:jA (l++k) ts us):jA l ts us:=fun t ht=>h t (List.mem_append_left _ ht)
theorem jA.right {l k:List Nat} {ts us:List Value} (h:jA (l++k) ts us):jA k ts us:=fun t ht=>h t (List.mem_append_right _ ht)
theorem qQ {ts us:List Value} {x:Operand} (h:jA (opT x) ts us):qS ts x=qS us x:=by
 cases x with
 | tmp t=>simp only [qS]; rw [h t (by simp [opT])]
 | _=>rfl
theorem zQ {ts us:List Value} {x:Option Operand} (h:jA (qbq x) ts us):xY ts x=xY us x:=by
 cases x with
 | none=>rfl
 | some x=>simp only [xY]; rw [qQ h]
theorem kz {ts us:List Value}:∀ {xs:List Operand},jA (xs.flatMap opT) ts us→jI ts xs=jI us xs
 | [],_=>rfl
 | x::xs,h=>by
  rw [List.flatMap_cons] at h
  simp only [jI]; rw [qQ h.left,kz h.right]
theorem vV {ts us:List Value}:∀ {ps:List (Nat × Nat × Operand)},jA (ps.flatMap fun p=>opT p.2.2) ts us→jW ts ps=jW us ps
 | [],_=>rfl
 | (o,s,x)::ps,h=>by
  rw [List.flatMap_cons] at h
  simp only [jW]; rw [qQ h.left,vV h.right]
theorem Qb {ts us:List Value} {ao:AOp} (h:jA ao.kD ts us):jr ts ao=jr us ao:=by
 cases ao<;>try rfl
 ·simp only [AOp.kD] at h; simp only [jr]; rw [qQ h]
 ·simp only [AOp.kD] at h; simp only [jr]; rw [vV h]
theorem ja (call:qZ) {ts us:List Value} (m:Mem) {ao:AOp} (h:jA ao.kD ts us):zo call ts m ao=zo call us m ao:=by
 cases ao<;>simp only [AOp.kD] at h<;>simp only [zo,AOp.run]
 all_goals first
  | rw [qQ h]
  | rw [qQ h.left,qQ h.right]
  | rw [qQ h.left.left,qQ h.left.right,qQ h.right]
  | rw [qQ h.left.left,zQ h.left.right,zQ h.right]
  | rw [qQ h.left.left.left,zQ h.left.left.right,zQ h.left.right,qQ h.right]
  | rw [qQ h.left,kz h.right]
  | rw [kz h]
  | rw [kz h.left,kz h.right]
  | rw [zQ h]
  | rw [vV h]
  | rw [Qb h]
  | rfl
inductive Cls where
 | pure|read|eff
 deriving DecidableEq
def AOp.cls:AOp→Cls
 | .alloc _ _|.box _ _|.buildSlice _ _ _ _|.store _ _ _|.append _ _ _ _ _|.copy _ _ _|.clearS _ _|.makeS _ _ _ _ _|.call _ _|.callv _ _|.flo _ _|.floAt _ _|.e1 _ _|.e2 _ _ _|.mapUpd _ _ _ _|.makeM _=>.eff
 | .load1 _|.loadN _ _|.b2s _|.sliceS _ _ _ _|.sliceA _ _ _ _ _|.slice3 _ _ _ _ _|.r1 _ _|.r2 _ _ _=>.read
 | _=>.pure
inductive Req where
 | load1 (v:Value)
 | loadN (n:Nat) (v:Value)
 | b2s (v:Value)
 | sliceS (size:Nat) (v:Value) (lo hi:Option Value)
 | sliceA (n size:Nat) (v:Value) (lo hi:Option Value)
 | slice3 (size:Nat) (v:Value) (lo hi:Option Value) (mx:Value)
 | r1 (k:R1) (v:Value)
 | r2 (k:R2) (v u:Value)
def Req.run (m:Mem):Req→Option Value
 | .load1 v=>qc v m
 | .loadN n v=>qm n v m
 | .b2s v=>xS v m
 | .sliceS size v lo hi=>qD size v lo hi m
 | .sliceA n size v lo hi=>xI n size v lo hi m
 | .slice3 size v lo hi mx=>ju size v lo hi mx m
 | .r1 k v=>k.run v m
 | .r2 k v u=>k.run v u m
def AOp.req (ts:List Value):AOp→Option Req
 | .load1 x=>(qS ts x).map .load1
 | .loadN n x=>(qS ts x).map (.loadN n)
 | .b2s x=>(qS ts x).map .b2s
 | .sliceS size x lo hi=>(qS ts x).bind fun v=>(xY ts lo).bind fun l=>(xY ts hi).map fun h=>.sliceS size v l h
 | .sliceA n size x lo hi=>(qS ts x).bind fun v=>(xY ts lo).bind fun l=>(xY ts hi).map fun h=>.sliceA n size v l h
 | .slice3 size x lo hi mx=>(qS ts x).bind fun v=>(xY ts lo).bind fun l=>(xY ts hi).bind fun h=>(qS ts mx).map fun k=>.slice3 size v l h k
 | .r1 k x=>(qS ts x).map (.r1 k)
 | .r2 k x y=>(qS ts x).bind fun v=>(qS ts y).map fun u=>.r2 k v u
 | _=>none
theorem yA {ts:List Value} {ao:AOp} {q:Req} {m:Mem} {v:Value} (hq:ao.req ts=some q) (h:q.run m=some v):ao.run ts m=some (v,m):=by
 cases ao<;>simp only [AOp.req] at hq<;>try (cases hq; done)
 ·simp only [Option.map_eq_some_iff] at hq; obtain ⟨p,hp,rfl⟩:=hq; simp only [Req.run] at h; simp [AOp.run,hp,h]
 ·simp only [Option.map_eq_some_iff] at hq; obtain ⟨p,hp,rfl⟩:=hq; simp only [Req.run] at h; simp [AOp.run,hp,h]
 ·simp only [Option.map_eq_some_iff] at hq; obtain ⟨p,hp,rfl⟩:=hq; simp only [Req.run] at h; simp [AOp.run,hp,h]
 ·simp only [Option.bind_eq_some_iff,Option.map_eq_some_iff] at hq; obtain ⟨p,hp,l,hl,r,hr,rfl⟩:=hq; simp only [Req.run] at h; simp [AOp.run,hp,hl,hr,h]
 ·simp only [Option.bind_eq_some_iff,Option.map_eq_some_iff] at hq; obtain ⟨p,hp,l,hl,r,hr,rfl⟩:=hq; simp only [Req.run] at h; simp [AOp.run,hp,hl,hr,h]
 ·simp only [Option.map_eq_some_iff] at hq; obtain ⟨p,hp,rfl⟩:=hq; simp only [Req.run] at h; simp [AOp.run,hp,h]
 ·simp only [Option.bind_eq_some_iff,Option.map_eq_some_iff] at hq; obtain ⟨p,hp,l,hl,rfl⟩:=hq; simp only [Req.run] at h; simp [AOp.run,hp,hl,h]
 ·simp only [Option.bind_eq_some_iff,Option.map_eq_some_iff] at hq; obtain ⟨p,hp,l,hl,r,hr,k,hk,rfl⟩:=hq; simp only [Req.run] at h; simp [AOp.run,hp,hl,hr,hk,h]
theorem yF {ts:List Value} {ao:AOp} {q:Req} (hq:ao.req ts=some q):ao.kS=false:=by
 cases ao<;>simp only [AOp.req] at hq<;>first|(cases hq; done)|rfl
theorem wU {ts us:List Value} {ao:AOp} (h:jA ao.kD ts us):ao.req ts=ao.req us:=by
 cases ao<;>simp only [AOp.kD] at h<;>simp only [AOp.req]
 ·rw [qQ h]
 ·rw [qQ h]
 ·rw [qQ h]
 ·rw [qQ h.left.left,zQ h.left.right,zQ h.right]
 ·rw [qQ h.left.left,zQ h.left.right,zQ h.right]
 ·rw [qQ h]
 ·rw [qQ h.left,qQ h.right]
 ·rw [qQ h.left.left.left,zQ h.left.left.right,zQ h.left.right,qQ h.right]
theorem run_pure {ts:List Value} {ao:AOp} {m m':Mem} {v:Value} (hc:ao.cls=.pure) (h:ao.run ts m=some (v,m')):m'=m∧∀ M,ao.run ts M=some (v,M):=by
  cases ao<;>simp only [AOp.cls] at hc<;>first
    | (cases hc; done)
    | (simp [AOp.run] at h; done)
    | (simp only [AOp.run,Option.bind_eq_some_iff,Option.map_eq_some_iff,Prod.mk.injEq] at h
       first
         | (obtain ⟨p,hp,rfl,rfl⟩:=h; exact ⟨rfl,fun M=>by simp [AOp.run,hp]⟩)
         | (obtain ⟨p,hp,u,hu,rfl,rfl⟩:=h; exact ⟨rfl,fun M=>by simp [AOp.run,hp,hu]⟩)
         | (obtain ⟨p,hp,q,hq,u,hu,rfl,rfl⟩:=h; exact ⟨rfl,fun M=>by simp [AOp.run,hp,hq,hu]⟩)
         | (obtain ⟨p,hp,q,hq,r,hr,u,hu,rfl,rfl⟩:=h; exact ⟨rfl,fun M=>by simp [AOp.run,hp,hq,hr,hu]⟩))
end Go.Fx
namespace Go.Fx
open Go
abbrev Tr:=List Value × Mem × List Mem × List (Req × Value × Nat × Nat)
def xy (call:qZ):List AOper→List (Nat × Nat)→List Value→Mem→Option Tr
 | [],_,ts,m=>some (ts,m,[m],[])
 | o::r,lh,ts,m =>
  if qX ts o.guard then
   match o.op.cls with
   | .eff=>(zo call ts m o.op).bind fun p=>(xy call r lh.tail (xK ts o.dst p.1) p.2).map fun x=>(x.1,x.2.1,m::x.2.2.1,x.2.2.2)
   | .read=>(o.op.req ts).bind fun q=>(q.run m).bind fun v=>(xy call r lh.tail (xK ts o.dst v) m).map fun x=>(x.1,x.2.1,x.2.2.1,(q,v,lh.headD (0,0))::x.2.2.2)
   | .pure=>(o.op.run ts m).bind fun p=>xy call r lh.tail (xK ts o.dst p.1) m
  else
   match o.op.cls with
   | .eff=>(xy call r lh.tail (xK ts o.dst undef) m).map fun x=>(x.1,x.2.1,m::x.2.2.1,x.2.2.2)
   | _=>xy call r lh.tail (xK ts o.dst undef) m
def vY (ms:List Mem) (x:Req × Value × Nat × Nat):Bool :=
 (List.range (x.2.2.2+1 - x.2.2.1)).all fun k=>match ms[x.2.2.1+k]? with
  | some M=>match x.1.run M with
   | some u=>veq u x.2.1
   | none=>false
  | none=>false
def kj (call:qZ) (ops:List AOper) (lh:List (Nat × Nat)) (ts:List Value) (m:Mem):Option (List Value × Mem) :=
 (xy call ops lh ts m).bind fun x=>if x.2.2.2.all (vY x.2.2.1)=true then some (x.1,x.2.1) else none
def Xt:Nat→List AOper→List (Nat × Nat)→Bool
 | _,[],_=>true
 | k,o::r,lh=>match o.op.cls with
  | .eff=>Xt (k+1) r lh.tail
  | .read=>lh.headD (0,0) == (k,k)&&Xt k r lh.tail
  | .pure=>Xt k r lh.tail
theorem qbj (call:qZ):∀ (ops:List AOper) (k:Nat) (lh:List (Nat × Nat)) (ts:List Value) (m:Mem),Xt k ops lh=true→∀ r,zO call ops ts m=some r →
    ∃ ms rq,xy call ops lh ts m=some (r.1,r.2,m::ms,rq)∧∀ pre:List Mem,pre.length=k→rq.all (vY (pre++m::ms))=true:=by
  intro ops
  induction ops with
  | nil =>
    intro k lh ts m _ r hr
    simp only [zO,Option.some.injEq] at hr
    subst hr
    exact ⟨[],[],rfl,fun _ _=>rfl⟩
  | cons o r ih =>
    intro k lh ts m hs x hr
    unfold Xt at hs
    unfold zO at hr
    unfold xy
    by_cases hw:qX ts o.guard=true
    · rw [if_pos hw] at hr
      rw [if_pos hw]
      cases hc:o.op.cls with
      | eff =>
        rw [hc] at hs
        simp only at hs ⊢
        obtain ⟨p,hp,hr⟩:=Option.bind_eq_some_iff.1 hr
        obtain ⟨ms,rq,h1,h2⟩:=ih (k+1) lh.tail _ _ hs x hr
        refine ⟨p.2::ms,rq,by rw [hp,Option.bind_some,h1]; rfl,fun pre hpre=>?_⟩
        have:=h2 (pre++[m]) (by simp [hpre])
        simpa using this
      | pure =>
        rw [hc] at hs
        simp only at hs ⊢
        obtain ⟨p,hp,hr⟩:=Option.bind_eq_some_iff.1 hr
        rw [zw call ts m (by cases ho:o.op<;>rw [ho] at hc<;>first|rfl|cases hc)] at hp
        obtain ⟨h3,_⟩:=run_pure (v:=p.1) (m':=p.2) hc hp
        rw [h3] at hr
        obtain ⟨ms,rq,h1,h2⟩:=ih k lh.tail _ _ hs x hr
        exact ⟨ms,rq,by rw [hp,Option.bind_some,h1],h2⟩
      | read =>
        rw [hc] at hs
        simp only [Bool.and_eq_true,beq_iff_eq] at hs ⊢
        obtain ⟨hl,hs⟩:=hs
        obtain ⟨p,hp,hr⟩:=Option.bind_eq_some_iff.1 hr
        rw [zw call ts m (by cases ho:o.op<;>rw [ho] at hc<;>first|rfl|cases hc)] at hp
        obtain ⟨q,hq1,hq2,hq3⟩:∃ q,o.op.req ts=some q∧q.run m=some p.1∧p.2=m:=by
          cases ho:o.op<;>rw [ho] at hc hp<;>first
            | (cases hc; done)
            | (simp only [AOp.run,Option.bind_eq_some_iff,Option.map_eq_some_iff] at hp
               first
                 | (obtain ⟨v,hv,u,hu,rfl⟩:=hp; refine ⟨_,by simp only [AOp.req,hv]; rfl,?_,rfl⟩; exact hu)
                 | (obtain ⟨v,hv,l,hl,u,hu,rfl⟩:=hp; refine ⟨_,by simp only [AOp.req,hv,hl,Option.bind_some]; rfl,?_,rfl⟩; exact hu)
                 | (obtain ⟨v,hv,l,hl,h,hh,u,hu,rfl⟩:=hp; refine ⟨_,by simp only [AOp.req,hv,hl,hh,Option.bind_some]; rfl,?_,rfl⟩; exact hu)
                 | (obtain ⟨v,hv,l,hl,h,hh,k,hk,u,hu,rfl⟩:=hp; refine ⟨_,by simp only [AOp.req,hv,hl,hh,hk,Option.bind_some]; rfl,?_,rfl⟩; exact hu))
        rw [hq3] at hr
        obtain ⟨ms,rq,h1,h2⟩:=ih k lh.tail _ _ hs x hr
        refine ⟨ms,(q,p.1,lh.headD (0,0))::rq,by rw [hq1,Option.bind_some,hq2,Option.bind_some,h1]; rfl,fun pre hpre=>?_⟩
        rw [List.all_cons,h2 pre hpre,Bool.and_true,hl]
        subst hpre
        simp [vY,hq2,yR]
    · rw [if_neg hw] at hr
      rw [if_neg hw]
      cases hc:o.op.cls with
      | eff =>
        rw [hc] at hs
        simp only at hs ⊢
        obtain ⟨ms,rq,h1,h2⟩:=ih (k+1) lh.tail _ _ hs x hr
        refine ⟨m::ms,rq,by rw [h1]; rfl,fun pre hpre=>?_⟩
        have:=h2 (pre++[m]) (by simp [hpre])
        simpa using this
      | pure =>
        rw [hc] at hs
        simp only at hs ⊢
        exact ih k lh.tail _ _ hs x hr
      | read =>
        rw [hc] at hs
        simp only [Bool.and_eq_true] at hs ⊢
        obtain ⟨ms,rq,h1,h2⟩:=ih k lh.tail _ _ hs.2 x hr
        exact ⟨ms,rq,h1,h2⟩
theorem qcO {call:qZ} {ops:List AOper} {lh:List (Nat × Nat)} (h:Xt 0 ops lh=true) {ts:List Value} {m:Mem} {r:List Value × Mem} (hr:zO call ops ts m=some r):kj call ops lh ts m=some r:=by
 obtain ⟨ms,rq,h1,h2⟩:=qbj call ops 0 lh ts m h r hr
 have:=h2 [] rfl
 simp only [List.nil_append] at this
 simp only [kj,h1,Option.bind_some,this,if_true]
def qG (o:AOper):Bool:=decide (o.op.cls=.eff)
def zd:List AOper→Nat→Nat
 | [],_=>0
 | _::_,0=>0
 | o::r,i+1=>(if qG o then 1 else 0)+zd r i
def Fact (call:qZ) (ms:List Mem) (rq:List (Req × Value × Nat × Nat)) (lh:Nat × Nat) (c:Nat) (o:AOper) (T:List Value) (V:Value):Prop :=
 (qX T o.guard=true∧(o.op.cls=.eff→∃ M M',ms[c]? = some M∧ms[c+1]? = some M'∧zo call T M o.op=some (V,M')) ∧
  (o.op.cls=.read→∃ q,o.op.req T=some q∧(q,V,lh)∈rq)∧(o.op.cls=.pure→∀ M,o.op.run T M=some (V,M))) ∨
 (qX T o.guard=false∧V=undef∧(o.op.cls=.eff→∃ M,ms[c]? = some M∧ms[c+1]? = some M))
theorem Fact.shift {call:qZ} {ms:List Mem} {rq:List (Req × Value × Nat × Nat)} {lh:Nat × Nat} {c:Nat} {o:AOper} {T:List Value} {V:Value} (h:Fact call ms rq lh c o T V) (m:Mem) (q:List (Req × Value × Nat × Nat)):Fact call (m::ms) (q++rq) lh (1+c) o T V:=by
 rcases h with ⟨h1,h2,h3,h4⟩|⟨h1,h2,h3⟩
 ·refine .inl ⟨h1,fun hc=>?_,fun hc=>?_,h4⟩
  ·obtain ⟨M,M',a,b,d⟩:=h2 hc
   exact ⟨M,M',by rw [Nat.add_comm]; exact a,by rw [show 1+c+1=(c+1)+1 by omega]; exact b,d⟩
  ·obtain ⟨q',a,b⟩:=h3 hc
   exact ⟨q',a,List.mem_append_right _ b⟩
 ·refine .inr ⟨h1,h2,fun hc=>?_⟩
  obtain ⟨M,a,b⟩:=h3 hc
  exact ⟨M,by rw [Nat.add_comm]; exact a,by rw [show 1+c+1=(c+1)+1 by omega]; exact b⟩
theorem Fact.more {call:qZ} {ms:List Mem} {rq:List (Req × Value × Nat × Nat)} {lh:Nat × Nat} {c:Nat} {o:AOper} {T:List Value} {V:Value} (h:Fact call ms rq lh c o T V) (q:List (Req × Value × Nat × Nat)):Fact call ms (q++rq) lh c o T V:=by
 rcases h with ⟨h1,h2,h3,h4⟩|h
 ·refine .inl ⟨h1,h2,fun hc=>?_,h4⟩
  obtain ⟨q',a,b⟩:=h3 hc
  exact ⟨q',a,List.mem_append_right _ b⟩
 ·exact .inr h
theorem facts (call:qZ):∀ (ops:List AOper) (lh:List (Nat × Nat)) (ts:List Value) (m:Mem) (ts':List Value) (m':Mem) (ms:List Mem) (rq:List (Req × Value × Nat × Nat)),
  xy call ops lh ts m=some (ts',m',ms,rq)→∃ (T:Nat→List Value) (V:Nat→Value),T 0=ts∧T ops.length=ts'∧ms[0]? = some m∧ms[zd ops ops.length]? = some m' ∧
   ∀ i o,ops[i]? = some o→T (i+1)=xK (T i) o.dst (V i)∧Fact call ms rq (lh[i]?.getD (0,0)) (zd ops i) o (T i) (V i):=by
 intro ops
 induction ops with
 | nil =>
  intro lh ts m ts' m' ms rq h
  simp only [xy,Option.some.injEq,Prod.mk.injEq] at h
  obtain ⟨rfl,rfl,rfl,rfl⟩:=h
  exact ⟨fun _=>ts,fun _=>undef,rfl,rfl,rfl,rfl,fun i o h=>by simp at h⟩
 | cons o r ih =>
  intro lh ts m ts' m' ms rq h
  have hlh:∀ i:Nat,lh.tail[i]?.getD (0,0)=lh[i+1]?.getD (0,0):=by intro i; rw [List.getElem?_tail]
  have hlh0:lh.headD (0,0)=lh[0]?.getD (0,0):=by cases lh<;>rfl
  have build:∀ (v:Value) (m1:Mem) (ms1:List Mem) (rq1 q:List (Req × Value × Nat × Nat)),xy call r lh.tail (xK ts o.dst v) m1=some (ts',m',ms1,rq1) →
    (if qG o then ms=m::ms1 else ms=ms1∧m1=m)→rq=q++rq1→(Fact call ms rq (lh[0]?.getD (0,0)) 0 o ts v) →
    ∃ (T:Nat→List Value) (V:Nat→Value),T 0=ts∧T (o::r).length=ts'∧ms[0]? = some m∧ms[zd (o::r) (o::r).length]? = some m' ∧
     ∀ i p,(o::r)[i]? = some p→T (i+1)=xK (T i) p.dst (V i)∧Fact call ms rq (lh[i]?.getD (0,0)) (zd (o::r) i) p (T i) (V i):=by
   intro v m1 ms1 rq1 q hrun hms hrq hfact
   obtain ⟨T,V,h1,h2,h3,h4,h5⟩:=ih lh.tail _ m1 ts' m' ms1 rq1 hrun
   refine ⟨fun i=>match i with|0=>ts|i+1=>T i,fun i=>match i with|0=>v|i+1=>V i,rfl,h2,?_,?_,?_⟩
   ·split at hms
    ·rw [hms]; rfl
    ·rw [hms.1,h3,hms.2]
   ·simp only [List.length_cons,zd]
    split at hms
    ·rename_i he
     rw [hms,if_pos he,Nat.add_comm]; exact h4
    ·rename_i he
     rw [hms.1,if_neg he,Nat.zero_add]; exact h4
   ·intro i p hp
    cases i with
    | zero =>
     simp only [List.getElem?_cons_zero,Option.some.injEq] at hp
     subst hp
     exact ⟨h1,hfact⟩
    | succ i =>
     obtain ⟨g1,g2⟩:=h5 i p (by simpa using hp)
     refine ⟨g1,?_⟩
     rw [hlh] at g2
     simp only [zd]
     split at hms
     ·rename_i he
      rw [hms,hrq,if_pos he]; exact g2.shift m q
     ·rename_i he
      rw [hms.1,hrq,if_neg he,Nat.zero_add]; exact g2.more q
  simp only [xy] at h
  split at h
  ·rename_i hw
   split at h
   ·rename_i hc
    simp only [Option.bind_eq_some_iff,Option.map_eq_some_iff] at h
    obtain ⟨⟨v,m1⟩,hs,⟨ts1,m2,ms1,rq1⟩,hr,he⟩:=h
    simp only [Prod.mk.injEq] at he
    obtain ⟨rfl,rfl,rfl,rfl⟩:=he
    have hm1:ms1[0]? = some m1:=by
     obtain ⟨_,_,_,_,h3,_⟩:=ih lh.tail _ m1 _ _ ms1 rq1 hr
     exact h3
    exact build v m1 ms1 rq1 [] hr (by simp [qG,hc]) rfl (.inl ⟨hw,fun _=>⟨m,m1,rfl,by simpa using hm1,hs⟩,(fun h=>absurd (hc.symm.trans h) (by decide)),(fun h=>absurd (hc.symm.trans h) (by decide))⟩)
   ·rename_i hc
    simp only [Option.bind_eq_some_iff,Option.map_eq_some_iff] at h
    obtain ⟨q,hq,v,hv,⟨ts1,m2,ms1,rq1⟩,hr,he⟩:=h
    simp only [Prod.mk.injEq] at he
    obtain ⟨rfl,rfl,rfl,rfl⟩:=he
    exact build v m ms1 rq1 [(q,v,lh.headD (0,0))] hr (by simp [qG,hc]) rfl (.inl ⟨hw,(fun h=>absurd (hc.symm.trans h) (by decide)),fun _=>⟨q,hq,by rw [← hlh0]; exact List.mem_cons_self ..⟩,(fun h=>absurd (hc.symm.trans h) (by decide))⟩)
   ·rename_i hc
    simp only [Option.bind_eq_some_iff] at h
    obtain ⟨⟨v,m1⟩,hs,hr⟩:=h
    obtain ⟨rfl,hall⟩:=run_pure hc hs
    exact build v m1 ms rq [] hr (by simp [qG,hc]) rfl (.inl ⟨hw,(fun h=>absurd (hc.symm.trans h) (by decide)),(fun h=>absurd (hc.symm.trans h) (by decide)),fun _=>hall⟩)
  ·rename_i hw
   have hw:qX ts o.guard=false:=by simpa using hw
   split at h
   ·rename_i hc
    simp only [Option.map_eq_some_iff] at h
    obtain ⟨⟨ts1,m2,ms1,rq1⟩,hr,he⟩:=h
    simp only [Prod.mk.injEq] at he
    obtain ⟨rfl,rfl,rfl,rfl⟩:=he
    have hm1:ms1[0]? = some m:=by
     obtain ⟨_,_,_,_,h3,_⟩:=ih lh.tail _ m _ _ ms1 rq1 hr
     exact h3
    exact build undef m ms1 rq1 [] hr (by simp [qG,hc]) rfl (.inr ⟨hw,rfl,fun _=>⟨m,rfl,by simpa using hm1⟩⟩)
   ·rename_i hc
    exact build undef m ms rq [] h (by simp [qG]; intro h; exact absurd h hc) rfl (.inr ⟨hw,rfl,fun h=>absurd h hc⟩)
inductive Anc (E:Nat→List Nat):Nat→Nat→Prop where
 | base {i e:Nat} (h:e∈E i):Anc E i e
 | step {i e j:Nat} (h:e∈E i) (h':Anc E e j):Anc E i j
theorem Anc.lt {E:Nat→List Nat} (hE:∀ i e,e∈E i→e<i) {i j:Nat} (h:Anc E i j):j<i:=by
 induction h with
 | base h=>exact hE _ _ h
 | step h _ ih=>exact Nat.lt_trans ih (hE _ _ h)
theorem Anc.qn {E:Nat→List Nat} {L:Nat→Prop} (hL:∀ x,L x→∀ e∈E x,L e) {i j:Nat} (h:Anc E i j) (hi:∀ e∈E i,L e):L j:=by
 induction h with
 | base h=>exact hi _ h
 | step h _ ih=>exact ih (hL _ (hi _ h))
def zP (acc:List Nat) (es:List Nat):List Nat:=acc++[es.foldl (fun s e=>s ||| 2 ^ e ||| acc[e]?.getD 0) 0]
def xc (l:List (List Nat)):List Nat:=l.foldl zP []
theorem Hh (acc:List Nat) (j:Nat):∀ (es:List Nat) (s:Nat),(es.foldl (fun s e=>s ||| 2 ^ e ||| acc[e]?.getD 0) s).testBit j=true→s.testBit j=true∨∃ e∈es,e=j∨(acc[e]?.getD 0).testBit j=true:=by
 intro es
 induction es with
 | nil=>intro s h; exact .inl h
 | cons e es ih =>
  intro s h
  rcases ih _ h with h|⟨e',he',h⟩
  ·simp only [Nat.testBit_or,Bool.or_eq_true,Nat.testBit_two_pow,decide_eq_true_eq] at h
   rcases h with (h|h)|h
   ·exact .inl h
   ·exact .inr ⟨e,List.mem_cons_self ..,.inl h⟩
   ·exact .inr ⟨e,List.mem_cons_self ..,.inr h⟩
  ·exact .inr ⟨e',List.mem_cons_of_mem _ he',h⟩
theorem JH (E:Nat→List Nat):∀ (l:List (List Nat)) (acc:List Nat) ,(∀ i es,l[i]? = some es→es=E (acc.length+i))→(∀ i k,acc[i]? = some k→∀ j,k.testBit j=true→Anc E i j) →
  ∀ i k,(l.foldl zP acc)[i]? = some k→∀ j,k.testBit j=true→Anc E i j:=by
 intro l
 induction l with
 | nil=>intro acc _ h; exact h
 | cons es l ih =>
  intro acc hl hacc
  simp only [List.foldl_cons]
  refine ih (zP acc es) (fun i es' h=>?_) (fun i k hk j hj=>?_)
  ·have:=hl (i+1) es' (by simpa using h)
   rw [this]; congr 1; simp [zP]; omega
  ·simp only [zP] at hk
   by_cases hi:i<acc.length
   ·rw [List.getElem?_append_left hi] at hk
    exact hacc i k hk j hj
   ·rw [List.getElem?_append_right (by omega)] at hk
    have hi':i - acc.length=0:=by
     rcases Nat.eq_zero_or_pos (i - acc.length) with h|h
     ·exact h
     ·rw [List.getElem?_eq_none (by simp; omega)] at hk; cases hk
    rw [hi'] at hk
    simp only [List.getElem?_cons_zero,Option.some.injEq] at hk
    subst hk
    have hEi:es=E i:=by
     have:=hl 0 es rfl
     rw [this]; congr 1; omega
    rcases Hh acc j es 0 hj with h|⟨e,he,h⟩
    ·simp at h
    ·rcases h with rfl|h
     ·exact .base (by rw [← hEi]; exact he)
     ·cases ha:acc[e]? with
      | none=>rw [ha] at h; simp at h
      | some k' =>
       rw [ha] at h
       exact .step (by rw [← hEi]; exact he) (hacc e k' ha j h)
def zD (o:Oper):List Nat:=o.after.toList.filterMap fun e=>if Region.binds .any e then some e.on else none
def AOper.looks (o:AOper):List Nat:=o.op.kD++(match o.guard with|some (t,_)=>[t]|none=>[])
def KS (effs:List Bool) (ms:List Nat) (i:Nat):Nat × Nat :=
  (((List.range effs.length).filter fun j=>(effs[j]?.getD false)&&(ms[i]?.getD 0).testBit j).length,
   ((List.range effs.length).filter fun j=>(effs[j]?.getD false)&&!(ms[j]?.getD 0).testBit i).length)
def KN (ms:List Nat) (o p:AOper) (i j:Nat):Bool :=
  (match p.dst with
   | some t=>(!(o.looks.contains t)||(ms[i]?.getD 0).testBit j||(ms[j]?.getD 0).testBit i)&&o.dst != some t
   | none=>true)&&(!(qG o&&qG p)||(ms[i]?.getD 0).testBit j||(ms[j]?.getD 0).testBit i)
def dOk (es:List (List Nat)) (ops:List AOper):Bool :=
 let ms:=xc es
 (List.range ops.length).all fun i =>
  ((es[i]?.getD []).all fun e=>e<i) &&
  (List.range ops.length).all fun j=>i == j||(match ops[i]?,ops[j]? with
   | some o,some p=>KN ms o p i j
   | _,_=>false)
def wa (es:List (List Nat)) (ops:List AOper):List (Nat × Nat):=(List.range ops.length).map (KS (ops.map qG) (xc es))
theorem effN_eq:∀ (ops:List AOper) (i:Nat),zd ops i=((List.range ops.length).filter fun j=>((ops.map qG)[j]?.getD false)&&decide (j<i)).length:=by
 intro ops
 induction ops with
 | nil=>intro i; simp [zd]
 | cons o r ih =>
  intro i
  cases i with
  | zero =>
   have:∀ l:List Nat,(l.filter fun _=>false).length=0:=by intro l; induction l<;>simp_all
   simp [zd,this]
  | succ i =>
   simp only [zd,ih i,List.length_cons,List.range_succ_eq_map,List.filter_cons,List.map_cons,List.getElem?_cons_zero,Option.getD_some,Nat.zero_lt_succ,decide_true,Bool.and_true,List.filter_map,List.length_map]
   have:((fun j=>((qG o::r.map qG)[j]?.getD false)&&decide (j<i+1)) ∘ Nat.succ)=fun j=>((r.map qG)[j]?.getD false)&&decide (j<i):=by
    funext j; simp
   rw [this]
   by_cases h:qG o=true
   ·simp [h]; omega
   ·simp [h]
theorem filter_le {p q:Nat→Bool} (l:List Nat) (h:∀ x∈l,p x=true→q x=true):(l.filter p).length≤(l.filter q).length:=by
 induction l with
 | nil=>simp
 | cons x l ih =>
  have:=ih (fun y hy=>h y (List.mem_cons_of_mem _ hy))
  simp only [List.filter_cons]
  by_cases hp:p x=true
  ·rw [if_pos hp,if_pos (h x (List.mem_cons_self ..) hp)]; simp; exact this
  ·rw [if_neg hp]
   by_cases hq:q x=true
   ·rw [if_pos hq]; simp; omega
   ·rw [if_neg hq]; exact this
theorem filter_eq {p q:Nat→Bool} (l:List Nat) (h:∀ x∈l,p x=q x):(l.filter p).length=(l.filter q).length :=
 Nat.le_antisymm (filter_le l fun x hx hp=>by rw [← h x hx]; exact hp) (filter_le l fun x hx hq=>by rw [h x hx]; exact hq)
end Go.Fx
namespace Go.Fx
open Go
theorem jQ {md:Region.Mode} {ops:Array Oper} {qn:Array Bool} {i:Nat} (h:i∈Region.ready md ops qn) :
  i<ops.size∧qn.getD i true=false∧∃ o,ops[i]? = some o∧∀ e∈o.after,Region.binds md e=true→qn.getD e.on false=true:=by
 unfold Region.ready at h
 simp only [List.mem_filter,List.mem_range,Bool.and_eq_true,Bool.not_eq_true'] at h
 obtain ⟨h1,h2,h3⟩:=h
 refine ⟨h1,h2,ops[i],Array.getElem?_eq_getElem h1,fun e he hb=>?_⟩
 rw [Array.getElem?_eq_getElem h1] at h3
 simp only [Option.map_some,Option.getD_some,Array.all_eq_true',Bool.or_eq_true,Bool.not_eq_true'] at h3
 rcases h3 e he with h|h
 ·rw [hb] at h; cases h
 ·exact h
theorem Wt {md:Region.Mode} {ops:Array Oper} {qn:Array Bool} {i:Nat} {o:Oper} (h1:ops[i]? = some o) (h2:qn.getD i true=false) (h3:∀ e∈o.after,Region.binds md e=true→qn.getD e.on false=true):i∈Region.ready md ops qn:=by
 have hi:i<ops.size:=by
  rcases Nat.lt_or_ge i ops.size with h|h
  ·exact h
  ·rw [Array.getElem?_eq_none h] at h1; cases h1
 unfold Region.ready
 simp only [List.mem_filter,List.mem_range,Bool.and_eq_true,Bool.not_eq_true']
 refine ⟨hi,h2,?_⟩
 rw [h1]
 simp only [Option.map_some,Option.getD_some,Array.all_eq_true',Bool.or_eq_true,Bool.not_eq_true']
 intro e he
 cases hb:Region.binds md e with
 | false=>exact .inl rfl
 | true=>exact .inr (h3 e he hb)
theorem wF {P:Program} {ops:Array Oper}:∀ {l:List Oper} {al:List AOper},jG P ops l=some al→al.length=l.length∧∀ (i:Nat) o,l[i]? = some o→∃ p,al[i]? = some p∧p.dst=o.dst∧yr P o=p.op ∧
  (match o.guard with|none=>p.guard=none|some (j,want)=>∃ t,(ops[j]?).bind (·.dst)=some t∧p.guard=some (t,want))
 | [],al,h=>by simp only [jG,Option.some.injEq] at h; subst h; exact ⟨rfl,fun i o h=>by simp at h⟩
 | o::l,al,h=>by
  simp only [jG,Option.bind_eq_some_iff] at h
  obtain ⟨al',hal,h⟩:=h
  obtain ⟨h1,h2⟩:=wF hal
  have hal2:∃ g,al=⟨o.dst,yr P o,g⟩::al'∧(match o.guard with|none=>g=none|some (j,want)=>∃ t,(ops[j]?).bind (·.dst)=some t∧g=some (t,want)):=by
   split at h
   ·rename_i h0; cases h; exact ⟨none,rfl,by first|rfl|rw [h0]⟩
   ·rename_i j want h0
    simp only [Option.map_eq_some_iff] at h
    obtain ⟨t,ht,rfl⟩:=h
    exact ⟨some (t,want),rfl,by first|exact ⟨t,ht,rfl⟩|(rw [h0]; exact ⟨t,ht,rfl⟩)⟩
  obtain ⟨g,rfl,hgu⟩:=hal2
  refine ⟨by simp [h1],fun i p hp=>?_⟩
  cases i with
  | zero =>
   simp only [List.getElem?_cons_zero,Option.some.injEq] at hp
   subst hp
   exact ⟨_,rfl,rfl,rfl,hgu⟩
  | succ i=>simpa using h2 i p (by simpa using hp)
theorem xT (ts:List Value) (d:Option Nat) (v:Value):(xK ts d v).length=ts.length:=by cases d<;>simp [xK]
theorem jj (ts:List Value) (d:Option Nat) (v:Value) (t:Nat):(xK ts d v)[t]? = if d=some t∧t<ts.length then some v else ts[t]?:=by
 cases d with
 | none=>simp [xK]
 | some d =>
  simp only [xK,List.getElem?_set,Option.some.injEq]
  by_cases h:d=t
  ·subst h
   by_cases h2:d<ts.length
   ·simp [h2]
   ·simp [h2]
  ·simp [h]
def cnt (al:List AOper) (L:Nat→Bool):Nat:=((List.range al.length).filter fun j=>((al.map qG)[j]?.getD false)&&L j).length
structure Rg (P:Program) (call:qZ) (ops:Array Oper) (al:List AOper) (E:Nat→List Nat) (lo hi:Nat→Nat) (ms:List Mem) (ts0:List Value) (T:Nat→List Value) (V:Nat→Value):Prop where
 len:al.length=ops.size
 op:∀ (i:Nat) o,ops[i]? = some o→∃ p,al[i]? = some p∧p.dst=o.dst∧yr P o=p.op ∧
  (match o.guard with|none=>p.guard=none|some (j,want)=>∃ t,(ops[j]?).bind (·.dst)=some t∧p.guard=some (t,want))
 edges:∀ (i:Nat) o,ops[i]? = some o→E i=zD o
 lt:∀ i e,e∈E i→e<i
 slot:∀ (i j:Nat) (o p:AOper) t,i≠j→al[i]? = some o→al[j]? = some p→p.dst=some t→(t∈o.looks→Anc E i j∨Anc E j i)∧o.dst≠some t
 chain:∀ (i j:Nat) (o p:AOper),i≠j→al[i]? = some o→al[j]? = some p→qG o=true→qG p=true→Anc E i j∨Anc E j i
 lo_le:∀ i L,(∀ j,Anc E i j→L j=true)→lo i≤cnt al L
 le_hi:∀ i L,(∀ j,L j=true→¬ Anc E j i)→cnt al L≤hi i
 zero:T 0=ts0
 next:∀ (i:Nat) o,al[i]? = some o→T (i+1)=xK (T i) o.dst (V i)
 eff:∀ (i:Nat) o,al[i]? = some o→qX (T i) o.guard=true→o.op.cls=.eff→∃ M M',ms[zd al i]? = some M∧ms[zd al i+1]? = some M'∧zo call (T i) M o.op=some (V i,M')
 read:∀ (i:Nat) o,al[i]? = some o→qX (T i) o.guard=true→o.op.cls=.read→∃ q,o.op.req (T i)=some q∧∀ k,lo i≤k→k≤hi i→∃ M,ms[k]? = some M∧q.run M=some (V i)
 pure:∀ (i:Nat) o,al[i]? = some o→qX (T i) o.guard=true→o.op.cls=.pure→∀ M,o.op.run (T i) M=some (V i,M)
 idle:∀ (i:Nat) o,al[i]? = some o→qX (T i) o.guard=false→V i=undef∧(o.op.cls=.eff→∃ M,ms[zd al i]? = some M∧ms[zd al i+1]? = some M)
section
variable {P:Program} {call:qZ} {ops:Array Oper} {al:List AOper} {E:Nat→List Nat} {lo hi:Nat→Nat} {ms:List Mem} {ts0:List Value} {T:Nat→List Value} {V:Nat→Value}
def xe (al:List AOper) (i:Nat):Option Nat:=(al[i]?).bind (·.dst)
def Fr (al:List AOper) (V:Nat→Value) (ts0:List Value) (L:Nat→Bool) (ts:List Value):Prop :=
 ts.length=ts0.length∧(∀ i d,L i=true→xe al i=some d→d<ts0.length→ts[d]? = some (V i))∧(∀ d,(∀ i,L i=true→xe al i≠some d)→ts[d]? = ts0[d]?)
theorem Rg.jT (R:Rg P call ops al E lo hi ms ts0 T V) {i j d:Nat} (hi:xe al i=some d) (hj:xe al j=some d):i=j:=by
 rcases Nat.decEq i j with h|h
 ·simp only [xe,Option.bind_eq_some_iff] at hi hj
  obtain ⟨o,ho,hod⟩:=hi
  obtain ⟨p,hp,hpd⟩:=hj
  exact absurd hod (R.slot i j o p d h ho hp hpd).2
 ·exact h
theorem Rg.fr (R:Rg P call ops al E lo hi ms ts0 T V):∀ i,i≤al.length→Fr al V ts0 (fun j=>decide (j<i)) (T i):=by
 intro i
 induction i with
 | zero =>
  intro _
  rw [R.zero]
  exact ⟨rfl,fun i d h=>by simp at h,fun _ _=>rfl⟩
 | succ i ih =>
  intro hi'
  obtain ⟨h1,h2,h3⟩:=ih (by omega)
  have ho:al[i]? = some (al[i]'(by omega)):=List.getElem?_eq_getElem (by omega)
  generalize al[i]'(by omega)=o at ho
  rw [R.next i o ho]
  refine ⟨by rw [xT,h1],fun j d hj hd hlt=>?_,fun d hd=>?_⟩
  ·rw [jj,h1]
   simp only [decide_eq_true_eq] at hj
   by_cases hji:j=i
   ·subst hji
    have:o.dst=some d:=by simpa [xe,ho] using hd
    rw [if_pos ⟨this,hlt⟩]
   ·rw [if_neg (fun hh=>hji (R.jT hd (by simpa [xe,ho] using hh.1)))]
    exact h2 j d (by simp; omega) hd hlt
  ·rw [jj]
   have:o.dst≠some d:=by
    have:=hd i (by simp)
    simpa [xe,ho] using this
   rw [if_neg (fun hh=>this hh.1)]
   exact h3 d (fun j hj=>hd j (by simp at hj ⊢; omega))
theorem Fr.put (R:Rg P call ops al E lo hi ms ts0 T V) {L:Nat→Bool} {ts:List Value} (h:Fr al V ts0 L ts) {i:Nat} {o:AOper} (ho:al[i]? = some o) {L':Nat→Bool} (hL:∀ j,L' j=true↔j=i∨L j=true):Fr al V ts0 L' (xK ts o.dst (V i)):=by
 obtain ⟨h1,h2,h3⟩:=h
 refine ⟨by rw [xT,h1],fun j d hj hd hlt=>?_,fun d hd=>?_⟩
 ·rw [jj,h1]
  by_cases hji:j=i
  ·subst hji
   have:o.dst=some d:=by simpa [xe,ho] using hd
   rw [if_pos ⟨this,hlt⟩]
  ·rw [if_neg (fun hh=>hji (R.jT hd (by simpa [xe,ho] using hh.1)))]
   exact h2 j d (((hL j).1 hj).resolve_left hji) hd hlt
 ·rw [jj]
  have:o.dst≠some d:=by
   have:=hd i ((hL i).2 (.inl rfl))
   simpa [xe,ho] using this
  rw [if_neg (fun hh=>this hh.1)]
  exact h3 d (fun j hj=>hd j ((hL j).2 (.inr hj)))
theorem Rg.agree (R:Rg P call ops al E lo hi ms ts0 T V) {L:Nat→Bool} {ts:List Value} (h:Fr al V ts0 L ts) (hL:∀ x,L x=true→∀ e∈E x,L e=true) {i:Nat} {o:AOper} (ho:al[i]? = some o) (hi':L i=false) (hr:∀ e∈E i,L e=true):jA o.looks ts (T i):=by
 intro t ht
 have hlen:i<al.length:=by
  rcases Nat.lt_or_ge i al.length with h|h
  ·exact h
  ·rw [List.getElem?_eq_none h] at ho; cases ho
 obtain ⟨g1,g2,g3⟩:=R.fr i (by omega)
 obtain ⟨f1,f2,f3⟩:=h
 by_cases hlt:t<ts0.length
 ·by_cases hex:∃ j,xe al j=some t
  ·obtain ⟨j,hj⟩:=hex
   by_cases hji:j=i
   ·subst hji
    rw [f3 t (fun k hk hkd=>by rw [R.jT hkd hj] at hk; rw [hk] at hi'; cases hi'),g3 t (fun k hk hkd=>by rw [R.jT hkd hj] at hk; simp at hk)]
   ·have hj':=hj
    simp only [xe,Option.bind_eq_some_iff] at hj
    obtain ⟨p,hp,hpd⟩:=hj
    rcases (R.slot i j o p t (Ne.symm hji) ho hp hpd).1 ht with ha|ha
    ·have hLj:L j=true:=ha.qn (L:=fun x=>L x=true) hL hr
     have hlt':=ha.lt R.lt
     rw [f2 j t hLj hj' hlt,g2 j t (by simpa using hlt') hj' hlt]
    ·have hLj:L j=false:=by
      cases hh:L j with
      | false=>rfl
      | true =>
       have:=ha.qn (L:=fun x=>L x=true) hL (hL j hh)
       rw [hi'] at this; cases this
     have hlt':=ha.lt R.lt
     rw [f3 t (fun k hk hkd=>by rw [R.jT hkd hj'] at hk; rw [hk] at hLj; cases hLj),g3 t (fun k hk hkd=>by rw [R.jT hkd hj'] at hk; simp at hk; omega)]
  ·have hn:∀ k,xe al k≠some t:=fun k hk=>hex ⟨k,hk⟩
   rw [f3 t (fun k _=>hn k),g3 t (fun k _=>hn k)]
 ·rw [List.getElem?_eq_none (by omega),List.getElem?_eq_none (by omega)]
theorem qfo (al:List AOper) {L L':Nat→Bool} {i:Nat} {o:AOper} (ho:al[i]? = some o) (hi:L i=false) (hL:∀ j,L' j=true↔j=i∨L j=true):cnt al L'=cnt al L+(if qG o then 1 else 0):=by
 have hlen:i<al.length:=by
  rcases Nat.lt_or_ge i al.length with h|h
  ·exact h
  ·rw [List.getElem?_eq_none h] at ho; cases ho
 unfold cnt
 have hL':∀ j,L' j=(decide (j=i)||L j):=by
  intro j
  rw [Bool.eq_iff_iff]; simp [hL j]
 have key:∀ (l:List Nat),l.Nodup→(l.filter fun j=>((al.map qG)[j]?.getD false)&&L' j).length=(l.filter fun j=>((al.map qG)[j]?.getD false)&&L j).length+(if i∈l∧qG o=true then 1 else 0):=by
  intro l
  induction l with
  | nil=>intro _; simp
  | cons x l ih =>
   intro hnd
   rw [List.nodup_cons] at hnd
   have:=ih hnd.2
   simp only [List.filter_cons,hL',List.mem_cons]
   simp only [hL'] at this
   by_cases hx:x=i
   ·subst hx
    have hx':(al.map qG)[x]?.getD false=qG o:=by simp [ho]
    simp only [hx',hi,decide_true,Bool.true_or,Bool.and_true,Bool.and_false,Bool.false_eq_true,if_false,true_or,true_and]
    have hnot:¬ (x∈l∧qG o=true):=fun h=>hnd.1 h.1
    rw [if_neg hnot] at this
    by_cases he:qG o=true
    ·rw [if_pos he,if_pos he,List.length_cons,this]
    ·rw [if_neg he,if_neg he,this]
   ·simp only [hx,decide_false,Bool.false_or,Ne.symm hx,false_or]
    have hx2:(i=x)=False:=by simp; exact fun h=>hx h.symm
    by_cases he:((al.map qG)[x]?.getD false&&L x)=true
    ·rw [if_pos he,if_pos he,List.length_cons,List.length_cons,this]; omega
    ·rw [if_neg he,if_neg he,this]
 rw [key _ List.nodup_range]
 simp [hlen]
theorem Rg.qaA (R:Rg P call ops al E lo hi ms ts0 T V) {L:Nat→Bool} (hL:∀ x,L x=true→∀ e∈E x,L e=true) (hsub:∀ x,L x=true→x<al.length) {i:Nat} {o:AOper} (ho:al[i]? = some o) (he:qG o=true) (hi':L i=false) (hr:∀ e∈E i,L e=true):cnt al L=zd al i:=by
 rw [effN_eq]
 unfold cnt
 refine filter_eq _ fun j hj=>?_
 cases hje:(al.map qG)[j]?.getD false with
 | false=>rfl
 | true =>
  have hjl:j<al.length:=by simpa using hj
  have hp:al[j]? = some al[j]:=List.getElem?_eq_getElem hjl
  have hpe:qG al[j]=true:=by simpa [hp] using hje
  by_cases hji:j=i
  ·subst hji; simp [hi']
  ·rcases R.chain i j o al[j] (Ne.symm hji) ho hp he hpe with ha|ha
   ·have hLj:L j=true:=ha.qn (L:=fun x=>L x=true) hL hr
    have hlt:=ha.lt R.lt
    simp [hLj,hlt]
   ·have hLj:L j=false:=by
     cases hh:L j with
     | false=>rfl
     | true =>
      have:=ha.qn (L:=fun x=>L x=true) hL (hL j hh)
      rw [hi'] at this; cases this
    have hlt:=ha.lt R.lt
    simp [hLj]; omega
end
end Go.Fx
