/- Parts of a proof: TreeGe, TreeSc, TreeRp, DuC, DuD. Conditions: none. -/
import Derived.Laws.RangeAny
import Derived.Test.YtbhdhhgpfanmcaaGreatDoorQo20
set_option linter.unusedSimpArgs false
set_option linter.unusedVariables false
namespace Go.Fx.Tryz
open Go Go.Fx
def VK (l:List Pr) (key:Bs):Bs:=if zJ l key then (l.getD (zx l key) ([],[])).2 else []
theorem qeu {a b c:List Pr} {key:Bs} (ha:∀ x∈a,ltB x.1 key=true) (hc:∀ x∈c,ltB x.1 key=false∧x.1≠key):VK (a++(b++c)) key=VK b key:=by
 unfold VK
 rw [Qz ha hc,yn ha (fun x hx=>(hc x hx).1)]
 cases ht:zJ b key with
 | false=>rfl
 | true =>
  have:=jt ht
  simp only [if_true]
  rw [List.getD_eq_getElem?_getD,List.getElem?_append_right (by omega),Nat.add_sub_cancel_left,List.getElem?_append_left this,← List.getD_eq_getElem?_getD]
set_option maxRecDepth 4000 in
theorem qdx {key:Bs}:∀ (h:Nat) (x:Wx) (m:Mem) (page left:Nat) (lo:Bs) (hi:Option Bs) (l:List Pr) (U:List Nat),XR x m→x.err=0→x.rd+h<1000→h<left→left≤40→Tr x.o.s h page lo hi l U→inR lo hi key →
  W (qaH (.int .i64 (page:Int)) (str key) x.v (.int .i64 (left:Int)) m) fun r m'=>r=.tuple #[str (VK l key),.bool (zJ l key),.int .i64 0]∧Upd [x.xb] m m':=by
 intro h
 induction h with
 | zero =>
  intro x m page left lo hi l U hx he hrd hle hl40 ht hin
  obtain ⟨n,U',hp,hn,hnt,rfl⟩:=js.1 ht
  have hnt0:n=Nd.lf l∧(∀ x∈l,inR lo hi x.1)∧U'=[]:=hnt
  obtain ⟨rfl,hl,rfl⟩:=hnt0
  obtain ⟨hh,hlk⟩:=hp.here
  have hlt:=kT hh
  have hP:=hx.wr.hP
  have e0:((page:Int)=0)=False:=eq_false (by omega)
  rw [P87_0_eq]
  simp -implicitDefEqProofs only [st0,qb,reduceIte,e0]
  refine qo.2 ((Js hx he (by omega) (by omega) (by omega) hh hlk hp.rt hp.sz).mono fun v1 m1 ⟨t1,h1,u1⟩=>?_)
  have x1:=u1.next
  have hT:=t1
  obtain ⟨sp,sk,si,rfl,q1,q2,q3⟩:=t1.ex
  simp -implicitDefEqProofs only [st0,qb,reduceIte]
  refine jJ (c:=[.bool (Nd.lf l).leaf,sp,sk,si]) rfl rfl (by simp [q1.one.2,q2.one.2,q3.one.2,show (Value.bool (Nd.lf l).leaf).oneCell'=true from rfl]) fun m2 b2 u2 n2=>?_
  have h2:=h1.qx u2
  have T2:=hT.qx u2
  have e5:=xok h2
  rw [decide_eq_true (show ({ x with rd:=x.rd+1 }:Wx).err=0 from he)] at e5
  have hlf:(Nd.lf l).leaf=true:=rfl
  rw [hlf] at b2
  simp -implicitDefEqProofs only [st0,qb,reduceIte,e5,fa,zl b2 (o:=0+0) rfl,qO b2]
  refine qo.2 ((Va key T2 (Wb hp.rt hp.sz)).mono fun v3 m3 ⟨r3,u3⟩=>?_)
  subst r3
  have b3:=qA u3 (by omega) b2
  have q13:RSl m.next qN m3 sp l:=(q1.qx u2).qx u3
  have u03:Upd [x.xb] m m3:=(u1.qz u2).qz u3
  show W _ _
  cases hth:zJ l key with
  | true =>
   have hth':zJ (Nd.lf l).pairs key=true:=hth
   have halt:=jt hth
   obtain ⟨b,off,i1,i2⟩:=q13.1.at .i64 (jE halt)
   rw [zc] at i1 i2
   have i3:=(i2 m3 q13.1).2 1 (str l[zx l key].2) rfl
   have i1:qq 2 sp (.int .i64 ((zx (Nd.lf l).pairs key:Nat):Int))=some (.pointer (some ⟨b,off,none⟩)):=i1
   simp -implicitDefEqProofs only [st0,qb,reduceIte,xt0,xt1,hth',fa,zl b3 (o:=0+1) rfl,i1,i3]
   refine ⟨?_,u03⟩
   unfold VK
   rw [hth,if_pos rfl,List.getD_eq_getElem?_getD,List.getElem?_eq_getElem halt]; rfl
  | false =>
   have hth':zJ (Nd.lf l).pairs key=false:=hth
   simp -implicitDefEqProofs only [st0,qb,reduceIte,xt0,xt1,hth']
   refine ⟨?_,u03⟩
   unfold VK
   rw [hth]; rfl
 | succ h ih =>
  intro x m page left lo hi l U hx he hrd hle hl40 ht hin
  obtain ⟨n,U',hp,hn,hnt,rfl⟩:=js.1 ht
  obtain ⟨ks,ps,rfl,hks,hfo⟩:=hnt
  obtain ⟨hh,hlk⟩:=hp.here
  have hlt:=kT hh
  have hP:=hx.wr.hP
  obtain ⟨_,i1,r1,v1,p1⟩:=zH hp.rt rfl
  have i1:ps.length=ks.length+1:=i1
  have r1:qC ks=true:=r1
  have hcl:=(vU key ks r1).2.2
  obtain ⟨p,lo',hi',l0,l1,l2,S0,S1,S2,e1,e2,e3,e4,e5,e6,e7,e8,e9⟩:=qel (Ja x.o.s h) hfo r1 hks hin
  subst e5 e6
  have ecl:∀ y∈l2,ltB y.1 key=false∧y.1≠key:=fun y hy=>⟨xm (e9 y hy),(XI (e9 y hy)).symm⟩
  rw [Qz e8 ecl,qeu e8 ecl]
  have e0:((page:Int)=0)=False:=eq_false (by omega)
  rw [P87_0_eq]
  simp -implicitDefEqProofs only [st0,qb,reduceIte,e0]
  refine qo.2 ((Js hx he (by omega) (by omega) (by omega) hh hlk hp.rt hp.sz).mono fun v1 m1 ⟨t1,h1,u1⟩=>?_)
  have x1:=u1.next
  have hT:=t1
  obtain ⟨sp,sk,si,rfl,q1,q2,q3⟩:=t1.ex
  have q3:RSl m.next xd m1 si ps:=q3
  simp -implicitDefEqProofs only [st0,qb,reduceIte]
  refine jJ (c:=[.bool (Nd.nd ks ps).leaf,sp,sk,si]) rfl rfl (by simp [q1.one.2,q2.one.2,q3.one.2,show (Value.bool (Nd.nd ks ps).leaf).oneCell'=true from rfl]) fun m2 b2 u2 n2=>?_
  have h2:=h1.qx u2
  have T2:=hT.qx u2
  have z5:=xok h2
  rw [decide_eq_true (show ({ x with rd:=x.rd+1 }:Wx).err=0 from he)] at z5
  have hlf:(Nd.nd ks ps).leaf=false:=rfl
  rw [hlf] at b2
  simp -implicitDefEqProofs only [st0,qb,reduceIte,z5,fa,zl b2 (o:=0+0) rfl,zl b2 (o:=0+3) rfl,qO b2]
  refine qo.2 ((Yd key T2 (Wb hp.rt hp.sz)).mono fun v3 m3 ⟨r3,u3⟩=>?_)
  subst r3
  have h3:=h2.qx u3
  have b3:=qA u3 (by omega) b2
  have q33:=(q3.qx u2).qx u3
  have hget:ps[zS ks key]? = some p:=by
   have:=congrArg (fun t:List Nat=>t[zS ks key]?) e1
   rw [this,List.getElem?_append_right (by rw [List.length_take]; omega),List.length_take,Nat.min_eq_left (by omega),Nat.sub_self]; rfl
  obtain ⟨pk,y1,y2⟩:=qio q33 hget
  have y2:=y2 m3 q33
  have esub:arith .sub (.int .i64 (left:Int)) (.int .i64 1)=some (.int .i64 ((left - 1:Nat):Int)):=by rw [jf (by omega) (by omega)]; congr 2; omega
  have y1':qq 1 si (.int .i64 ((zS (Nd.nd ks ps).keys key:Nat):Int))=some pk:=y1
  simp -implicitDefEqProofs only [st0,qb,reduceIte,y1',y2,esub]
  have u03:Upd [x.xb] m m3:=(u1.qz u2).qz u3
  refine kJ (fun r hr=>?_) ((ih { x with rd:=x.rd+1 } m3 p (left - 1) lo' hi' l1 S1 h3 he (by show x.rd+1+h<1000; omega) (by omega) (by omega) e3 e7).mono fun r m' ⟨a,b⟩=>⟨a,u03.trans b⟩)
  simp only [List.mem_cons,List.not_mem_nil,or_false] at hr
  rcases hr with rfl|rfl|rfl
  ·exact okR fun k _ hk=>by
    have:k=0∨k=1:=by omega
    rcases this with rfl|rfl
    ·exact ⟨_,rfl,zl b2 rfl⟩
    ·exact ⟨_,rfl,zl b3 rfl⟩
  ·exact okR fun k _ hk=>by
    obtain rfl:k=0:=by omega
    exact ⟨_,rfl,qO b2⟩
  ·exact okR fun k hk1 hk=>by
    obtain rfl:k=1:=by omega
    exact ⟨_,rfl,y2⟩
theorem qhp {o:Wo} {m:Mem} (h:WR o m) {root:Nat} {l:List Pr} {U:List Nat} (ht:TrR o.s root l U) (hnd:U.Nodup) (key:Bs) :
  W (Call S tab 87 [.pointer (some ⟨o.w,0,none⟩),.int .i64 (root:Int),str key] m) fun r m'=>r=.tuple #[str (VK l key),.bool (zJ l key),.int .i64 0]∧Upd [] m m':=by
 rw [C87]
 simp -implicitDefEqProofs only [st0,qb,reduceIte,qdD,qR]
 have hxr:=XR.begin h
 have u1:Upd [] m (m.add (x0 o m.next).blk):=Upd.add _ _ _
 have eblk:(⟨.cells [.pointer (some ⟨o.w,0,none⟩),.int .i64 0,.int .i64 0] 142,false,none⟩:ABlk)=(x0 o m.next).blk:=rfl
 rw [eblk]
 generalize (m.add (x0 o m.next).blk)=m1 at u1 hxr
 rcases ht with ⟨rfl,rfl,rfl⟩|⟨g,ht⟩
 ·have e0:(((0:Nat):Int)=0)=True:=eq_true rfl
  rw [P87_0_eq]
  simp -implicitDefEqProofs only [st0,qb,reduceIte,e0]
  exact ⟨rfl,u1⟩
 ·have hlow:=(Vm h.hP ht hnd).1
  refine (qdx g (x0 o m.next) m1 root 40 [] none l U hxr rfl (by show 0+g<1000; omega) (by omega) (by omega) ht (He key)).mono fun r m' ⟨a,b⟩=>⟨a,u1.then' b (fun c hc=>.inr (by simp at hc; omega))⟩
end Go.Fx.Tryz
namespace Go.Fx.Tryz
open Go Go.Fx
def inF (a b:Bs) (p:Pr):Bool:=!ltB p.1 a&&(decide (b=[])||ltB p.1 b)
def zU (l:List Pr) (a b:Bs):List Pr:=l.filter (inF a b)
theorem JC (l k:List Pr) (a b:Bs):zU (l++k) a b=zU l a b++zU k a b:=List.filter_append ..
theorem qdE (p:Pr):qy [.string ⟨#[]⟩,.string ⟨#[]⟩] [(0,2,.agg #[str p.1,str p.2])]=some (qN.flat [p]):=by
 obtain ⟨a,b⟩:=p
 kernel_rfl
theorem qfx {R:TP} {p:Nat} {ps:List Nat} {ks:List Bs} {lo:Bs} {hi:Option Bs} {l:List Pr} {U:List Nat} (h:Fo R lo hi ks (p::ps) l U) :
  ∃ l1 U1 l2 U2,l=l1++l2∧U=U1++U2∧((ks=[]∧ps=[]∧R p lo hi l1 U1∧l2=[]∧U2=[])∨∃ k ks',ks=k::ks'∧R p lo (some k) l1 U1∧Fo R k hi ks' ps l2 U2):=by
 match ks,ps,h with
 | [],[],h=>exact ⟨l,U,[],[],by simp,by simp,.inl ⟨rfl,rfl,h,rfl,rfl⟩⟩
 | k::ks,ps,⟨l1,U1,l2,U2,h1,h2,h3,h4⟩=>exact ⟨l1,U1,l2,U2,h3,h4,.inr ⟨k,ks,rfl,h1,h2⟩⟩
theorem XE {lo0:Nat} {l:List Pr} {sp x0 x2 x12:Value} {a b:Bs} (hl:l.length≤1000) {Q:Value→Mem→Prop} {m0:Mem} (hsp:∀ c∈qf sp,c<m0.next)
  (hQ:∀ m v,TAp qN 81 m v (zU l a b)→(∀ c∈qf v,m0.next≤c)→Upd [] m0 m→W (qee x0 x2 (str a) (str b) v x12 m) Q):∀ (d i:Nat) (m:Mem) (v:Value),l.length - i=d→i≤l.length→RSl lo0 qN m sp l→TAp qN 81 m v (zU (l.take i) a b)→(∀ c∈qf v,m0.next≤c)→Upd [] m0 m →
  W (Jb x0 x2 (str a) (str b) v x12 sp (.int .i64 (l.length:Int)) (.int .i64 (i:Int)) m) Q:=by
 intro d
 induction d with
 | zero =>
  intro i m v hd hi h hv hvb hu
  obtain rfl:i=l.length:=by omega
  rw [P78_0_eq]
  rw [List.take_length] at hv
  simp -implicitDefEqProofs only [st0,qb,reduceIte,Int.lt_irrefl]
  exact hQ m v hv hvb hu
 | succ d ih =>
  intro i m v hd hi h hv hvb hu
  have hlt:i<l.length:=by omega
  have e1:((i:Int)<(l.length:Int))=True:=eq_true (by omega)
  obtain ⟨bb,off,h1,h2⟩:=h.1.at .i64 (jE hlt)
  rw [zc] at h1 h2
  have h2:=h2 m h.1
  have hs:zU (l.take (i+1)) a b=zU (l.take i) a b++(if inF a b l[i] then [l[i]] else []):=by
   rw [List.take_succ_eq_append_getElem hlt,JC]
   cases hf:inF a b l[i]<;>simp [zU,hf]
  have hlen:(zU (l.take i) a b).length≤1000:=Nat.le_trans (List.length_filter_le ..) (by rw [List.length_take]; omega)
  rw [P78_0_eq]
  simp -implicitDefEqProofs only [st0,qb,reduceIte,e1,h1,h2.1]
  refine jJ (c:=qN.cells l[i]) rfl rfl rfl fun m1 g1 u1 n1=>?_
  have ld:=qs (o:=0+0) (v:=str l[i].1) g1 rfl
  have ldN:qm 2 (.pointer (some ⟨m.next,0,none⟩)) m1=some (.agg #[str l[i].1,str l[i].2]):=zu g1 rfl
  have hv1:=hv.qx u1
  have eq0:arith .eql (str b) (.string ⟨#[]⟩)=some (.bool (decide (b=[]))):=kI b []
  have skip:inF a b l[i]=false→W (Jb x0 x2 (str a) (str b) v x12 sp (.int .i64 (l.length:Int)) (.int .i64 ((i+1:Nat):Int)) m1) Q:=fun hf=>by
   refine ih (i+1) m1 v (by omega) hlt (h.qx u1) ?_ hvb (hu.qz u1)
   rw [hs,hf,if_neg (by simp),List.append_nil]; exact hv1
  cases c1:ltB l[i].1 a with
  | true =>
   have hf:inF a b l[i]=false:=by simp [inF,c1]
   simp -implicitDefEqProofs only [st0,qb,reduceIte,fa,ld,yd,c1,qH (i:=i) (by omega)]
   exact skip hf
  | false =>
   have take:inF a b l[i]=true→∀ m1':Mem,m1'=m1→W ((qL 2 (.slice (some ⟨m1'.next,0,none⟩) 1 1) (m1'.add ⟨.cells (qN.flat [l[i]]) 81,false,none⟩)).bind fun p28=>(qB 81 2 32 v p28.1 p28.2 (m1'.add ⟨.cells (qN.flat [l[i]]) 81,false,none⟩)).bind fun p29=>(arith .add (.int .i64 (i:Int)) (.int .i64 1)).bind fun v30=>Jb x0 x2 (str a) (str b) p29.1 x12 sp (.int .i64 (l.length:Int)) v30 p29.2) Q:=fun hf m1' e=>by
    subst e
    refine zX (E:=qN) [l[i]] (by decide) hv1 (by simp only [List.length_cons,List.length_nil]; omega) fun v2 m2 q1 q2 q3=>?_
    simp -implicitDefEqProofs only [st0,qb,reduceIte,qH (i:=i) (by omega)]
    refine ih (i+1) m2 v2 (by omega) hlt ((h.qx u1).jB q2 (fun c hc hm=>by have:=hsp c hc; have:=hvb c hm; omega)) ?_ (fun c hc=>(q3 c hc).elim (hvb c) (fun h=>by have:=hu.next; have:=u1.next; omega)) ((hu.qz u1).then' q2 (fun c hc=>.inr (hvb c hc)))
    rw [hs,hf,if_pos rfl]; exact q1
   by_cases c2:b=[]
   ·have hf:inF a b l[i]=true:=by simp [inF,c1,c2]
    have d2:decide (b=[])=true:=decide_eq_true c2
    simp -implicitDefEqProofs only [st0,qb,reduceIte,fa,ld,yd,c1,eq0,d2,ldN,qdE]
    exact take hf m1 rfl
   ·have d2:decide (b=[])=false:=decide_eq_false c2
    cases c3:ltB l[i].1 b with
    | true =>
     have hf:inF a b l[i]=true:=by simp [inF,c1,c3]
     simp -implicitDefEqProofs only [st0,qb,reduceIte,fa,ld,yd,c1,eq0,d2,ZM,c3,ldN,qdE]
     exact take hf m1 rfl
    | false =>
     have hf:inF a b l[i]=false:=by simp [inF,c1,c2,c3]
     simp -implicitDefEqProofs only [st0,qb,reduceIte,fa,ld,yd,c1,eq0,d2,ZM,c3,qH (i:=i) (by omega)]
     exact skip hf
def ScQ (x:Wx) (r:Nat) (m:Mem) (N:Nat) (l:List Pr) (v:Value) (m':Mem):Prop :=
 TAp qN 81 m' v l∧(∀ c∈qf v,m.next≤c)∧Upd [x.xb] m m'∧∃ r',r'≤r+N∧XR { x with rd:=r' } m'
set_option maxRecDepth 4000 in
theorem YU {x:Wx} (he:x.err=0) {h left nb lo0:Nat} {ks:List Bs} {ps:List Nat} {sp sk si:Value} {a b:Bs} (hR:Rng (Tr x.o.s h)) (hks:qC ks=true) (hl40:1≤left∧left≤40) (hps:ps.length≤200) (hkp:ps.length=ks.length+1)
  (IH:∀ (r:Nat) (m:Mem) (page:Nat) (lo:Bs) (hi:Option Bs) (l:List Pr) (U:List Nat),XR { x with rd:=r } m→r+U.length≤1000→Tr x.o.s h page lo hi l U→W (Call S tab 78 [x.v,.int .i64 (page:Int),.int .i64 ((left - 1:Nat):Int),str a,str b] m) (ScQ x r m U.length (zU l a b)))
  {m0:Mem} (hxb:x.xb<m0.next) (hw0:x.o.w<m0.next∧x.o.pm<m0.next∧x.o.c<m0.next∧x.o.p<m0.next) (hnb:nb<m0.next∧nb≠x.xb) (hsk:∀ c∈qf sk,c<m0.next∧c≠x.xb) (hsi:∀ c∈qf si,c<m0.next∧c≠x.xb) (L:List Pr) (N r0:Nat) :
  ∀ (ps':List Nat) (i r:Nat) (m:Mem) (v:Value) (ks':List Bs) (lo':Bs) (hi:Option Bs) (lr:List Pr) (Ur:List Nat) (acc:List Pr),ps.drop i=ps'→ks.drop i=ks'→i≤ps.length→((ps'=[]∧lr=[]∧Ur=[])∨Fo (Tr x.o.s h) lo' hi ks' ps' lr Ur)→(0<i→i≤ks.length→ks[i - 1]? = some lo') →
   XR { x with rd:=r } m→r+Ur.length≤1000→r+Ur.length≤r0+N→m.get nb=some (qk false sp sk si)→RSl lo0 encS m sk ks→RSl lo0 xd m si ps→TAp qN 81 m v acc→(∀ c∈qf v,m0.next≤c)→Upd [x.xb] m0 m→acc++zU lr a b=L→acc.length+lr.length≤200000 →
   W (Zx x.v (.int .i64 (left:Int)) (str a) (str b) v (.pointer (some ⟨nb,0,none⟩)) si (.int .i64 (ps.length:Int)) (.int .i64 (i:Int)) m) fun v' m'=>TAp qN 81 m' v' L∧(∀ c∈qf v',m0.next≤c)∧Upd [x.xb] m0 m'∧∃ r',r'≤r0+N∧XR { x with rd:=r' } m':=by
 intro ps'
 induction ps' with
 | nil =>
  intro i r m v ks' lo' hi lr Ur acc hi1 hk1 hil hfo hlo hx hr1 hr2 gb k2 k3 hv hvb hu hL hacc
  have:ps.length≤i:=by simpa [List.drop_eq_nil_iff] using hi1
  have e1:((i:Int)<(ps.length:Int))=False:=eq_false (by omega)
  rw [P78_2_eq]
  simp -implicitDefEqProofs only [st0,qb,reduceIte,e1]
  have h0:lr=[]∧Ur=[]:=by
   rcases hfo with ⟨_,h2,h3⟩|h
   ·exact ⟨h2,h3⟩
   ·cases ks' with
    | nil=>exact h.elim
    | cons k ks'=>exact h.elim
  obtain ⟨rfl,rfl⟩:=h0
  have hL:acc=L:=by simpa [zU] using hL
  subst hL
  exact ⟨hv,hvb,hu,r,by simpa using hr2,hx⟩
 | cons p ps' ih =>
  intro i r m v ks' lo' hi lr Ur acc hi1 hk1 hil hfo hlo hx hr1 hr2 gb k2 k3 hv hvb hu hL hacc
  have hlt:i<ps.length:=by
   rcases Nat.lt_or_ge i ps.length with h|h
   ·exact h
   ·rw [List.drop_of_length_le h] at hi1; cases hi1
  rw [List.drop_eq_getElem_cons hlt] at hi1
  injection hi1 with hp hi1
  have hfo:Fo (Tr x.o.s h) lo' hi ks' (p::ps') lr Ur:=hfo.resolve_left (fun h=>by cases h.1)
  have e1:((i:Int)<(ps.length:Int))=True:=eq_true (by omega)
  obtain ⟨pk,y1,y2⟩:=qio k3 (i:=i) (p:=p) (by rw [List.getElem?_eq_getElem hlt,hp])
  have y2:=y2 m k3
  have z:=xok hx
  have z:Call S tab 79 [x.v] m=some (.bool true,m):=by rw [decide_eq_true (show ({ x with rd:=r }:Wx).err=0 from he)] at z; exact z
  have esub:arith .sub (.int .i64 (left:Int)) (.int .i64 1)=some (.int .i64 ((left - 1:Nat):Int)):=by rw [jf (by omega) (by omega)]; congr 2; omega
  obtain ⟨l1,U1,l2,U2,rfl,rfl,hst⟩:=qfx hfo
  have hkid:∃ hi1,Tr x.o.s h p lo' hi1 l1 U1∧(∀ k,ks[i]? = some k→hi1=some k)∧∃ lo2,((ps'=[]∧l2=[]∧U2=[])∨Fo (Tr x.o.s h) lo2 hi (ks.drop (i+1)) ps' l2 U2)∧(i+1≤ks.length→ks[i]? = some lo2):=by
   rcases hst with ⟨e1,e2,e3,e4,e5⟩|⟨k,ks2,e1,e2,e3⟩
   ·refine ⟨hi,e3,fun k hk=>?_,lo',.inl ⟨e2,e4,e5⟩,fun h=>?_⟩
    ·have:ks.length≤i:=by rw [e1] at hk1; simpa [List.drop_eq_nil_iff] using hk1
     rw [List.getElem?_eq_none this] at hk; cases hk
    ·have:ks.length≤i:=by rw [e1] at hk1; simpa [List.drop_eq_nil_iff] using hk1
     omega
   ·rw [e1] at hk1
    have hki:i<ks.length:=by
     rcases Nat.lt_or_ge i ks.length with h|h
     ·exact h
     ·rw [List.drop_of_length_le h] at hk1; cases hk1
    rw [List.drop_eq_getElem_cons hki] at hk1
    injection hk1 with h1 h2
    refine ⟨some k,e2,fun k' hk'=>?_,k,.inr (by rw [h2]; exact e3),fun _=>by rw [List.getElem?_eq_getElem hki,h1]⟩
    rw [List.getElem?_eq_getElem hki,h1] at hk'; exact hk'
  obtain ⟨hi1',ht1,hhi,lo2,hfo2,hlo2⟩:=hkid
  rw [List.length_append] at hr1 hr2 hacc
  have hlen1:=List.length_filter_le (inF a b) l1
  have next:∀ (r':Nat) (m':Mem) (v':Value),XR { x with rd:=r' } m'→r'≤r+U1.length→Upd [x.xb] m0 m'→m'.get nb=some (qk false sp sk si)→RSl lo0 encS m' sk ks→RSl lo0 xd m' si ps→TAp qN 81 m' v' (acc++zU l1 a b)→(∀ c∈qf v',m0.next≤c)→W (Zx x.v (.int .i64 (left:Int)) (str a) (str b) v' (.pointer (some ⟨nb,0,none⟩)) si (.int .i64 (ps.length:Int)) (.int .i64 ((i+1:Nat):Int)) m') fun v' m'=>TAp qN 81 m' v' L∧(∀ c∈qf v',m0.next≤c)∧Upd [x.xb] m0 m'∧∃ r',r'≤r0+N∧XR { x with rd:=r' } m':=fun r' m' v' hx' hr' hu' gb' k2' k3' hv' hvb' =>
   ih (i+1) r' m' v' (ks.drop (i+1)) lo2 hi l2 U2 (acc++zU l1 a b) hi1 rfl hlt hfo2 (fun _ h=>by rw [Nat.add_sub_cancel]; exact hlo2 h) hx' (by omega) (by omega) gb' k2' k3' hv' hvb' hu' (by rw [List.append_assoc,← JC]; exact hL) (by rw [List.length_append]; show acc.length+(l1.filter _).length+l2.length≤200000; omega)
  have skip:zU l1 a b=[]→W (Zx x.v (.int .i64 (left:Int)) (str a) (str b) v (.pointer (some ⟨nb,0,none⟩)) si (.int .i64 (ps.length:Int)) (.int .i64 ((i+1:Nat):Int)) m) fun v' m'=>TAp qN 81 m' v' L∧(∀ c∈qf v',m0.next≤c)∧Upd [x.xb] m0 m'∧∃ r',r'≤r0+N∧XR { x with rd:=r' } m':=fun h0 =>
   next r m v hx (by omega) hu gb k2 k3 (by rw [h0,List.append_nil]; exact hv) hvb
  have go:W ((Call S tab 78 [x.v,.int .i64 (p:Int),.int .i64 ((left - 1:Nat):Int),str a,str b] m).bind fun p51=>(qL 2 p51.1 p51.2).bind fun p52=>(qB 81 2 32 v p52.1 p52.2 p51.2).bind fun p53=>Zx x.v (.int .i64 (left:Int)) (str a) (str b) p53.1 (.pointer (some ⟨nb,0,none⟩)) si (.int .i64 (ps.length:Int)) (.int .i64 ((i+1:Nat):Int)) p53.2) fun v' m'=>TAp qN 81 m' v' L∧(∀ c∈qf v',m0.next≤c)∧Upd [x.xb] m0 m'∧∃ r',r'≤r0+N∧XR { x with rd:=r' } m':=by
   refine qo.2 ((IH r m p lo' hi1' l1 U1 hx (by omega) ht1).mono fun v1 m1 ⟨a1,a2,a3,r',a4,a5⟩=>?_)
   have hn:=hu.next
   have nx:∀ c∈qf v,c∉[x.xb]:=fun c hc hm=>by have:=hvb c hc; simp at hm; omega
   have hv1:=hv.upd a3 nx
   refine qaF (E:=qN) (zU l1 a b) (by decide) hv1 a1.tsl.src (by show (acc.length+(l1.filter _).length) * 33≤_; omega) fun v2 m2 q1 q2 q3=>?_
   have hn1:=a3.next
   have nv:∀ c,c<m0.next→c∉qf v:=fun c hc hm=>by have:=hvb c hm; omega
   have n1:∀ c,c≠x.xb→c∉[x.xb]:=fun c hc hm=>hc (by simpa using hm)
   refine next r' m2 v2 (a5.upd q2 fun c hc=>?_) a4 ((hu.trans a3).then' q2 (fun c hc=>.inr (hvb c hc))) ?_ ((k2.jB a3 (fun c hc=>n1 c (hsk c hc).2)).jB q2 (fun c hc=>nv c (hsk c hc).1)) ((k3.jB a3 (fun c hc=>n1 c (hsi c hc).2)).jB q2 (fun c hc=>nv c (hsi c hc).1)) q1 (fun c hc=>(q3 c hc).elim (hvb c) (fun h=>by omega))
   ·have:=hvb c hc
    exact ⟨by show c≠x.xb; omega,by show c≠x.o.w; omega,by show c≠x.o.pm; omega,by show c≠x.o.c; omega,by show c≠x.o.p; omega⟩
   ·rw [q2.same nb (by omega) (nv nb hnb.1),a3.same nb (by omega) (n1 nb hnb.2)]; exact gb
  have hrg:=hR p lo' hi1' l1 U1 ht1
  have hA:decide ((i:Int)<(ks.length:Int))=false∨(∃ pk k,decide ((i:Int)<(ks.length:Int))=true∧qq 1 sk (.int .i64 (i:Int))=some pk∧qc pk m=some (str k)∧ltB a k=true) ∨
    (∃ pk k,(decide ((i:Int)<(ks.length:Int))=true∧qq 1 sk (.int .i64 (i:Int))=some pk∧qc pk m=some (str k)∧ltB a k=false)∧zU l1 a b=[]):=by
   by_cases hik:i<ks.length
   ·obtain ⟨pk,w1,w2⟩:=qdr k2 (List.getElem?_eq_getElem hik)
    have d1:decide ((i:Int)<(ks.length:Int))=true:=decide_eq_true (by omega)
    cases hc:ltB a ks[i] with
    | true=>exact .inr (.inl ⟨pk,ks[i],d1,w1,w2 m k2,hc⟩)
    | false =>
     refine .inr (.inr ⟨pk,ks[i],⟨d1,w1,w2 m k2,hc⟩,vS fun y hy=>?_⟩)
     have:=xC ((hrg y hy).2 ks[i] (hhi ks[i] (List.getElem?_eq_getElem hik))) hc
     simp [inF,this]
   ·exact .inl (decide_eq_false (by omega))
  have hB:decide ((0:Int)<(i:Int))=false∨(decide ((0:Int)<(i:Int))=true∧decide (b=[])=true) ∨
    (∃ pk,decide ((0:Int)<(i:Int))=true∧decide (b=[])=false∧arith .sub (.int .i64 (i:Int)) (.int .i64 1)=some (.int .i64 ((i - 1:Nat):Int))∧qq 1 sk (.int .i64 ((i - 1:Nat):Int))=some pk∧qc pk m=some (str lo')∧ltB lo' b=true) ∨
    (∃ pk,(decide ((0:Int)<(i:Int))=true∧decide (b=[])=false∧arith .sub (.int .i64 (i:Int)) (.int .i64 1)=some (.int .i64 ((i - 1:Nat):Int))∧qq 1 sk (.int .i64 ((i - 1:Nat):Int))=some pk∧qc pk m=some (str lo')∧ltB lo' b=false)∧zU l1 a b=[]):=by
   by_cases h0:0<i
   ·have d1:decide ((0:Int)<(i:Int))=true:=decide_eq_true (by omega)
    by_cases hb:b=[]
    ·exact .inr (.inl ⟨d1,decide_eq_true hb⟩)
    ·have d2:decide (b=[])=false:=decide_eq_false hb
     obtain ⟨pk,w1,w2⟩:=qdr k2 (hlo h0 (by omega))
     have d3:arith .sub (.int .i64 (i:Int)) (.int .i64 1)=some (.int .i64 ((i - 1:Nat):Int)):=by rw [jf (by omega) (by omega)]; congr 2; omega
     cases hc:ltB lo' b with
     | true=>exact .inr (.inr (.inl ⟨pk,d1,d2,d3,w1,w2 m k2,rfl⟩))
     | false =>
      refine .inr (.inr (.inr ⟨pk,⟨d1,d2,d3,w1,w2 m k2,rfl⟩,vS fun y hy=>?_⟩))
      have h3:ltB y.1 b=false:=by
       cases h4:ltB y.1 b with
       | false=>rfl
       | true=>have:=xC h4 hc; rw [(hrg y hy).1] at this; cases this
      simp [inF,h3,hb]
   ·exact .inl (decide_eq_false (by omega))
  have neq0:arith .neq (str b) (.string ⟨#[]⟩)=some (.bool (decide (¬ b=[]))):=Qc b []
  have hlk:=zv k2
  have hld:=zl gb (o:=0+2) rfl
  rw [P78_2_eq]
  rcases hA with eA|⟨pkA,kA,eA⟩|⟨pkA,kA,eA,hskA⟩<;>rcases hB with eB|eB|⟨pkB,eB⟩|⟨pkB,eB,hskB⟩ <;>
   simp -implicitDefEqProofs only [st0,qb,reduceIte,e1,y1,y2,fa,hld,hlk,eA,eB,Qh,yd,neq0,z,esub,qH (i:=i) (by omega)]<;>first|exact go|exact skip (by assumption)
theorem qaP {R:TP} (hR:∀ p lo hi l U,R p lo hi l U→l.length≤127 * U.length):∀ (ks:List Bs) (ps:List Nat) (lo:Bs) (hi:Option Bs) (l:List Pr) (U:List Nat),Fo R lo hi ks ps l U→l.length≤127 * U.length
 | [],[p],lo,hi,l,U,h=>hR _ _ _ _ _ h
 | k::ks,p::ps,lo,hi,l,U,⟨l1,U1,l2,U2,h1,h2,h3,h4⟩=>by
  subst h3 h4
  have a:=hR _ _ _ _ _ h1
  have b:=qaP hR ks ps _ _ _ _ h2
  simp only [List.length_append]; omega
 | [],[],_,_,_,_,hf=>hf.elim
 | [],_::_::_,_,_,_,_,hf=>hf.elim
 | _::_,[],_,_,_,_,hf=>hf.elim
theorem ZP (s:Nat→Option Bs):∀ (h p:Nat) (lo:Bs) (hi:Option Bs) (l:List Pr) (U:List Nat),Tr s h p lo hi l U→l.length≤127 * U.length
 | 0,p,lo,hi,l,U,⟨n,S',hp,hn,⟨e1,_,e2⟩,e3⟩=>by
  subst e1 e2 e3
  have:=(vq hp.rt hp.sz).1
  simpa [Nd.lf] using this
 | h+1,p,lo,hi,l,U,⟨n,S',hp,hn,⟨ks,ps,e1,hk,hf⟩,e3⟩=>by
  subst e3
  have:=qaP (ZP s h) ks ps lo hi l S' hf
  simp only [List.length_cons]; omega
set_option maxRecDepth 4000 in
theorem qdb {x:Wx} (he:x.err=0) {a b:Bs}:∀ (h r:Nat) (m:Mem) (page left:Nat) (lo:Bs) (hi:Option Bs) (l:List Pr) (U:List Nat),XR { x with rd:=r } m→r+U.length≤1000→h<left→left≤40→Tr x.o.s h page lo hi l U →
  W (Call S tab 78 [x.v,.int .i64 (page:Int),.int .i64 (left:Int),str a,str b] m) (ScQ x r m U.length (zU l a b)):=by
 intro h
 induction h with
 | zero =>
  intro r m page left lo hi l U hx hrd hle hl40 ht
  obtain ⟨n,U',hp,hn,hnt,rfl⟩:=js.1 ht
  have hnt0:n=Nd.lf l∧(∀ x∈l,inR lo hi x.1)∧U'=[]:=hnt
  obtain ⟨rfl,hl,rfl⟩:=hnt0
  obtain ⟨hh,hlk⟩:=hp.here
  have hlt:=kT hh
  have hP:=hx.wr.hP
  have hP:x.o.P≤160:=hP
  have hfew:l.length≤127:=(vq hp.rt hp.sz).1
  simp only [List.length_cons,List.length_nil] at hrd ⊢
  rw [C78]
  refine qo.2 ((Js (x:={ x with rd:=r }) hx he (by show r<1000; omega) (by omega) (by omega) hh hlk hp.rt hp.sz).mono fun v1 m1 ⟨t1,h1,u1⟩=>?_)
  have h1:XR { x with rd:=r+1 } m1:=h1
  have u1:Upd [x.xb] m m1:=u1
  have x1:=u1.next
  obtain ⟨sp,sk,si,rfl,q1,q2,q3⟩:=t1.ex
  have q1:RSl m.next qN m1 sp l:=q1
  have q3:RSl m.next xd m1 si []:=q3
  simp -implicitDefEqProofs only [st0,qb,reduceIte]
  refine jJ (c:=[.bool (Nd.lf l).leaf,sp,sk,si]) rfl rfl (by simp [q1.one.2,q2.one.2,q3.one.2,show (Value.bool (Nd.lf l).leaf).oneCell'=true from rfl]) fun m2 b2 u2 n2=>?_
  have h2:=h1.qx u2
  have q12:=q1.qx u2
  have q32:=q3.qx u2
  have x2:=u2.next
  simp -implicitDefEqProofs only [st0,qb,reduceIte,fa,zl b2 (o:=0+1) rfl,zv q12]
  refine XE (by omega) (fun c hc=>(q12.2 c hc).2) (fun m3 v hv hvb u3=>?_) _ 0 m2 _ rfl (Nat.zero_le _) q12 (TAp.nil _) (fun c hc=>by simp [qf] at hc) (Upd.refl _ _)
  have b3:=qA u3 (by omega) b2
  have q33:=q32.qx u3
  have e0:((0:Int)<(([]:List Nat).length:Int))=False:=eq_false (by simp)
  rw [P78_1_eq]
  simp -implicitDefEqProofs only [st0,qb,reduceIte,fa,zl b3 (o:=0+3) rfl,zv q33]
  rw [P78_2_eq]
  simp -implicitDefEqProofs only [st0,qb,reduceIte,e0]
  exact ⟨hv,fun c hc=>by have:=hvb c hc; omega,(u1.qz u2).qz u3,r+1,by simp,h2.qx u3⟩
 | succ h ih =>
  intro r m page left lo hi l U hx hrd hle hl40 ht
  have hmost:=ZP x.o.s (h+1) page lo hi l U ht
  obtain ⟨n,U',hp,hn,hnt,rfl⟩:=js.1 ht
  obtain ⟨ks,ps,rfl,hks,hfo⟩:=hnt
  obtain ⟨hh,hlk⟩:=hp.here
  have hlt:=kT hh
  have hP:=hx.wr.hP
  have hP:x.o.P≤160:=hP
  have hfew:=WV hp.rt hp.sz
  have hfew:ps.length≤ks.length+1∧ps.length≤200:=hfew
  obtain ⟨hp0,i1,r1,v1,p1⟩:=zH hp.rt rfl
  have i1:ps.length=ks.length+1:=i1
  have r1:qC ks=true:=r1
  simp only [List.length_cons] at hrd hmost ⊢
  have w1:=hx.wr.lw; have w2:=hx.wr.lm; have w3:=hx.wr.lc; have w4:=hx.wr.lp; have w5:=hx.lx
  have w1:x.o.w<m.next:=w1
  have w2:x.o.pm<m.next:=w2
  have w3:x.o.c<m.next:=w3
  have w4:x.o.p<m.next:=w4
  have w5:x.xb<m.next:=w5
  rw [C78]
  refine qo.2 ((Js (x:={ x with rd:=r }) hx he (by show r<1000; omega) (by omega) (by omega) hh hlk hp.rt hp.sz).mono fun v1 m1 ⟨t1,h1,u1⟩=>?_)
  have h1:XR { x with rd:=r+1 } m1:=h1
  have u1:Upd [x.xb] m m1:=u1
  have x1:=u1.next
  obtain ⟨sp,sk,si,rfl,q1,q2,q3⟩:=t1.ex
  have q1:RSl m.next qN m1 sp []:=q1
  have q2:RSl m.next encS m1 sk ks:=q2
  have q3:RSl m.next xd m1 si ps:=q3
  simp -implicitDefEqProofs only [st0,qb,reduceIte]
  refine jJ (c:=[.bool (Nd.nd ks ps).leaf,sp,sk,si]) rfl rfl (by simp [q1.one.2,q2.one.2,q3.one.2,show (Value.bool (Nd.nd ks ps).leaf).oneCell'=true from rfl]) fun m2 b2 u2 n2=>?_
  have h2:=h1.qx u2
  have q12:=q1.qx u2
  have q22:=q2.qx u2
  have q32:=q3.qx u2
  have x2:=u2.next
  simp -implicitDefEqProofs only [st0,qb,reduceIte,fa,zl b2 (o:=0+1) rfl,zv q12]
  refine XE (l:=[]) (by simp) (fun c hc=>(q12.2 c hc).2) (fun m3 v hv hvb u3=>?_) _ 0 m2 _ rfl (Nat.zero_le _) q12 (TAp.nil _) (fun c hc=>by simp [qf] at hc) (Upd.refl _ _)
  have b3:=qA u3 (by omega) b2
  have q33:=q32.qx u3
  have x3:=u3.next
  rw [P78_1_eq]
  simp -implicitDefEqProofs only [st0,qb,reduceIte,fa,zl b3 (o:=0+3) rfl,zv q33]
  have k2:∀ c∈qf sk,c<m2.next∧c≠x.xb:=fun c hc=>⟨(q22.2 c hc).2,by have:=(q22.2 c hc).1; omega⟩
  have k3:∀ c∈qf si,c<m2.next∧c≠x.xb:=fun c hc=>⟨(q32.2 c hc).2,by have:=(q32.2 c hc).1; omega⟩
  refine (YU (lo0:=m.next) (x:=x) he (h:=h) (m0:=m2) (r0:=r) (N:=U'.length+1) (L:=zU l a b) (Ja x.o.s h) r1 ⟨by omega,hl40⟩ hfew.2 i1 (fun r m page lo hi l U hx hr ht=>ih r m page (left - 1) lo hi l U hx hr (by omega) (by omega) ht)
   (by omega) ⟨by omega,by omega,by omega,by omega⟩ ⟨by omega,by omega⟩ k2 k3 ps 0 (r+1) m3 v ks lo hi l U' [] rfl rfl (Nat.zero_le _) (.inr hfo) (fun h=>by omega) (h2.qx u3) (by omega) (by omega) b3 (q22.qx u3) q33 hv hvb u3.nil' (by simp) (by simp; omega)).mono fun v' m' ⟨c1,c2,c3,r',c4,c5⟩=>?_
  exact ⟨c1,fun c hc=>by have:=c2 c hc; omega,(u1.qz u2).trans c3,r',c4,c5⟩
theorem qeH {o:Wo} {m:Mem} (h:WR o m) {root:Nat} {l:List Pr} {U:List Nat} (ht:TrR o.s root l U) (hnd:U.Nodup) (a b:Bs) :
  W (Call S tab 41 [.pointer (some ⟨o.w,0,none⟩),.int .i64 (root:Int),str a,str b] m) fun r m'=>∃ v,r=.tuple #[v,.int .i64 0]∧TAp qN 81 m' v (zU l a b)∧(∀ c∈qf v,m.next≤c)∧Upd [] m m':=by
 rw [C41]
 rcases ht with ⟨rfl,rfl,rfl⟩|⟨g,ht⟩
 ·have e0:(((0:Nat):Int)=0)=True:=eq_true rfl
  simp -implicitDefEqProofs only [st0,qb,reduceIte,e0]
  exact ⟨_,rfl,TAp.nil _,fun c hc=>by simp [qf] at hc,Upd.refl _ _⟩
 ·have hpos:=Wk ht
  have hlow:=Vm h.hP ht hnd
  have e0:((root:Int)=0)=False:=eq_false (by omega)
  have hxr:=XR.begin h
  have u1:Upd [] m (m.add (x0 o m.next).blk):=Upd.add _ _ _
  have n1:(m.add (x0 o m.next).blk).next=m.next+1:=rfl
  have eblk:(⟨.cells [.pointer (some ⟨o.w,0,none⟩),.int .i64 0,.int .i64 0] 142,false,none⟩:ABlk)=(x0 o m.next).blk:=rfl
  simp -implicitDefEqProofs only [st0,qb,reduceIte,e0,qdD,qR]
  rw [eblk]
  generalize (m.add (x0 o m.next).blk)=m1 at u1 hxr n1
  refine qo.2 ((qdb (x:=x0 o m.next) rfl (a:=a) (b:=b) g 0 m1 root 40 [] none l U hxr (by omega) (by omega) (by omega) ht).mono fun v m2 ⟨c1,c2,c3,r',c4,c5⟩=>?_)
  have z:=xok c5
  rw [decide_eq_true (show ({ x0 o m.next with rd:=r' }:Wx).err=0 from rfl)] at z
  have z:Call S tab 79 [(x0 o m.next).v] m2=some (.bool true,m2):=z
  simp -implicitDefEqProofs only [st0,qb,reduceIte,z]
  exact ⟨_,rfl,c1,fun c hc=>by have:=c2 c hc; omega,u1.then' c3 (fun c hc=>.inr (by simp at hc; omega))⟩
end Go.Fx.Tryz
namespace Go.Fx.Tryz
open Go Go.Fx
section
variable {pb off0:Nat} {F:Value→ABlk} {v:Value} {l:List Pr} {m:Mem}
theorem Wz (l:List Pr) (key val:Bs):xD l key val=l.take (zx l key)++[(key,val)]++l.drop (zx l key+(if zJ l key then 1 else 0)):=by
 unfold xD yK
 cases ht:zJ l key with
 | false=>simp
 | true =>
  have hlt:=jt ht
  simp only [if_true]
  rw [List.eraseIdx_eq_take_drop_succ,List.take_append_of_le_length (by rw [List.length_take]; omega),List.take_take,Nat.min_self,List.drop_append,List.length_take]
  rw [show zx l key - min (zx l key) l.length=0 by omega,List.drop_of_length_le (by rw [List.length_take]; omega)]
  simp
end
section
variable {l:List Pr} {m:Mem}
instance (key val:Bs):Decidable (Kv key val):=inferInstanceAs (Decidable (_∧_))
end
theorem TrR.row {s:Nat→Option Bs} {root:Nat} {l:List Pr} {U:List Nat} (h:TrR s root l U):rowP l:=by
 rcases h with ⟨_,rfl,_⟩|⟨g,h⟩
 ·exact ⟨rfl,by simp⟩
 ·exact qeb s g root [] none l U h
theorem TrR.jB {s s':Nat→Option Bs} {root:Nat} {l:List Pr} {U:List Nat} (h:TrR s root l U) (hs:∀ q∈U,s' q=s q):TrR s' root l U:=by
 rcases h with h|⟨g,h⟩
 ·exact .inl h
 ·exact .inr ⟨g,kY g root [] none l U hs h⟩
theorem TrR.used {s:Nat→Option Bs} {root:Nat} {l:List Pr} {U:List Nat} (h:TrR s root l U):∀ q∈U,s q≠none:=by
 rcases h with ⟨_,_,rfl⟩|⟨g,h⟩
 ·intro q hq; cases hq
 ·exact vX s g root [] none l U h
end Go.Fx.Tryz
namespace Go.Fx.Tryz
open Go Go.Fx
def okC (c:UInt8):Bool:=(decide (97≤c.toNat)&&decide (c.toNat≤122))||decide (c.toNat=95)
theorem YO (s:Bs):xu s=(decide (s≠[])&&decide (s.length≤8)&&s.all okC):=rfl
theorem qaD (l:Bs) {i:Nat} (h:i<l.length):(⟨l.toArray⟩:ByteArray).get! i=l[i]:=by
 simp [ByteArray.get!,h]
theorem qhA {l:Bs} {i:Nat} (h:i<l.length) (hc:l[i].toNat<128):Utf8.decode ⟨l.toArray⟩ i=(l[i].toNat,1):=by
 have g0:(⟨l.toArray⟩:ByteArray).get! (i+0)=l[i]:=by rw [Nat.add_zero]; exact qaD l h
 unfold Utf8.decode
 simp only [g0]
 rw [if_pos hc]
theorem qhB {l:Bs} {i:Nat} (h:i<l.length) (hc:128≤l[i].toNat):128≤(Utf8.decode ⟨l.toArray⟩ i).1:=by
 have g0:(⟨l.toArray⟩:ByteArray).get! (i+0)=l[i]:=by rw [Nat.add_zero]; exact qaD l h
 unfold Utf8.decode
 simp only [g0]
 rw [if_neg (by omega)]
 repeat' split
 all_goals first
  | (simp only [Bool.and_eq_true,decide_eq_true_eq,beq_iff_eq,ge_iff_le] at *; omega)
  | (simp [Utf8.runeError])
theorem KO (c:UInt8):okC c=true↔(97≤c.toNat∧c.toNat≤122)∨c.toNat=95:=by simp [okC]
theorem HZ (n:Nat) (m:Mem):Call S tab 85 [.int .i32 (n:Int)] m=some (.bool (!(decide ((97≤n∧n≤122)∨n=95))),m):=by
 refine W_eq ?_
 rw [C85]
 by_cases c1:n<97
 ·have e1:((n:Int)<97)=True:=eq_true (by omega)
  by_cases c2:n=95
  ·have e2:((n:Int)=95)=True:=eq_true (by omega)
   have e:decide ((97≤n∧n≤122)∨n=95)=true:=decide_eq_true (.inr c2)
   simp -implicitDefEqProofs only [st0,qb,reduceIte,e1,e2,e]
   exact ⟨trivial,trivial⟩
  ·have e2:((n:Int)=95)=False:=eq_false (by omega)
   have e:decide ((97≤n∧n≤122)∨n=95)=false:=decide_eq_false (by omega)
   simp -implicitDefEqProofs only [st0,qb,reduceIte,e1,e2,e]
   exact ⟨trivial,trivial⟩
 ·have e1:((n:Int)<97)=False:=eq_false (by omega)
  by_cases c2:n≤122
  ·have e2:((122:Int)<(n:Int))=False:=eq_false (by omega)
   have e:decide ((97≤n∧n≤122)∨n=95)=true:=decide_eq_true (.inl (by omega))
   simp -implicitDefEqProofs only [st0,qb,reduceIte,e1,e2,e]
   exact ⟨trivial,trivial⟩
  ·have e2:((122:Int)<(n:Int))=True:=eq_true (by omega)
   have e3:((n:Int)=95)=False:=eq_false (by omega)
   have e:decide ((97≤n∧n≤122)∨n=95)=false:=decide_eq_false (by omega)
   simp -implicitDefEqProofs only [st0,qb,reduceIte,e1,e2,e3,e]
   exact ⟨trivial,trivial⟩
theorem qdf {l:Bs} (hl:l.length≤1000) {it:Nat} {m0:Mem} (hit:m0.next≤it):∀ (d i:Nat) (m:Mem),l.length - i=d→i≤l.length→m.get it=some ⟨.siter ⟨l.toArray⟩ i,false,none⟩→Upd [] m0 m →
  W (Vy (.func (.func 85) #[] #[]) (.bool true) (.pointer (some ⟨it,0,none⟩)) m) fun r m'=>∃ k:Int,r=.int .i64 k∧(0≤k↔(l.drop i).all okC=false)∧Upd [] m0 m':=by
 have hsz:(⟨l.toArray⟩:ByteArray).size=l.length:=by simp [ByteArray.size]
 intro d
 induction d with
 | zero =>
  intro i m hd hi hg hu
  obtain rfl:i=l.length:=by omega
  have hn:ki (.pointer (some ⟨it,0,none⟩)) m=some (.tuple #[.bool false],m):=by
   simp only [ki,Mem.KU,hg,Option.bind_some,hsz]
   rw [if_neg (by omega)]
  have e0:qd 0 (.tuple #[.bool false])=some (.bool false):=rfl
  rw [P168_0_eq]
  simp -implicitDefEqProofs only [st0,qb,reduceIte,hn,e0]
  exact ⟨-1,rfl,by simp,hu⟩
 | succ d ih =>
  intro i m hd hi hg hu
  have hlt:i<l.length:=by omega
  have hn:ki (.pointer (some ⟨it,0,none⟩)) m=some (.tuple #[.bool true,.int .i64 (i:Int),.int .i32 ((Utf8.decode ⟨l.toArray⟩ i).1:Int)],m.put it ⟨.siter ⟨l.toArray⟩ (i+(Utf8.decode ⟨l.toArray⟩ i).2),false,none⟩):=by
   simp only [ki,Mem.KU,hg,Option.bind_some,hsz]
   rw [if_pos hlt]
  have hdr:l.drop i=l[i]::l.drop (i+1):=List.drop_eq_getElem_cons hlt
  have hu1:Upd [] m0 (m.put it ⟨.siter ⟨l.toArray⟩ (i+(Utf8.decode ⟨l.toArray⟩ i).2),false,none⟩):=hu.kr _ (.inr hit)
  have hg1:(m.put it ⟨.siter ⟨l.toArray⟩ (i+(Utf8.decode ⟨l.toArray⟩ i).2),false,none⟩).get it=some ⟨.siter ⟨l.toArray⟩ (i+(Utf8.decode ⟨l.toArray⟩ i).2),false,none⟩:=Mem.qi ..
  have x0:∀ a b c:Value,qd 0 (.tuple #[a,b,c])=some a:=fun _ _ _=>rfl
  have x1:∀ a b c:Value,qd 1 (.tuple #[a,b,c])=some b:=fun _ _ _=>rfl
  have x2:∀ a b c:Value,qd 2 (.tuple #[a,b,c])=some c:=fun _ _ _=>rfl
  have q:∀ b:Bool,kM false (.bool b) (.bool true)=some (.bool b):=fun b=>by cases b<;>rfl
  rw [P168_0_eq]
  by_cases hc:l[i].toNat<128
  ·have hdec:=qhA hlt hc
   rw [hdec] at hn hu1 hg1
   simp only at hn hu1 hg1
   generalize (m.put it ⟨.siter ⟨l.toArray⟩ (i+1),false,none⟩)=m1 at hn hu1 hg1
   have ho:=HZ l[i].toNat m1
   cases hk:okC l[i] with
   | true =>
    rw [decide_eq_true ((KO _).1 hk)] at ho
    simp -implicitDefEqProofs only [st0,qb,reduceIte,hn,x0,x1,x2,JY 85 (by rfl),List.nil_append,List.append_nil,ho,q]
    refine (ih (i+1) m1 (by omega) hlt hg1 hu1).mono fun r m' ⟨k,h1,h2,h3⟩=>⟨k,h1,?_,h3⟩
    rw [h2,hdr,List.all_cons,hk,Bool.true_and]
   | false =>
    rw [decide_eq_false (fun h=>by rw [(KO _).2 h] at hk; cases hk)] at ho
    simp -implicitDefEqProofs only [st0,qb,reduceIte,hn,x0,x1,x2,JY 85 (by rfl),List.nil_append,List.append_nil,ho,q]
    exact ⟨i,rfl,by rw [hdr,List.all_cons,hk]; simp,hu1⟩
  ·have hdec:=qhB hlt (by omega)
   have hk:okC l[i]=false:=by
    cases h:okC l[i] with
    | false=>rfl
    | true=>have:=(KO _).1 h; omega
   have ho:=HZ (Utf8.decode ⟨l.toArray⟩ i).1 (m.put it ⟨.siter ⟨l.toArray⟩ (i+(Utf8.decode ⟨l.toArray⟩ i).2),false,none⟩)
   rw [decide_eq_false (by omega)] at ho
   simp -implicitDefEqProofs only [st0,qb,reduceIte,hn,x0,x1,x2,JY 85 (by rfl),List.nil_append,List.append_nil,ho,q]
   exact ⟨i,rfl,by rw [hdr,List.all_cons,hk]; simp,hu1⟩
theorem qcg (s:Bs) (m:Mem):W (Call S tab 49 [str s] m) fun r m'=>r=.bool (xu s)∧Upd [] m m':=by
 have eq0:arith .neq (str s) (.string ⟨#[]⟩)=some (.bool (decide (¬ s=[]))):=Qc s []
 rw [C49,YO]
 by_cases c1:s=[]
 ·have e1:decide (¬ s=[])=false:=decide_eq_false (fun h=>h c1)
  have e2:decide (s≠[])=false:=e1
  simp -implicitDefEqProofs only [st0,qb,reduceIte,eq0,e1,e2,Bool.false_and]
  exact ⟨trivial,Upd.refl _ _⟩
 ·have e1:decide (¬ s=[])=true:=decide_eq_true c1
  by_cases c2:s.length≤8
  ·have e2:((s.length:Int)≤8)=True:=eq_true (by omega)
   have hr:W (Call S tab 86 [str s,.func (.func 85) #[] #[]] m) fun r m'=>r=.bool (!(s.all okC))∧Upd [] m m':=by
    rw [C86]
    refine qo.2 (W.mono (Q:=fun r m'=>∃ k:Int,r=.int .i64 k∧(0≤k↔(s.drop 0).all okC=false)∧Upd [] m m') ?_ fun r m' ⟨k,h1,h2,h3⟩=>?_)
    ·rw [qkI]
     refine qo.2 (W.mono (Q:=fun r m'=>∃ k:Int,r=.int .i64 k∧(0≤k↔(s.drop 0).all okC=false)∧Upd [] m m') ?_ fun r m' h=>zs.2 h)
     rw [qks]
     have e:vt (str s) m=some (.pointer (some ⟨m.next,0,none⟩),m.add ⟨.siter ⟨s.toArray⟩ 0,false,none⟩):=rfl
     simp -implicitDefEqProofs only [st0,qb,reduceIte,e]
     exact qdf (by omega) (Nat.le_refl _) _ 0 _ rfl (Nat.zero_le _) (Mem.qh ..) (Upd.add _ _ _)
    ·subst h1
     rw [List.drop_zero] at h2
     cases ha:s.all okC with
     | true =>
      have e3:(0≤k)=False:=eq_false (fun h=>by have:=h2.1 h; rw [ha] at this; cases this)
      simp -implicitDefEqProofs only [st0,qb,reduceIte,e3]
      exact ⟨trivial,h3⟩
     | false =>
      have e3:(0≤k)=True:=eq_true (h2.2 ha)
      simp -implicitDefEqProofs only [st0,qb,reduceIte,e3]
      exact ⟨trivial,h3⟩
   simp -implicitDefEqProofs only [st0,qb,reduceIte,eq0,e1,zN,e2]
   refine qo.2 (qo.2 (hr.mono fun r m' ⟨h1,h2⟩=>?_))
   subst h1
   have e4:decide (s≠[])=true:=decide_eq_true c1
   have e5:decide (s.length≤8)=true:=decide_eq_true c2
   cases ha:s.all okC<;>simp -implicitDefEqProofs only [st0,qb,reduceIte,e4,e5,Bool.and_self,Bool.and_true,Bool.and_false]<;>exact ⟨trivial,h2⟩
  ·have e2:((s.length:Int)≤8)=False:=eq_false (by omega)
   have e5:decide (s.length≤8)=false:=decide_eq_false c2
   simp -implicitDefEqProofs only [st0,qb,reduceIte,eq0,e1,zN,e2,e5]
   exact ⟨by simp,Upd.refl _ _⟩
end Go.Fx.Tryz
namespace Go.Fx.Tryz
open Go Go.Fx
structure To where
 t:Nat
 b:Nat
 tm:Nat
 nb:Value
 nts:List (Nat × Nat)
 o:Wo
 ns:List St
 ts:List Tab1
 K:Nat
def qaw:Enc (Nat × Nat):=⟨2,fun p=>[.int .i64 (p.1:Int),.map (some p.2)],fun _=>rfl,fun _=>rfl⟩
abbrev txB (x:To):ABlk:=⟨.cells [.pointer (some ⟨x.b,0,none⟩),.pointer (some ⟨x.o.w,0,none⟩),.map (some x.tm),x.nb,.bool false] 97,false,none⟩
abbrev To.v (x:To):Value:=.pointer (some ⟨x.t,0,none⟩)
abbrev To.xA (x:To):List Nat:=x.ts.flatMap (·.U)
structure TR (x:To) (T:List Tb) (m:Mem):Prop where
 tx:m.get x.t=some (txB x)
 tg:m.get x.tm=some ⟨.map (esT x.ts) x.K,false,none⟩
 wi:WI x.o x.ns m
 nb:TAp qaw 132 m x.nb x.nts
 mo:Mo x.ts T
 va:Valid T
 bo:kW (esT x.ts) x.K=true
 tr:∀ t∈x.ts,TrR x.o.s t.root t.l t.U
 nd:x.xA.Nodup
 own:∀ k,x.o.s k≠none→k∈x.xA
 lt:x.t<m.next∧x.tm<m.next
 ne:x.t≠x.tm∧(x.t∉x.o.zr∧x.t≠x.o.c∧x.t≠x.o.p)∧(x.tm∉x.o.zr∧x.tm≠x.o.c∧x.tm≠x.o.p)
 nn:∀ b∈qf x.nb,b∉x.o.zr∧b≠x.o.c∧b≠x.o.p∧b≠x.t∧b≠x.tm
def To.fp (x:To):List Nat:=x.t::x.tm::x.o.zr
section
variable {x:To} {T:List Tb} {m:Mem}
theorem TR.qx (h:TR x T m) {m':Mem} (u:Upd [] m m'):TR x T m' :=
 ⟨qA u h.lt.1 h.tx,qA u h.lt.2 h.tg,h.wi.qx u,h.nb.qx u,h.mo,h.va,h.bo,h.tr,h.nd,h.own,⟨Nat.lt_of_lt_of_le h.lt.1 u.next,Nat.lt_of_lt_of_le h.lt.2 u.next⟩,h.ne,h.nn⟩
theorem TR.ld1 (h:TR x T m):qc (.pointer (some ⟨x.t,0+1,none⟩)) m=some (.pointer (some ⟨x.o.w,0,none⟩)):=qs h.tx rfl
theorem TR.ld2 (h:TR x T m):qc (.pointer (some ⟨x.t,0+2,none⟩)) m=some (.map (some x.tm)):=qs h.tx rfl
theorem TR.ld3 (h:TR x T m):qc (.pointer (some ⟨x.t,0+3,none⟩)) m=some x.nb:=qs h.tx rfl
theorem TR.ld4 (h:TR x T m):qc (.pointer (some ⟨x.t,0+4,none⟩)) m=some (.bool false):=qs h.tx rfl
theorem vE (h:TR x T m):Call S tab 37 [x.v] m=some (.int .i64 0,m):=by
 refine W_eq ?_
 rw [C37]
 simp -implicitDefEqProofs only [st0,qb,reduceIte,vd,nck,fa,h.ld4]
 exact ⟨trivial,trivial⟩
end
abbrev tbB (r n:Nat):ABlk:=⟨.cells [.int .i64 (r:Int),.int .i64 (n:Int)] 93,false,none⟩
abbrev tbZ:ABlk:=⟨.cells [.int .i64 0,.int .i64 0] 93,false,none⟩
theorem ZZ {m:Mem} {r n:Nat} {k:Mem→O} {Q:Value→Mem→Prop} (h:∀ m',Upd [] m m'→m'.next=m.next+1→m'.get m.next=some (tbB r n)→W (k m') Q) :
  W ((qg 2 (.pointer (some ⟨m.next,0,none⟩)) (tbV r n) (m.add tbZ)).bind k) Q:=by
 have e:qg 2 (.pointer (some ⟨m.next,0,none⟩)) (tbV r n) (m.add tbZ)=some ((m.add tbZ).put m.next (tbB r n)) :=
  xO (Mem.qh m tbZ) rfl rfl rfl
 rw [e]
 exact h _ ((Upd.add _ _ _).kr _ (.inr (Nat.le_refl _))) rfl (Mem.qi ..)
theorem qgZ {m:Mem} {b r n r' n':Nat} (g:m.get b=some (tbB r n)):qg 2 (.pointer (some ⟨b,0,none⟩)) (tbV r' n') m=some (m.put b (tbB r' n')) :=
 xO g rfl rfl rfl
theorem qcH {m:Mem} {b r n:Nat} (g:m.get b=some (tbB r n)):qm 2 (.pointer (some ⟨b,0,none⟩)) m=some (tbV r n):=zu g rfl
theorem qha {m:Mem} {b r n:Nat} (g:m.get b=some (tbB r n)):qc (.pointer (some ⟨b,0+0,none⟩)) m=some (.int .i64 (r:Int)):=qs g rfl
theorem qia {m:Mem} {b r n:Nat} (g:m.get b=some (tbB r n)):qc (.pointer (some ⟨b,0+1,none⟩)) m=some (.int .i64 (n:Int)):=qs g rfl
theorem qgJ:qy [.int .i64 0,.int .i64 0] []=some [.int .i64 0,.int .i64 0]:=rfl
section
variable {x:To} {T:List Tb} {m:Mem} {nm:Bs}
theorem qcF (h:TR x T m) (hn:∀ t∈x.ts,t.nm≠nm):W (Call S tab 43 [x.v,str nm] m) fun r m'=>r=.tuple #[tbV 0 0,.int .i64 7]∧Upd [] m m':=by
 have d0:decide ((0:Int)=0)=true:=rfl
 have u1:Upd [] m (m.add tbZ):=Upd.add _ _ _
 have g1:(m.add tbZ).get m.next=some (tbB 0 0):=Mem.qh ..
 have n1:(m.add tbZ).next=m.next+1:=rfl
 rw [C43]
 simp -implicitDefEqProofs only [st0,qb,reduceIte]
 generalize (m.add tbZ)=m1 at u1 g1 n1
 have h1:=h.qx u1
 simp -implicitDefEqProofs only [st0,qb,reduceIte,vE h1,d0,nck,fa,h1.ld2,WG h1.tg hn,xt0,xt1]
 refine ZZ (r:=0) (n:=0) fun m2 u2 n2 g2=>?_
 have k2:=qA u2 (by omega) g1
 have e1:qg 2 (.pointer (some ⟨m.next,0,none⟩)) (.agg [.int .i64 0,.int .i64 0].toArray) m2=some (m2.put m.next tbZ):=xO k2 rfl rfl rfl
 have e2:qm 2 (.pointer (some ⟨m.next,0,none⟩)) (m2.put m.next tbZ)=some (.agg [.int .i64 0,.int .i64 0].toArray):=zu (Mem.qi ..) rfl
 simp -implicitDefEqProofs only [st0,qb,reduceIte,qgJ,e1,e2]
 exact ⟨rfl,(u1.qz u2).kr _ (.inr (Nat.le_refl _))⟩
theorem VP (h:TR x T m) {a b:List Tab1} {q:Tab1} (he:x.ts=a++q::b):W (Call S tab 43 [x.v,str q.nm] m) fun r m'=>r=.tuple #[tbV q.root q.l.length,.int .i64 0]∧Upd [] m m':=by
 have d0:decide ((0:Int)=0)=true:=rfl
 have hs:=kt (by rw [← he]; exact h.mo.nodup)
 have u1:Upd [] m (m.add tbZ):=Upd.add _ _ _
 have g1:(m.add tbZ).get m.next=some (tbB 0 0):=Mem.qh ..
 have n1:(m.add tbZ).next=m.next+1:=rfl
 rw [C43]
 simp -implicitDefEqProofs only [st0,qb,reduceIte]
 generalize (m.add tbZ)=m1 at u1 g1 n1
 have h1:=h.qx u1
 have tg:=h1.tg
 rw [he] at tg
 simp -implicitDefEqProofs only [st0,qb,reduceIte,vE h1,d0,nck,fa,h1.ld2,WH tg hs.1,xt0,xt1]
 refine ZZ fun m2 u2 n2 g2=>?_
 have k2:=qA u2 (by omega) g1
 simp -implicitDefEqProofs only [st0,qb,reduceIte,qcH g2,qgZ k2,qcH (Mem.qi m2 m.next _)]
 exact ⟨trivial,(u1.qz u2).kr _ (.inr (Nat.le_refl _))⟩
theorem qdP (h:TR x T m) (hn:∀ t∈x.ts,t.nm≠nm):W (Call S tab 46 [x.v,str nm] m) fun r m'=>r=.tuple #[.int .i64 0,.int .i64 7]∧Upd [] m m':=by
 rw [C46]
 refine qo.2 ((qcF h hn).mono fun r1 m1 ⟨e,u1⟩=>?_)
 subst e
 simp -implicitDefEqProofs only [st0,qb,reduceIte,xt0,xt1]
 refine ZZ (r:=0) (n:=0) fun m2 u2 n2 g2=>?_
 simp -implicitDefEqProofs only [st0,qb,reduceIte,fa,qia g2]
 exact ⟨rfl,u1.qz u2⟩
theorem TR.ndq (h:TR x T m) {q:Tab1} (hq:q∈x.ts):q.U.Nodup:=(List.pairwise_flatMap.1 h.nd).1 q hq
theorem qeA (h:TR x T m) {a b:List Tab1} {q:Tab1} (he:x.ts=a++q::b) (key:Bs):W (Call S tab 50 [x.v,str q.nm,str key] m) fun r m'=>r=.tuple #[str (VK q.l key),.bool (zJ q.l key),.int .i64 0]∧Upd [] m m':=by
 have d0:decide ((0:Int)=0)=true:=rfl
 have hq:q∈x.ts:=by rw [he]; simp
 rw [C50]
 refine qo.2 ((VP h he).mono fun r1 m1 ⟨e,u1⟩=>?_)
 subst e
 simp -implicitDefEqProofs only [st0,qb,reduceIte,xt0,xt1]
 refine ZZ fun m2 u2 n2 g2=>?_
 have h2:=(h.qx u1).qx u2
 simp -implicitDefEqProofs only [st0,qb,reduceIte,d0,nck,fa,h2.ld1,qha g2]
 refine qo.2 ((qhp h2.wi.wr (h2.tr q hq) (h2.ndq hq) key).mono fun r3 m3 ⟨e,u3⟩=>?_)
 subst e
 simp -implicitDefEqProofs only [st0,qb,reduceIte,(ex3 _ _ _).1,(ex3 _ _ _).2.1,(ex3 _ _ _).2.2]
 exact ⟨trivial,(u1.qz u2).qz u3⟩
theorem qcC (h:TR x T m) {a b:List Tab1} {q:Tab1} (he:x.ts=a++q::b) (s t:Bs):W (Call S tab 14 [x.v,str q.nm,str s,str t] m) fun r m'=>∃ v,r=.tuple #[v,.int .i64 0]∧TAp qN 81 m' v (zU q.l s t)∧(∀ c∈qf v,m.next≤c)∧Upd [] m m':=by
 have d0:decide ((0:Int)=0)=true:=rfl
 have hq:q∈x.ts:=by rw [he]; simp
 rw [C14]
 refine qo.2 ((VP h he).mono fun r1 m1 ⟨e,u1⟩=>?_)
 subst e
 simp -implicitDefEqProofs only [st0,qb,reduceIte,xt0,xt1]
 refine ZZ fun m2 u2 n2 g2=>?_
 have h2:=(h.qx u1).qx u2
 have hn1:=u1.next
 simp -implicitDefEqProofs only [st0,qb,reduceIte,d0,nck,fa,h2.ld1,qha g2]
 refine qo.2 ((qeH h2.wi.wr (h2.tr q hq) (h2.ndq hq) s t).mono fun r3 m3 ⟨v,e,tv,vb,u3⟩=>?_)
 subst e
 simp -implicitDefEqProofs only [st0,qb,reduceIte,xt0,xt1]
 exact ⟨v,rfl,tv,fun c hc=>by have:=vb c hc; omega,(u1.qz u2).qz u3⟩
theorem qfO:∀ ts:List Tab1,Zo (esT ts)=some (ts.map (·.nm))
 | []=>rfl
 | t::ts=>by
  have:=qfO ts
  simp only [esT,List.map_cons,Zo,enT] at this ⊢
  rw [this]
theorem QM {α:Type} {eq:α→α→Bool} (he:∀ a b,eq a b=true↔a=b):∀ l:List α,l.Nodup→wx eq l=true
 | [],_=>rfl
 | x::r,h=>by
  obtain ⟨h1,h2⟩:=List.nodup_cons.1 h
  simp only [wx,Bool.and_eq_true,List.all_eq_true,Bool.not_eq_true']
  refine ⟨fun y hy=>?_,QM he r h2⟩
  cases hc:eq x y with
  | false=>rfl
  | true=>rw [(he x y).1 hc] at h1; exact absurd hy h1
theorem Jt (h:TR x T m):W (Call S tab 12 [x.v] m) fun r m'=>TAp encS 9 m' r (T.map (·.1))∧(∀ b∈qf r,m.next≤b)∧Upd [] m m':=by
 have d0:decide ((0:Int)=0)=true:=rfl
 have u1:Upd [] m (m.add ⟨.cells [.map (some x.tm)] 91,false,none⟩):=Upd.add _ _ _
 have g1:(m.add ⟨.cells [.map (some x.tm)] 91,false,none⟩).get m.next=some ⟨.cells [.map (some x.tm)] 91,false,none⟩:=Mem.qh ..
 have n1:(m.add ⟨.cells [.map (some x.tm)] 91,false,none⟩).next=m.next+1:=rfl
 have hk:Call S tab 39 [.map (some x.tm)] m=some (.func (.func 76) #[] #[.pointer (some ⟨m.next,0,none⟩)],m.add ⟨.cells [.map (some x.tm)] 91,false,none⟩):=by
  rw [C39]; rfl
 rw [C12]
 simp -implicitDefEqProofs only [st0,qb,reduceIte,vE h,d0,nck,fa,h.ld2,hk]
 generalize (m.add ⟨.cells [.map (some x.tm)] 91,false,none⟩)=m1 at u1 g1 n1
 have h1:=h.qx u1
 have hl:=h1.mo.len
 have hl12:=h1.va.len
 have hks:=qfO x.ts
 have hall:(x.ts.map (·.nm)).all (fun k=>Nat.ble k.length 1000000)=true:=by
  rw [List.all_eq_true]
  intro k hk
  have hk':=h1.mo.names.mem_iff.1 hk
  obtain ⟨t,ht,rfl⟩:=List.mem_map.1 hk'
  have:=(vw (h1.va.right t ht)).2
  rw [Nat.ble_eq]; omega
 have hnd:=QM qav _ h1.mo.nodup
 have hcond:True∧(esT x.ts).length≤1000000∧(x.ts.map (·.nm)).all (fun k=>Nat.ble k.length 1000000)=true∧kW (esT x.ts) x.K=true∧wx eqB (x.ts.map (·.nm))=true :=
  ⟨trivial,by simp [esT]; omega,hall,h1.bo,hnd⟩
 have key:W (Call S tab 38 [.func (.func 76) #[] #[.pointer (some ⟨m.next,0,none⟩)]] m1) fun r m'=>TAp encS 9 m' r (T.map (·.1))∧(∀ b∈qf r,m.next≤b)∧Upd [] m1 m':=by
  cases hts:x.ts.map (·.nm) with
  | nil =>
   refine W.of_eq (yO (r:=(.slice none 0 0,m1)) ?_) (zs.2 ?_)
   ·show yN [.func (.func 76) #[] #[.pointer (some ⟨m.next,0,none⟩)]] m1=_
    simp only [yN,g1,h1.tg,hks]
    rw [if_pos hcond,hts]
   ·have:T.map (·.1)=[]:=by have:=h1.mo.sorted; rw [hts] at this; exact this.symm
    rw [this]
    exact ⟨TAp.nil _,fun b hb=>by simp [qf] at hb,Upd.refl _ _⟩
  | cons k r =>
   refine W.of_eq (yO (r:=(.slice (some ⟨m1.next,0,none⟩) (k::r).length (k::r).length,m1.add ⟨.cells ((wh leb (k::r)).map qhb) 9,false,some 1⟩)) ?_) (zs.2 ?_)
   ·show yN [.func (.func 76) #[] #[.pointer (some ⟨m.next,0,none⟩)]] m1=_
    simp only [yN,g1,h1.tg,hks]
    rw [if_pos hcond,hts]
   ·have hso:wh leb (k::r)=T.map (·.1):=by have:=h1.mo.sorted; rwa [hts] at this
    have hlen:(k::r).length=(T.map (·.1)).length:=by rw [← hso]; exact (Ha _).symm
    rw [hso,hlen]
    have hfl:(T.map (·.1)).map qhb=encS.flat (T.map (·.1)):=by
     generalize T.map (·.1)=l
     induction l with
     | nil=>rfl
     | cons a l ih=>rw [List.map_cons,ih]; rfl
    refine ⟨.inr ⟨m1.next,_,[],some 1,rfl,by simp,?_,.inr rfl,by simp,Nat.le_refl _⟩,fun b hb=>by simp [qf] at hb; omega,Upd.add _ _ _⟩
    rw [List.append_nil,hfl]; exact Mem.qh ..
 refine qo.2 (key.mono fun r m2 ⟨k1,k2,k3⟩=>?_)
 exact zs.2 ⟨k1,k2,u1.qz k3⟩
end
end Go.Fx.Tryz
