/- Parts of a proof: TreeRe, TreeSh, TreeDo, TreePu, TreeGe, TreeDr. Conditions: none. -/
import Derived.Test.YtnngjdfadfblmaaGreatDoorQt21
set_option linter.unusedSimpArgs false
set_option linter.unusedVariables false
namespace Go.Fx.Tryz
open Go Go.Fx
def qdI (x:Wx) (m:Mem) (N h page:Nat) (lo:Bs) (hi:Option Bs) (l:List Pr) (U:List Nat) (r:Value) (m':Mem):Prop :=
 ∃ r1 b,r=.tuple #[r1,.bool b]∧((4≤l.length∧∃ x',XR x' m'∧Kin x x'∧x'.err=8∧Upd x.fp m m') ∨
  (b=true∧∃ x' ps U',XR x' m'∧Kin x x'∧x'.err=0∧x'.rd≤x.rd+N∧Fu x'.o∧RSl m.next zL m' r1 ps∧Pts x'.o.s (Tw x'.o.s h) h page lo hi ps l U'∧Stp x.o.s x'.o.s U U'∧U'.Nodup∧Upd x.fp m m'))
theorem qdI.from {x x1:Wx} {m m1:Mem} {N N1 h page:Nat} {lo:Bs} {hi:Option Bs} {l:List Pr} {U U1:List Nat} {r:Value} {m':Mem} (hq:qdI x1 m1 N1 h page lo hi l U1 r m') (hk:Kin x x1) (hu:Upd x.fp m m1) (hs:Stp x.o.s x1.o.s U U1) (hN:x1.rd+N1≤x.rd+N):qdI x m N h page lo hi l U r m':=by
 obtain ⟨r1,b,e,hq⟩:=hq
 have hn:=hu.next
 refine ⟨r1,b,e,hq.imp (fun ⟨h4,x',a1,a2,a3,a4⟩=>⟨h4,x',a1,hk.trans a2,a3,by rw [hk.fp] at a4; exact hu.trans a4⟩) fun ⟨hb,x',ps,U',a1,a2,a3,a4,a5,a6,a7,a8,a9,a10⟩=>⟨hb,x',ps,U',a1,hk.trans a2,a3,by omega,a5,a6.low hn,a7,hs.trans a8,a9,by rw [hk.fp] at a10; exact hu.trans a10⟩⟩
section
variable {x:Wx} {m:Mem}
theorem HP {lo0 b h page:Nat} {sp sk si:Value} {n:Nd} {lo:Bs} {hi:Option Bs} {l:List Pr} {U:List Nat} (hx:XR x m) (he:x.err=0) (hf:Fu x.o) (g:m.get b=some (qh false sp sk si)) (ht:TN lo0 m (jM false sp sk si) n) (hr:qO n=true) (hw:wtN n) (hn:Nt x.o.s h n lo hi l U) (hp:x.o.s page≠none) (hpU:page∉U) (hnd:U.Nodup) :
  W (qap x.v (.int .i64 (page:Int)) (.pointer (some ⟨b,0,none⟩)) m) (qdI x m 0 h page lo hi l (page::U)):=by
 have e:=xok hx
 rw [decide_eq_true he] at e
 rw [P59_0_eq]
 simp -implicitDefEqProofs only [st0,qc,reduceIte,e,qF g]
 refine qo.2 ((hZ hx he hf hp ht hr hw hn hpU hnd).mono fun r4 m4 hq=>?_)
 simp -implicitDefEqProofs only [st0,qc,reduceIte]
 rcases hq with ⟨a1,x',a2,a3,a4,a5⟩|⟨x',ps,S',a1,a2,a3,a4,a5,a6,a7,a8,a9,a10⟩
 ·exact ⟨_,_,rfl,.inl ⟨qdx hn hr a1,x',a2,a3,a4,a5⟩⟩
 ·exact ⟨_,_,rfl,.inr ⟨rfl,x',ps,S',a1,a2,a3,by omega,a5,a6,(ZF a7).1,a8,a9,a10⟩⟩
end
set_option maxRecDepth 4000 in
theorem qeb {key:Bs}:∀ (h:Nat) (x:Wx) (m:Mem) (page left:Nat) (lo:Bs) (hi:Option Bs) (l:List Pr) (U:List Nat),XR x m→x.err=0→x.rd+4 * (h+1)≤1000→Fu x.o→h<left→left≤40 →
  Tr x.o.s h page lo hi l U→U.Nodup→inR lo hi key→zo l key=true→W (Call S tab 59 [x.v,.int .i64 (page:Int),.int .i64 (left:Int),str key] m) (qdI x m (4 * (h+1)) h page lo hi (xA l key) U):=by
 intro h
 induction h with
 | zero =>
  intro x m page left lo hi l U hx he hrd hf hle hl40 ht hnd hin hth
  obtain ⟨n,U',hp,hn,hnt,rfl⟩:=zO.1 ht
  have hnt0:n=Nd.lf l∧(∀ x∈l,inR lo hi x.1)∧U'=[]:=hnt
  obtain ⟨rfl,hl,rfl⟩:=hnt0
  obtain ⟨hh,hlk⟩:=hp.here
  have hlt:=xu hh
  have hP:=hx.wr.hP
  rw [C59]
  refine qo.2 ((vA hx he (by omega) (by omega) (by omega) hh hlk hp.rt hp.sz).mono fun v1 m1 ⟨t1,h1,u1⟩=>?_)
  have x1:=u1.next
  have hT:=t1
  obtain ⟨sp,sk,si,rfl,q1,q2,q3⟩:=t1.ex
  simp -implicitDefEqProofs only [st0,qc,reduceIte]
  refine xR (c:=[.bool (Nd.lf l).leaf,sp,sk,si]) rfl rfl (by simp [q1.one.2,q2.one.2,q3.one.2,show (Value.bool (Nd.lf l).leaf).oneCell'=true from rfl]) fun m2 b2 u2 n2=>?_
  have h2:=h1.qt u2
  have T2:=hT.qt u2
  have x2:=u2.next
  have e5:=xok h2
  rw [decide_eq_true (show ({ x with rd:=x.rd+1 }:Wx).err=0 from he)] at e5
  have hlf:(Nd.lf l).leaf=true:=rfl
  rw [hlf] at b2
  simp -implicitDefEqProofs only [st0,qc,reduceIte,e5,fa,qG b2 (o:=0+0) rfl,qF b2]
  obtain ⟨_,_,r1,v1⟩:=xF hp.rt rfl
  have hrow:rowP l:=⟨r1,fun p hp=>(v1 p hp).2.2⟩
  obtain ⟨w1,w2,w3,w4⟩:=qdt (key:=key) hrow
  have hsz:2+(l.map qK).sum≤256:=hp.sz
  refine qo.2 ((ZJ key T2 (ko hp.rt hp.sz)).mono fun v3 m3 ⟨r3,u3⟩=>?_)
  subst r3
  have hth':zo (Nd.lf l).pairs key=true:=hth
  rw [hth']
  have b3:=qA u3 (by omega) b2
  have x3:=u3.next
  simp -implicitDefEqProofs only [st0,qc,reduceIte,xt0,xt1,qF b3]
  refine qo.2 ((qds key (T2.qt u3) (ko hp.rt hp.sz) (by omega)).mono fun v4 m4 ⟨⟨sp',r4,t4,k4⟩,u4⟩=>?_)
  subst r4
  have t4:TIn qJ 61 m4 sp' (xA l key):=t4
  have x4:=u4.next
  have T4:TN m3.next m4 (jM true sp' (.slice none 0 0) (.slice none 0 0)) (Nd.lf (xA l key)):=⟨_,_,_,rfl,t4.1.rsl k4,RSl.nil _ _ _,RSl.nil _ _ _⟩
  have h4:=(h2.qt u3).qt u4
  have hnt4:Nt x.o.s 0 (Nd.lf (xA l key)) lo hi (xA l key) []:=⟨rfl,fun y hy=>hl y (w2 y hy),rfl⟩
  have hr4:=kT w1.1 w1.2
  have u04:Upd x.fp m m4:=(((u1.mono (fun b hb _=>by simp at hb; simp [Wx.fp,hb])).qD u2).qD u3).qD u4
  refine qo.2 ((hZ h4 he hf (by rw [show ({ x with rd:=x.rd+1 }:Wx).o=x.o from rfl,hp.pg]; simp) T4 hr4 (by show ((xA l key).map qK).sum≤344; omega) hnt4 (by simp) (by simp)).mono fun r5 m5 hq=>?_)
  simp -implicitDefEqProofs only [st0,qc,reduceIte]
  rcases hq with ⟨a1,x',a2,a3,a4,a5⟩|⟨x',ps,S',a1,a2,a3,a4,a5,a6,a7,a8,a9,a10⟩
  ·exact ⟨_,_,rfl,.inl ⟨qdx hnt4 hr4 a1,x',a2,⟨a3.w,a3.pm,a3.c,a3.p,a3.P,a3.nt,a3.hd,a3.xb,a3.rest,a3.t⟩,a4,u04.trans a5⟩⟩
  ·refine ⟨_,_,rfl,.inr ⟨rfl,x',ps,S',a1,⟨a2.w,a2.pm,a2.c,a2.p,a2.P,a2.nt,a2.hd,a2.xb,a2.rest,a2.t⟩,a3,?_,a5,a6.low (by omega),(ZF a7).1,a8,a9,u04.trans a10⟩⟩
   rw [a4]; show x.rd+1≤x.rd+4 * (0+1); omega
 | succ h ih =>
  intro x m page left lo hi l U hx he hrd hf hle hl40 ht hnd hin hth
  obtain ⟨n,U',hp,hn,hnt,rfl⟩:=zO.1 ht
  obtain ⟨ks,ps,rfl,hks,hfo⟩:=hnt
  have hne:ks≠[]:=by simpa [neN,Nd.nd] using hn
  obtain ⟨hh,hlk⟩:=hp.here
  have hlt:=xu hh
  have hP:=hx.wr.hP
  have fpl:=hx.XI
  obtain ⟨_,i1,r1,v1,p1⟩:=zd hp.rt rfl
  have i1:ps.length=ks.length+1:=i1
  have r1:qH ks=true:=r1
  have p1:∀ k∈ps,1≤k∧k≤65535:=p1
  have hcl:=(vk key ks r1).2.2
  obtain ⟨p,lo',hi',l0,l1,l2,S0,S1,S2,e1,e2,e3,e4,e5,e6,e7,e8,e9⟩:=Hu (yP x.o.s h) hfo r1 hks hin
  subst e5 e6
  have ecl:∀ y∈l2,ltB y.1 key=false∧y.1≠key:=fun y hy=>⟨xd (e9 y hy),(XB (e9 y hy)).symm⟩
  rw [wT e8 ecl] at hth
  have ecut:xA (l0++(l1++l2)) key=l0++(xA l1 key++l2):=Vf e8 ecl
  rw [ecut]
  rw [C59]
  refine qo.2 ((vA hx he (by omega) (by omega) (by omega) hh hlk hp.rt hp.sz).mono fun v1 m1 ⟨t1,h1,u1⟩=>?_)
  have x1:=u1.next
  have hT:=t1
  obtain ⟨sp,sk,si,rfl,q1,q2,q3⟩:=t1.ex
  have q3:RSl m.next zG m1 si ps:=q3
  simp -implicitDefEqProofs only [st0,qc,reduceIte]
  refine xR (c:=[.bool (Nd.nd ks ps).leaf,sp,sk,si]) rfl rfl (by simp [q1.one.2,q2.one.2,q3.one.2,show (Value.bool (Nd.nd ks ps).leaf).oneCell'=true from rfl]) fun m2 b2 u2 n2=>?_
  have h2:=h1.qt u2
  have T2:=hT.qt u2
  have z5:=xok h2
  rw [decide_eq_true (show ({ x with rd:=x.rd+1 }:Wx).err=0 from he)] at z5
  have hlf:(Nd.nd ks ps).leaf=false:=rfl
  rw [hlf] at b2
  simp -implicitDefEqProofs only [st0,qc,reduceIte,z5,fa,qG b2 (o:=0+0) rfl,qF b2]
  refine qo.2 ((XO key T2 (ko hp.rt hp.sz)).mono fun v3 m3 ⟨r3,u3⟩=>?_)
  subst r3
  have x3:=u3.next
  have h3:=h2.qt u3
  have b3:=qA u3 (by omega) b2
  have q33:=(q3.qt u2).qt u3
  have hget:ps[zJ ks key]? = some p:=by
   have:=congrArg (fun t:List Nat=>t[zJ ks key]?) e1
   rw [this,List.getElem?_append_right (by rw [List.length_take]; omega),List.length_take,Nat.min_eq_left (by omega),Nat.sub_self]; rfl
  obtain ⟨pk,y1,y2⟩:=XG q33 hget
  have y2:=y2 m3 q33
  have esub:arith .sub (.int .i64 (left:Int)) (.int .i64 1)=some (.int .i64 ((left - 1:Nat):Int)):=by rw [zS (by omega) (by omega)]; congr 2; omega
  have y1':ql 1 si (.int .i64 ((zJ (Nd.nd ks ps).keys key:Nat):Int))=some pk:=y1
  simp -implicitDefEqProofs only [st0,qc,reduceIte,fa,qG b3 (o:=0+3) rfl,y1',y2,esub]
  have u03:Upd x.fp m m3:=((u1.mono (fun b hb _=>by simp at hb; simp [Wx.fp,hb])).qD u2).qD u3
  rw [List.nodup_cons] at hnd
  obtain ⟨hpU,hndU⟩:=hnd
  obtain ⟨nd1,nd2⟩:=JC hndU
  refine qo.2 ((ih { x with rd:=x.rd+1 } m3 p (left - 1) lo' hi' l1 S1 h3 he (by show x.rd+1+4 * (h+1)≤1000; omega) hf (by omega) (by omega) e3 nd1 e7 hth).mono fun v4 m4 hq=>?_)
  obtain ⟨r1',bb,rfl,hq⟩:=hq
  rcases hq with ⟨a0,x',a1,a2,a3,a4⟩|⟨rfl,x',pts,S1',a1,a2,a3,a4,a5,a6,a7,a8,a9,a10⟩
  ·have z6:=xok a1
   rw [decide_eq_false (show ¬ x'.err=0 by omega),a2.v] at z6
   have f1:=yK [] page
   rw [← vQ] at f1
   have f2:qy [.string ⟨#[]⟩,.int .i64 0] [(0,2,.agg [.string ⟨#[]⟩,.int .i64 (page:Int)].toArray)]=some (zL.flat [([],page)]):=by kernel_rfl
   simp -implicitDefEqProofs only [st0,qc,reduceIte,xt0,xt1,z6,f1,f2]
   exact ⟨_,_,rfl,.inl ⟨by simp only [List.length_append]; omega,x',a1.qt (Upd.add _ _ _),⟨a2.w,a2.pm,a2.c,a2.p,a2.P,a2.nt,a2.hd,a2.xb,a2.rest,a2.t⟩,a3,(u03.trans a4).qbX _⟩⟩
  ·have z6:=xok a1
   rw [decide_eq_true a3,a2.v] at z6
   have a2':Kin x x':=⟨a2.w,a2.pm,a2.c,a2.p,a2.P,a2.nt,a2.hd,a2.xb,a2.rest,a2.t⟩
   have a4:x'.rd≤x.rd+1+4 * (h+1):=a4
   have a8:Stp x.o.s x'.o.s S1 S1':=a8
   have a10:Upd x.fp m3 m4:=a10
   have x4:=a10.next
   have b4:m4.get m1.next=_:=(a10.same _ (by omega) (fun hm=>by have:=fpl _ hm; omega)).trans b3
   have T4:=((T2.qt u3).upd a10 (fun b hb=>fpl b hb))
   have hkp:=wJ hp.rt hp.sz
   have hu:∀ q∈page::(S0++(S1++S2)),x.o.s q≠none:=vy x.o.s (h+1) page lo hi _ _ ht
   have hkeep:∀ q∈S0++S2,x'.o.s q=x.o.s q∧q∉S1':=fun q hq=>a8.zF (nd2 q hq) (hu q (by
    simp only [List.mem_cons,List.mem_append] at hq ⊢
    rcases hq with h|h<;>simp [h]))
   have hpk:=a8.zF (q:=page) (fun h=>hpU (by simp [h])) (hu page (by simp))
   have hpu':x'.o.s page≠none:=by rw [hpk.1]; exact hu page (by simp)
   have hnd':(S0++(S1'++S2)).Nodup:=yb hndU a9 (fun q hq=>(hkeep q hq).2)
   have hpS:page∉S0++(S1'++S2):=by
    simp only [List.mem_append,not_or] at hpU ⊢
    exact ⟨hpU.1,hpk.2,hpU.2.2⟩
   have hst:Stp x.o.s x'.o.s (page::(S0++(S1++S2))) (page::(S0++(S1'++S2))):=a8.ctx (T:=page::(S0++S2)) (fun q=>by simp only [List.mem_cons,List.mem_append]; grind) (fun q=>by simp only [List.mem_cons,List.mem_append]; grind)
   have hev:x.v=x'.v:=a2.v.symm
   simp -implicitDefEqProofs only [st0,qc,reduceIte,xt0,xt1,z6,qF b4]
   have hpl:pts.length≤2:=by
    rcases a7 with ⟨rfl,_⟩|⟨k,q,la,lb,Sa,Sb,rfl,_⟩<;>simp
   refine qo.2 ((Ke (k:=zJ ks key) T4 (a6.low (lo':=m.next) (by omega)) hpl (by omega) hkp.1 hkp.2).mono fun v5 m5 ⟨t5,u5⟩=>?_)
   have x5:=u5.next
   have h5:=a1.qt u5
   have b5:=qA u5 (by omega) b4
   have u05:Upd x.fp m m5:=(u03.trans a10).qD u5
   have a65:=a6.qt u5
   have T5:=t5
   obtain ⟨sp5,sk5,si5,rfl,g1,g2,g3⟩:=t5.ex
   have hlf5:(kF (Nd.nd ks ps) (zJ ks key) pts).leaf=false:=rfl
   rw [hlf5] at T5 ⊢
   simp -implicitDefEqProofs only [st0,qc,reduceIte,qX b5 false g1.one.2 g2.one.2 g3.one.2,qY a65]
   have u6:Upd [m1.next] m5 (m5.put m1.next (qh false sp5 sk5 si5)):=Upd.put _ _ (by simp)
   have b6:(m5.put m1.next (qh false sp5 sk5 si5)).get m1.next=_:=Mem.qj ..
   have n6:(m5.put m1.next (qh false sp5 sk5 si5)).next=m5.next:=rfl
   generalize (m5.put m1.next (qh false sp5 sk5 si5))=m6 at u6 b6 n6
   have T6:=T5.upd u6 (fun b hb=>by simp at hb; omega)
   have nf:∀ {b:Nat},m.next≤b→b∉x.fp:=fun hb hm=>by have:=fpl _ hm; omega
   have hcc:=hx.wr.lc
   have hcp:=hx.wr.lp
   have kb:∀ {M M':Mem} {y:Wx},Kin x y→XR y M→Upd [m1.next] M M'→XR y M':=fun ky hy hu=>hy.upd hu fun b hb=>by
    simp at hb; subst hb
    have w1:=nf (b:=m1.next) (by omega)
    simp only [Wx.fp,List.mem_cons,List.not_mem_nil,or_false,not_or] at w1
    rw [ky.xb,ky.w,ky.pm,ky.c,ky.p]
    exact ⟨w1.2.2,w1.1,w1.2.1,by omega,by omega⟩
   have h6:=kb a2' h5 u6
   have u06:Upd x.fp m m6:=u05.then' u6 (fun b hb=>.inr (by simp at hb; omega))
   rcases a7 with ⟨rfl,nk,Sk,c1,c2,rfl⟩|⟨k,q,la,lb,Sa,Sb,rfl,c1,c2,c3,c4,c5,rfl,c6⟩
   ·have ew:=qfo e1 hcl i1
    have el1:decide ((([([],p)]:List Pt).length:Int)=1)=true:=rfl
    rw [ew] at T6
    simp -implicitDefEqProofs only [st0,qc,reduceIte,el1,qF b6,esub]
    have f0:=QA (R':=Tr x'.o.s h) _ _ _ _ _ _ (fun p lo hi l T hT ht=>xB h p lo hi l T (fun q hq=>(hkeep q (List.mem_append.2 (.inl (hT q hq)))).1) ht) e2
    have f2:=ZL (R':=Tr x'.o.s h) (fun p lo hi l T hT ht=>xB h p lo hi l T (fun q hq=>(hkeep q (List.mem_append.2 (.inr (hT q hq)))).1) ht) e4
    rw [hev]
    have fpl':∀ b∈x.fp,b<m4.next:=fun b hb=>by have:=fpl b hb; omega
    refine qo.2 ((qhl (lo0:=m4.next) (h:=h) h6 a3 a5 (by omega) (by omega) (by rw [a2'.fp]; exact fpl') (by rw [a2'.c,a2'.p]; exact ⟨by omega,by omega⟩) (by omega) T6 hp.rt hp.sz hks hne hcl e1 f0 c1 c2 f2 hnd').mono fun v7 m7 hq=>?_)
    obtain ⟨x7,n7,U7,d1,d2,d3,d4,d5,d6,d7,d8,d9,d10,d11,d12⟩:=hq
    rw [a2'.fp] at d12
    have x7':=d12.next
    have b7:=(d12.same m1.next (by omega) (nf (by omega))).trans b6
    have k7:=a2'.trans d2
    have hU7:=d10.zF hpS hpu'
    have T7:=d6
    have hn7:=d9
    obtain ⟨kk7,pp7,hn7,_⟩:=hn7
    obtain ⟨sp7,sk7,si7,rfl,g4,g5,g6⟩:=d6.ex
    have hlf7:n7.leaf=false:=by rw [hn7]; rfl
    rw [hlf7] at T7 ⊢
    simp -implicitDefEqProofs only [st0,qc,reduceIte,qX b7 false g4.one.2 g5.one.2 g6.one.2]
    have u8:Upd [m1.next] m7 (m7.put m1.next (qh false sp7 sk7 si7)):=Upd.put _ _ (by simp)
    have b8:(m7.put m1.next (qh false sp7 sk7 si7)).get m1.next=_:=Mem.qj ..
    generalize (m7.put m1.next (qh false sp7 sk7 si7))=m8 at u8 b8
    have T8:=T7.upd u8 (fun b hb=>by simp at hb; omega)
    have h8:=kb k7 d1 u8
    have hev7:x'.v=x7.v:=d2.v.symm
    rw [hev7]
    have u08:Upd x.fp m m8:=(u06.trans d12).then' u8 (fun b hb=>.inr (by simp at hb; omega))
    refine (HP h8 d3 d5 b8 T8 d7 d8 d9 (by rw [hU7.1]; exact hpu') hU7.2 d11).mono fun r m' hq=>hq.from k7 u08 (hst.trans (d10.ctx (T:=[page]) (fun q=>by simp only [List.mem_cons,List.not_mem_nil,or_false]; exact or_comm) (fun q=>by simp only [List.mem_cons,List.not_mem_nil,or_false]; exact or_comm))) (by omega)
   ·have el2:decide ((([([],p),(k,q)]:List Pt).length:Int)=1)=false:=rfl
    obtain ⟨f1,f2,f3,f4⟩:=JI (s1:=x'.o.s) hp.rt hp.sz hks hne e1 hcl e2 e4 (fun q hq=>(hkeep q hq).1) (Qm a1.wr.hP) (.inr ⟨k,q,la,lb,Sa,Sb,rfl,c1,c2,c3,c4,c5,rfl,c6⟩)
    simp -implicitDefEqProofs only [st0,qc,reduceIte,el2]
    rw [hev]
    refine (HP h6 a3 a5 b6 T6 f2 f3 f1 hpu' hpS hnd').mono fun r m' hq=>hq.from a2' u06 hst (by omega)
end Go.Fx.Tryz
namespace Go.Fx.Tryz
open Go Go.Fx
def TrR (s:Nat→Option Bs) (root:Nat) (l:List Pr) (U:List Nat):Prop:=(root=0∧l=[]∧U=[])∨∃ h,Tr s h root [] none l U
section
variable {x:Wx} {m:Mem}
theorem qce (h:XR x m) (he:x.err≠0) (v:Value):Call S tab 60 [x.v,v] m=some (.int .i64 0,m):=by
 refine W_eq ?_
 have e1:=xok h
 rw [decide_eq_false he] at e1
 rw [C60]
 simp -implicitDefEqProofs only [st0,qc,reduceIte,e1]
 exact ⟨trivial,trivial⟩
theorem qer {k:Bs} {p q:Nat} (hk:k≠[]∧k.length≤32) (hp:1≤p∧p≤65535) (hq:1≤q∧q≤65535):qO (Nd.nd [k] [p,q])=true∧qV (Nd.nd [k] [p,q])≤256:=by
 refine ⟨kS rfl (by simp [qH,hk.1,hk.2]) (fun j hj=>?_),?_⟩
 ·simp only [List.mem_cons,List.not_mem_nil,or_false] at hj
  rcases hj with rfl|rfl<;>assumption
 ·show 4+(([k].map fun k=>3+k.length).sum)≤256
  simp; omega
theorem Jq {lo h page:Nat} {vp:Value} {ps:List Pt} {l:List Pr} {U:List Nat} {R:TP} (hx:XR x m) (he:x.err=0) (hf:Fu x.o) (hfp:∀ b∈x.fp,b<lo) (hv:RSl lo zL m vp ps) (hP:Pts x.o.s R h page [] none ps l U) (hnd:U.Nodup) :
  W (Call S tab 60 [x.v,vp] m) fun r m'=>(4≤l.length∧∃ x',XR x' m'∧Kin x x'∧x'.err=8∧Upd x.fp m m') ∨
   ∃ (x':Wx) (root:Nat) (U':List Nat),r=.int .i64 (root:Int)∧XR x' m'∧Kin x x'∧x'.err=0∧x'.rd=x.rd∧Fu x'.o∧Stp x.o.s x'.o.s U U'∧U'.Nodup∧Upd x.fp m m'∧((x'.o=x.o∧root=page∧U'=U∧R page [] none l U)∨Tr x'.o.s (h+1) root [] none l U'):=by
 have hP160:=hx.wr.hP
 have hu20:=hx.wr.hu
 rcases hP with ⟨rfl,hR⟩|⟨k,q,la,lb,Sa,Sb,rfl,a1,a2,a3,a4,rfl,rfl,h4⟩
 ·exact xI.2 (.inr ⟨x,page,U,rfl,hx,Kin.refl x,he,rfl,hf,Stp.refl _ _,hnd,Upd.refl _ _,.inl ⟨rfl,rfl,rfl,hR⟩⟩) |>.of_eq (qgx hx he hv)
 ·have hup:x.o.s page≠none∧∃ S',Sa=page::S':=by
   obtain ⟨n,S',hp,_,_,e⟩:=zO.1 a3
   exact ⟨by rw [hp.pg]; simp,S',e⟩
  have huq:x.o.s q≠none∧∃ S',Sb=q::S':=by
   obtain ⟨n,S',hp,_,_,e⟩:=zO.1 a4
   exact ⟨by rw [hp.pg]; simp,S',e⟩
  obtain ⟨r1,r2⟩:=qer (p:=page) (q:=q) a2 (Qm hP160 page hup.1) (Qm hP160 q huq.1)
  have sub1:∀ b,b∈[x.xb]→b∈x.fp:=fun b hb=>by simp at hb; simp [Wx.fp,hb]
  refine (qgw hx he hv (fun b hb=>by
   have h1:=(hv.2 b hb).1
   have f1:=hfp x.o.w (by simp [Wx.fp]); have f2:=hfp x.o.pm (by simp [Wx.fp]); have f3:=hfp x.xb (by simp [Wx.fp])
   exact ⟨by omega,by omega,by omega⟩) r1 r2).mono fun r m' hc=>?_
  rcases hc with ⟨h8,u8⟩|⟨n,c1,c2,y1,y2,y3,rfl,h8,u8⟩
  ·exact .inl ⟨h4,_,h8,⟨rfl,rfl,rfl,rfl,rfl,rfl,rfl,rfl,rfl,rfl⟩,rfl,u8.mono fun b hb _=>sub1 b hb⟩
  ·have hn0:x.o.s n=none:=YG y3
   have es1:=Wo.KC hu20 hP160 y1 y2 y3 (qq 256) c1
   have f1:=hf.take hu20 hP160 y1 y2 y3 (qq 256) c1
   have hh:Wo.has { x.o with u:=zZ x.o.u n,L:=upL x.o.L n (qq 256) c1 } n=true:=by
    apply Fu.some; rw [es1]; simp [zD]
   have es2:=Wo.kL hh (zx (Nd.nd [k] [page,q])) c2
   have f2:=f1.write hh (zx (Nd.nd [k] [page,q])) c2
   rw [es1] at es2
   have hout:∀ j,j≠n→zD (zD x.o.s n (some (qq 256))) n (some (zx (Nd.nd [k] [page,q]))) j=x.o.s j:=fun j hj=>by unfold zD; rw [if_neg hj,if_neg hj]
   have hnU:n∉Sa++Sb:=fun hm=>by
    rcases List.mem_append.1 hm with hm|hm
    ·exact vy _ _ _ _ _ _ _ a3 n hm hn0
    ·exact vy _ _ _ _ _ _ _ a4 n hm hn0
   have hfr:∀ j∈Sa++Sb,zD (zD x.o.s n (some (qq 256))) n (some (zx (Nd.nd [k] [page,q]))) j=x.o.s j:=fun j hj=>hout j (by rintro rfl; exact hnU hj)
   refine .inr ⟨_,n,n::(Sa++Sb),rfl,h8,Kin.o x ⟨rfl,rfl,rfl,rfl,rfl,rfl,rfl⟩,he,rfl,f2,?_,List.nodup_cons.2 ⟨hnU,hnd⟩,u8,.inr ?_⟩
   ·rw [es2]
    exact ⟨fun j h1 h2=>hout j (fun e=>h2 (by simp [e])),fun j hj=>(List.mem_cons.1 hj).elim (fun e=>.inr (by rw [e]; exact hn0)) .inl,fun j h1 h2=>absurd (List.mem_cons.2 (.inr h1)) h2⟩
   ·rw [es2]
    refine zO.2 ⟨_,_,⟨by simp [zD],r1,r2⟩,by simp [neN,Nd.nd],⟨[k],[page,q],rfl,fun j hj=>by simp at hj; subst hj; exact a1,la,Sa,lb,Sb,?_,?_,rfl,rfl⟩,rfl⟩
    ·exact xB h _ _ _ _ _ (fun j hj=>hfr j (List.mem_append.2 (.inl hj))) a3
    ·exact xB h _ _ _ _ _ (fun j hj=>hfr j (List.mem_append.2 (.inr hj))) a4
theorem VX {h root:Nat} {l:List Pr} {U:List Nat} (hx:XR x m) (he:x.err=0) (hf:Fu x.o) (hrd:x.rd<1000) (ht:Tw x.o.s h root [] none l U) (hnd:U.Nodup) :
  W (Call S tab 61 [x.v,.int .i64 (root:Int)] m) fun r m'=>∃ (x':Wx) (root':Nat) (U':List Nat),r=.int .i64 (root':Int)∧XR x' m'∧Kin x x'∧x'.err=0∧Fu x'.o∧TrR x'.o.s root' l U'∧Stp x.o.s x'.o.s U U'∧U'.Nodup∧Upd x.fp m m':=by
 obtain ⟨n,U',hp,hn,rfl⟩:=ht
 obtain ⟨hh,hlk⟩:=hp.here
 have hlt:=xu hh
 have hP:=hx.wr.hP
 have hu20:=hx.wr.hu
 have subx:∀ b,b∈[x.xb]→b∈x.fp:=fun b hb=>by simp at hb; simp [Wx.fp,hb]
 have sub2:∀ b,b∈[x.o.w,x.xb]→b∈x.fp:=fun b hb=>by simp only [List.mem_cons,List.not_mem_nil,or_false,Wx.fp] at hb ⊢; omega
 rw [List.nodup_cons] at hnd
 rw [C61]
 refine qo.2 ((vA (left:=40) hx he hrd (by omega) (by omega) hh hlk hp.rt hp.sz).mono fun v1 m1 ⟨t1,h1,u1⟩=>?_)
 have x1:=u1.next
 obtain ⟨sp,sk,si,rfl,q1,q2,q3⟩:=t1.ex
 simp -implicitDefEqProofs only [st0,qc,reduceIte]
 refine xR (c:=[.bool n.leaf,sp,sk,si]) rfl rfl (by simp [q1.one.2,q2.one.2,q3.one.2,show (Value.bool n.leaf).oneCell'=true from rfl]) fun m2 b2 u2 n2=>?_
 have h2:=h1.qt u2
 have e2:=xok h2
 rw [decide_eq_true (show ({ x with rd:=x.rd+1 }:Wx).err=0 from he)] at e2
 have u02:Upd x.fp m m2:=(u1.mono fun b hb _=>subx b hb).qD u2
 have es:=Wo.YH hu20 hP hh
 have ff:=hf.drop hu20 hP hh
 have hout:∀ j,j≠root→zD x.o.s root none j=x.o.s j:=fun j hj=>by unfold zD; rw [if_neg hj]
 have hst:Stp x.o.s (zD x.o.s root none) (root::U') U':=⟨fun j h1 h2=>hout j (fun e=>h1 (by simp [e])),fun j hj=>.inl (by simp [hj]),fun j h1 h2=>by
  rcases List.mem_cons.1 h1 with rfl|h1
  ·simp [zD]
  ·exact absurd h1 h2⟩
 cases h with
 | zero =>
  obtain ⟨rfl,hl,rfl⟩:=hn
  have hlf:(Nd.lf l).leaf=true:=rfl
  rw [hlf] at b2
  have q1':RSl m.next qJ m2 sp l:=q1.qt u2
  have ep:decide ((l.length:Int)=0)=l.isEmpty:=by cases l<;>simp; omega
  cases hem:l.isEmpty with
  | true =>
   rw [hem] at ep
   have hl0:=List.isEmpty_iff.1 hem
   simp -implicitDefEqProofs only [st0,qc,reduceIte,e2,fa,qG b2 (o:=0+0) rfl,qG b2 (o:=0+1) rfl,qY q1',ep]
   refine qo.2 ((qcg h2 he (by omega) hh).mono fun v3 m3 ⟨r3,h3,u3⟩=>?_)
   simp -implicitDefEqProofs only [st0,qc,reduceIte]
   refine ⟨_,0,[],rfl,h3,⟨rfl,rfl,rfl,rfl,rfl,rfl,rfl,rfl,rfl,rfl⟩,he,ff,.inl ⟨rfl,hl0,rfl⟩,?_,List.nodup_nil,u02.trans (u3.mono fun b hb _=>sub2 b hb)⟩
   rw [es]; exact hst
  | false =>
   rw [hem] at ep
   simp -implicitDefEqProofs only [st0,qc,reduceIte,e2,fa,qG b2 (o:=0+0) rfl,qG b2 (o:=0+1) rfl,qY q1',ep]
   refine ⟨_,root,_,rfl,h2,⟨rfl,rfl,rfl,rfl,rfl,rfl,rfl,rfl,rfl,rfl⟩,he,hf,.inr ⟨0,zO.2 ⟨_,_,hp,?_,⟨rfl,hl,rfl⟩,rfl⟩⟩,Stp.refl _ _,List.nodup_cons.2 hnd,u02⟩
   simp only [neN,Nd.lf,if_true]
   intro e; rw [e] at hem; cases hem
 | succ h =>
  obtain ⟨ks,ps,rfl,hks,hfo⟩:=hn
  have hlf:(Nd.nd ks ps).leaf=false:=rfl
  rw [hlf] at b2
  have q2':RSl m.next zi m2 sk ks:=q2.qt u2
  have q3':RSl m.next zG m2 si ps:=q3.qt u2
  have ep:decide ((ks.length:Int)=0)=ks.isEmpty:=by cases ks<;>simp; omega
  cases hem:ks.isEmpty with
  | true =>
   rw [hem] at ep
   have hl0:=List.isEmpty_iff.1 hem
   subst hl0
   have hps:∃ p,ps=[p]:=by
    match ps,hfo with
    | [p],_=>exact ⟨p,rfl⟩
   obtain ⟨p,rfl⟩:=hps
   have hfo:Tr x.o.s h p [] none l U':=hfo
   simp -implicitDefEqProofs only [st0,qc,reduceIte,e2,fa,qG b2 (o:=0+0) rfl,qG b2 (o:=0+2) rfl,qY q2',ep]
   refine qo.2 ((qcg h2 he (by omega) hh).mono fun v3 m3 ⟨r3,h3,u3⟩=>?_)
   have u3:Upd x.fp m2 m3:=u3.mono fun b hb _=>sub2 b hb
   have b3:m3.get m1.next=_:=(u3.same _ (by omega) (fun hm=>by have:=hx.XI _ hm; omega)).trans b2
   have q33:=q3'.upd u3 hx.XI
   obtain ⟨pk,i1,i2⟩:=XG q33 (i:=0) (p:=p) rfl
   have i1:ql 1 si (.int .i64 0)=some pk:=i1
   simp -implicitDefEqProofs only [st0,qc,reduceIte,fa,qG b3 (o:=0+3) rfl,i1,i2 m3 q33]
   refine ⟨_,p,U',rfl,h3,⟨rfl,rfl,rfl,rfl,rfl,rfl,rfl,rfl,rfl,rfl⟩,he,ff,.inr ⟨h,?_⟩,?_,hnd.2,u02.trans u3⟩
   ·rw [es]
    exact xB h _ _ _ _ _ (fun j hj=>hout j (by rintro rfl; exact hnd.1 hj)) hfo
   ·rw [es]; exact hst
  | false =>
   rw [hem] at ep
   simp -implicitDefEqProofs only [st0,qc,reduceIte,e2,fa,qG b2 (o:=0+0) rfl,qG b2 (o:=0+2) rfl,qY q2',ep]
   refine ⟨_,root,_,rfl,h2,⟨rfl,rfl,rfl,rfl,rfl,rfl,rfl,rfl,rfl,rfl⟩,he,hf,.inr ⟨h+1,zO.2 ⟨_,_,hp,?_,⟨ks,ps,rfl,hks,hfo⟩,rfl⟩⟩,Stp.refl _ _,List.nodup_cons.2 hnd,u02⟩
   simp only [neN,Nd.nd,Bool.false_eq_true,if_false]
   intro e; rw [e] at hem; cases hem
end
end Go.Fx.Tryz
namespace Go.Fx.Tryz
open Go Go.Fx
structure WI (o:Wo) (ns:List St) (m:Mem):Prop where
 wr:WR o m
 nt:TAp wM 104 m o.nt ns
 dj:∀ b∈qe o.nt,b≠o.w∧b≠o.pm∧b≠o.c∧b≠o.p
 fu:Fu o
def Wo.xY (o:Wo):List Nat:=o.w::o.pm::qe o.nt
theorem WI.upd {o:Wo} {ns:List St} {m m':Mem} {fp:List Nat} (h:WI o ns m) (hu:Upd fp m m') (hf:∀ b∈fp,b∉o.xY∧b≠o.c∧b≠o.p):WI o ns m':=by
 have k:∀ b∈fp,b≠o.w∧b≠o.pm∧b∉qe o.nt:=fun b hb=>by
  have:=(hf b hb).1
  simp only [Wo.xY,List.mem_cons,not_or] at this
  exact this
 exact ⟨h.wr.upd hu fun b hb=>⟨(k b hb).1,(k b hb).2.1,(hf b hb).2⟩,h.nt.upd hu fun b hb hm=>(k b hm).2.2 hb,h.dj,h.fu⟩
theorem WI.qt {o:Wo} {ns:List St} {m m':Mem} (h:WI o ns m) (hu:Upd [] m m'):WI o ns m':=h.upd hu fun b hb=>by cases hb
theorem WI.lt {o:Wo} {ns:List St} {m:Mem} (h:WI o ns m):∀ b∈o.xY,b<m.next:=fun b hb=>by
 rcases List.mem_cons.1 hb with rfl|hb
 ·exact h.wr.lw
 ·rcases List.mem_cons.1 hb with rfl|hb
  ·exact h.wr.lm
  ·exact h.nt.lt b hb
structure Nx (o o':Wo) (m m':Mem):Prop where
 w:o'.w=o.w
 c:o'.c=o.c
 p:o'.p=o.p
 P:o'.P=o.P
 upd:Upd o.xY m m'
 grow:∀ b∈o'.xY,b∈o.xY∨m.next≤b
theorem Nx.of0 {o:Wo} {m m':Mem} (h:Upd [] m m'):Nx o o m m':=⟨rfl,rfl,rfl,rfl,h.nil',fun b hb=>.inl hb⟩
theorem Nx.trans {o o' o'':Wo} {m m' m'':Mem} (h:Nx o o' m m') (k:Nx o' o'' m' m''):Nx o o'' m m'' :=
 ⟨k.w.trans h.w,k.c.trans h.c,k.p.trans h.p,k.P.trans h.P,h.upd.then' k.upd h.grow,fun b hb=>(k.grow b hb).elim (h.grow b) fun hb=>.inr (Nat.le_trans h.upd.next hb)⟩
theorem qgo (f:FuncId) (h:Nat.blt f yBase=true) (l:Array Value):kE (.func (.func f) #[] l)=some (f,[],l.toList):=by simp [kE,h]
theorem WE (w:Nat):qy [.pointer none,.int .i64 0,.int .i64 0] [(0,1,.pointer (some ⟨w,0,none⟩))]=some [.pointer (some ⟨w,0,none⟩),.int .i64 0,.int .i64 0]:=by kernel_rfl
abbrev x0 (o:Wo) (xb:Nat):Wx:=⟨o,xb,[],84,0,0⟩
theorem XR.begin {o:Wo} {m:Mem} (h:WR o m):XR (x0 o m.next) (m.add (x0 o m.next).blk):=by
 refine ⟨h.qt (Upd.add _ _ _),Mem.qk ..,by show m.next<m.next+1; omega,?_⟩
 have w1:=h.lw; have w2:=h.lm; have w3:=h.lc; have w4:=h.lp
 exact ⟨by show m.next≠o.w; omega,by show m.next≠o.pm; omega,by show m.next≠o.c; omega,by show m.next≠o.p; omega⟩
theorem qgn {o:Wo} {ns:List St} {m:Mem} (h:WI o ns m) (hnl:ns.length≤90000) {root:Value} {f:FuncId} (hfy:Nat.blt f yBase=true) {caps:Array Value} {E:Prop} {Q:Value→Wo→Prop}
  (hbody:∀ (x:Wx) (m1:Mem),XR x m1→x.err=0→x.rd=0→Fu x.o→x.o.s=o.s→x.o.P=o.P→x.o.u=o.u→Upd (o.w::qe o.nt) m m1→(∀ b∈x.fp,b∈o.xY∨m.next≤b) →
   W (Call S tab f (x.v::caps.toList) m1) fun r m2=>∃ x',XR x' m2∧Kin x x'∧Upd x.fp m1 m2∧((x'.err=8∧E)∨(x'.err=0∧Fu x'.o∧Q r x'.o))) :
  W (Call S tab 55 [.pointer (some ⟨o.w,0,none⟩),root,.func (.func f) #[] caps] m) fun r m'=>∃ o' ns',WI o' ns' m'∧Nx o o' m m'∧ns'.length=ns.length+1 ∧
   ((E∧r=.tuple #[root,.int .i64 8]∧o'.s=o.s)∨∃ v,r=.tuple #[v,.int .i64 0]∧Q v o'):=by
 have hw:=h.wr
 have w1:=hw.lw; have w2:=hw.lm; have w3:=hw.lc; have w4:=hw.lp
 rw [C55]
 simp -implicitDefEqProofs only [st0,qc,reduceIte,WE,qQ]
 have hxr:=XR.begin hw
 have u1:Upd [] m (m.add (x0 o m.next).blk):=Upd.add _ _ _
 have n1:(m.add (x0 o m.next).blk).next=m.next+1:=rfl
 have eblk:(⟨.cells [.pointer (some ⟨o.w,0,none⟩),.int .i64 0,.int .i64 0] 84,false,none⟩:ABlk)=(x0 o m.next).blk:=rfl
 rw [eblk]
 generalize (m.add (x0 o m.next).blk)=m1 at u1 n1 hxr
 refine qo.2 ((qem (hw.qt u1) (h.nt.qt u1) (by omega) h.dj).mono fun r2 m2 hq=>?_)
 obtain ⟨rfl,pm',nt',k,r2,t2,k2,d2,g2,l2,l2',u2⟩:=hq
 have x2:=u2.next
 have nin:m.next∉o.w::qe o.nt:=fun hm=>by
  rcases List.mem_cons.1 hm with e|e
  ·omega
  ·have:=h.nt.lt _ e; omega
 have hx2:XR (x0 { o with nt:=nt' } m.next) m2:=⟨r2,(u2.same m.next (by omega) nin).trans hxr.hx,by show m.next<m2.next; omega,hxr.ne⟩
 have hs2:Wo.s { o with nt:=nt' } = o.s:=rfl
 have hfu2:Fu { o with nt:=nt' }:=h.fu
 have u02:Upd (o.w::qe o.nt) m m2:=u1.nil'.trans u2
 have bnt:∀ b∈qe nt',b≠o.w∧b≠o.pm∧b≠o.c∧b≠o.p∧b≠m.next:=fun b hb=>by
  rcases k2 b hb with e|e
  ·have:=h.nt.lt b e; exact ⟨(h.dj b e).1,(h.dj b e).2.1,(h.dj b e).2.2.1,(h.dj b e).2.2.2,by omega⟩
  ·exact ⟨by omega,by omega,by omega,by omega,by omega⟩
 simp -implicitDefEqProofs only [st0,qc,reduceIte,qgo f hfy]
 have hfoot:∀ b∈(x0 { o with nt:=nt' } m.next).fp,b∈o.xY∨m.next≤b:=fun b hb=>by
  simp only [Wx.fp,Wo.xY,List.mem_cons,List.not_mem_nil,or_false] at hb ⊢
  rcases hb with h|h|h
  ·simp [h]
  ·simp [h]
  ·right; omega
 refine qo.2 ((hbody (x0 { o with nt:=nt' } m.next) m2 hx2 rfl rfl hfu2 hs2 rfl rfl u02 hfoot).mono fun r3 m3 hq=>?_)
 obtain ⟨x',a1,a2,a3,a4⟩:=hq
 have x3:=a3.next
 have z:=xok a1
 rw [a2.v] at z
 have t3:TAp wM 104 m3 nt' (ns++[{ o.st hw.hu with pm:=pm' }]):=t2.upd a3 fun b hb hm=>by
  have:=bnt b hb
  simp only [Wx.fp,List.mem_cons,List.not_mem_nil,or_false] at hm
  rcases hm with e|e|e
  ·exact this.1 e
  ·exact this.2.1 e
  ·exact this.2.2.2.2 e
 have ew:x'.o.w=o.w:=a2.w
 have epm:x'.o.pm=o.pm:=a2.pm
 have ec:x'.o.c=o.c:=a2.c
 have ep:x'.o.p=o.p:=a2.p
 have eP:x'.o.P=o.P:=a2.P
 have ent:x'.o.nt=nt':=a2.nt
 have exb:x'.xb=m.next:=a2.xb
 have u03:Upd o.xY m m3:=(u02.mono fun b hb _=>by
  simp only [Wo.xY,List.mem_cons] at hb ⊢
  rcases hb with h|h<;>simp [h]).then' a3 hfoot
 rcases a4 with ⟨a4,hE⟩|⟨a4,a5,a6⟩
 ·rw [decide_eq_false (show ¬ x'.err=0 by omega)] at z
  have g3:m3.get pm'=some ⟨.map (esL o.L) k,false,none⟩:=(a3.same pm' l2' (fun hm=>by
   simp only [Wx.fp,List.mem_cons,List.not_mem_nil,or_false] at hm
   rcases hm with e|e|e<;>omega)).trans g2
  have hb:=qfe a1.wr (s:={ o.st hw.hu with pm:=pm' }) (by rw [ent]; exact t3) (by omega) (by rw [ent,ew]; exact fun b hb=>(bnt b hb).1) g3 (by show pm'<m3.next; omega)
  rw [ew] at hb
  simp -implicitDefEqProofs only [st0,qc,reduceIte,z]
  refine qo.2 (hb.mono fun r4 m4 hq=>?_)
  obtain ⟨rfl,pm2,r4,t4,l4,l4',u4⟩:=hq
  have hx4:m4.get m.next=some x'.blk:=by
   rw [u4.same m.next (by omega) (by simp; omega),← exb]; exact a1.hx
  have le:qb (.pointer (some ⟨m.next,0+1,none⟩)) m4=some (.int .i64 (x'.err:Int)):=qu hx4 rfl
  rw [a4] at le
  simp -implicitDefEqProofs only [st0,qc,reduceIte,nck,fa,le]
  refine ⟨_,_,⟨r4,t4,fun b hb=>?_,?_⟩,⟨rfl,ec,ep,eP,u03.trans (u4.mono fun b hb _=>by simp at hb; simp [Wo.xY,hb]),fun b hb=>?_⟩,by simp,.inl ⟨hE,rfl,?_⟩⟩
  ·have hb':b∈qe nt':=by rw [← ent]; exact hb
   have:=bnt b hb'
   have:=t3.lt b hb'
   exact ⟨by show b≠o.w; omega,by show b≠pm2; omega,by show b≠x'.o.c; omega,by show b≠x'.o.p; omega⟩
  ·intro q
   have:=h.fu q
   unfold Wo.s Wo.has at this ⊢
   simp only [eP]
   exact this
  ·simp only [Wo.xY,List.mem_cons] at hb
   rcases hb with h|h|h
   ·left; simp [Wo.xY,h]
   ·right; omega
   ·rw [ent] at h
    rcases k2 b h with h|h
    ·left; simp [Wo.xY,h]
    ·right; omega
  ·funext q
   unfold Wo.s Wo.has
   simp only [eP]
   rfl
 ·rw [decide_eq_true a4] at z
  simp -implicitDefEqProofs only [st0,qc,reduceIte,z]
  refine ⟨x'.o,_,⟨a1.wr,by rw [ent]; exact t3,fun b hb=>?_,a5⟩,⟨ew,ec,ep,eP,u03,fun b hb=>?_⟩,by simp,.inr ⟨r3,rfl,a6⟩⟩
  ·rw [ent] at hb
   have:=bnt b hb
   rw [ew,epm,ec,ep]; exact ⟨this.1,this.2.1,this.2.2.1,this.2.2.2.1⟩
  ·simp only [Wo.xY,List.mem_cons,ew,epm,ent] at hb
   rcases hb with h|h|h
   ·left; simp [Wo.xY,h]
   ·left; simp [Wo.xY,h]
   ·rcases k2 b h with h|h
    ·left; simp [Wo.xY,h]
    ·right; omega
end Go.Fx.Tryz
namespace Go.Fx.Tryz
open Go Go.Fx
section
variable {x:Wx} {m:Mem}
theorem qgv (h:XR x m) (he:x.err=0) (hfree:∃ n,1≤n∧n<x.o.P∧xQ x.o.u n=false):W (Call S tab 73 [x.v] m) fun r m' =>
  ∃ (n c:Nat),1≤n∧n<x.o.P∧xQ x.o.u n=false∧r=.int .i64 (n:Int)∧XR { x with o:={ x.o with u:=zZ x.o.u n,L:=upL x.o.L n (qq 256) c } } m'∧Upd [x.o.w,x.o.pm,x.xb] m m':=by
 have e1:=xok h
 rw [decide_eq_true he] at e1
 have d0:decide ((0:Int)=0)=true:=rfl
 rw [C73]
 simp -implicitDefEqProofs only [st0,qc,reduceIte,e1,nck,fa,(xld h).1]
 have hq:W (Call S tab 26 [.pointer (some ⟨x.o.w,0,none⟩)] m) fun r m'=>∃ (n c:Nat),1≤n∧n<x.o.P∧xQ x.o.u n=false∧r=.tuple #[.int .i64 (n:Int),.int .i64 0]∧WR { x.o with u:=zZ x.o.u n,L:=upL x.o.L n (qq 256) c } m'∧Upd [x.o.w,x.o.pm] m m':=by
  rw [C26]
  simp -implicitDefEqProofs only [st0,qc,reduceIte,wC h.wr,d0]
  refine Jl h.wr (fun hall=>?_) (fun n m' c h1 h2 h3 h4 h5=>⟨n,c,h1,h2,h3,rfl,h4,h5⟩) _ 1 rfl (by omega) (by omega)
  obtain ⟨n,a,b,c⟩:=hfree
  rw [hall n a b] at c; cases c
 refine qo.2 (hq.mono fun r m1 hc=>?_)
 obtain ⟨n,c,n1,n2,n3,rfl,r1,u1⟩:=hc
 have h1:=h.work r1 ⟨rfl,rfl,rfl,rfl⟩ u1 (fun b hb=>by simpa using hb)
 obtain ⟨e2,h2,u2⟩:=h1.Zg he
 have e2':Call S tab 97 [x.v,.int .i64 0] m1=_:=e2
 simp -implicitDefEqProofs only [st0,qc,reduceIte,xt0,xt1,e2']
 refine ⟨n,c,n1,n2,n3,rfl,h2,(u1.mono (fun b hb _=>?_)).trans (u2.mono (fun b hb _=>?_))⟩
 ·simp at hb ⊢; omega
 ·simp at hb; simp [hb]
end
def Kv (key val:Bs):Prop:=(key≠[]∧key.length≤32)∧val.length≤40
def Yf (o:Wo) (root:Nat) (l:List Pr):Prop:=(root=0∧∀ n,1≤n→n<o.P→xQ o.u n=true)∨(root≠0∧4≤l.length)
theorem XF (key:Bs):inR [] none key:=⟨by cases key<;>simp [ltB],fun h e=>by cases e⟩
theorem wz {o:Wo} {h root:Nat} {lo:Bs} {hi:Option Bs} {l:List Pr} {U:List Nat} (ht:Tr o.s h root lo hi l U):1≤root:=by
 obtain ⟨n,S',hp,_⟩:=zO.1 ht
 exact (xu hp.here.1).1
theorem qgl:qy [.bool false,.slice none 0 0,.slice none 0 0,.slice none 0 0] [(0,1,.bool true)]=some [.bool true,.slice none 0 0,.slice none 0 0,.slice none 0 0]:=rfl
theorem _root_.Go.Fx.Upd.boxes {m m':Mem} {fp:List Nat} (hu:Upd fp m m') {b:Nat} {x:ABlk} (hg:m.get b=some x) (hb:b<m.next) (hn:b∉fp):m'.get b=some x:=(hu.same b hb hn).trans hg
set_option maxRecDepth 4000 in
theorem qcx {x:Wx} {m:Mem} {key val:Bs} (hkv:Kv key val) {root b1 b2 b3:Nat} {l:List Pr} {U:List Nat} (hx:XR x m) (he:x.err=0) (hrd:x.rd=0) (hf:Fu x.o) (ht:TrR x.o.s root l U) (hnd:U.Nodup) {t1 t2 t3:TypeId}
  (g1:m.get b1=some ⟨.cells [.int .i64 (root:Int)] t1,false,none⟩) (g2:m.get b2=some ⟨.cells [str key] t2,false,none⟩) (g3:m.get b3=some ⟨.cells [str val] t3,false,none⟩) (hb:(b1<m.next∧b2<m.next∧b3<m.next)∧(b2∉x.fp∧b3∉x.fp)) :
  W (Call S tab 71 [x.v,.pointer (some ⟨b1,0,none⟩),.pointer (some ⟨b2,0,none⟩),.pointer (some ⟨b3,0,none⟩)] m) fun r m'=>∃ x',XR x' m'∧Kin x x'∧Upd x.fp m m'∧((x'.err=8∧Yf x.o root (xO l key val)) ∨
   (x'.err=0∧Fu x'.o∧∃ (root':Nat) (U':List Nat),r=.int .i64 (root':Int)∧TrR x'.o.s root' (xO l key val) U'∧Stp x.o.s x'.o.s U U'∧U'.Nodup)):=by
 have hP:=hx.wr.hP
 have hu20:=hx.wr.hu
 have l1:qb (.pointer (some ⟨b1,0,none⟩)) m=some (.int .i64 (root:Int)):=qu g1 rfl
 have l2:qb (.pointer (some ⟨b2,0,none⟩)) m=some (str key):=qu g2 rfl
 have l3:qb (.pointer (some ⟨b3,0,none⟩)) m=some (str val):=qu g3 rfl
 rw [C71]
 rcases ht with ⟨rfl,rfl,rfl⟩|⟨h,ht⟩
 ·have e0:(((0:Nat):Int)=0)=True:=eq_true rfl
  simp -implicitDefEqProofs only [st0,qc,reduceIte,l1,e0]
  have tn:∀ M:Mem,TN M.next M (jM true (.slice none 0 0) (.slice none 0 0) (.slice none 0 0)) (Nd.lf []):=fun M=>⟨_,_,_,rfl,RSl.nil _ _ _,RSl.nil _ _ _,RSl.nil _ _ _⟩
  have fit0:(Nd.lf []).Fit:=⟨by simp [Nd.lf],by simp [Nd.lf],by simp [Nd.lf],by simp [Nd.lf],by simp [Nd.lf],by simp [Nd.lf]⟩
  obtain ⟨w1,w2,w3,w4⟩:=Wn (l:=[]) (key:=key) (val:=val) ⟨rfl,by simp⟩ hkv.1 hkv.2
  have hr:=kT w1.1 w1.2
  have hsz:qV (Nd.lf (xO [] key val))≤256:=by
   show 2+((xO [] key val).map qK).sum≤256
   have:(([]:List Pr).map qK).sum=0:=rfl
   omega
  by_cases hfree:∃ n,1≤n∧n<x.o.P∧xQ x.o.u n=false
  ·refine qo.2 ((qgv hx he hfree).mono fun r1 m1 hq=>?_)
   obtain ⟨n,c,y1,y2,y3,rfl,h1,u1⟩:=hq
   have x1:=u1.next
   have l2':qb (.pointer (some ⟨b2,0,none⟩)) m1=some (str key):=qu (u1.boxes g2 hb.1.2.1 hb.2.1) rfl
   have l3':qb (.pointer (some ⟨b3,0,none⟩)) m1=some (str val):=qu (u1.boxes g3 hb.1.2.2 hb.2.2) rfl
   simp -implicitDefEqProofs only [st0,qc,reduceIte,qgl,l2',l3']
   refine qo.2 ((KL key val (tn m1) fit0 (Nat.le_refl _)).mono fun v2 m2 ⟨t2',u2⟩=>?_)
   have t2':TN m1.next m2 v2 (Nd.lf (xO [] key val)):=t2'
   have h2:=h1.qt u2
   have es1:=Wo.KC hu20 hP y1 y2 y3 (qq 256) c
   have f1:=hf.take hu20 hP y1 y2 y3 (qq 256) c
   have hh:Wo.has { x.o with u:=zZ x.o.u n,L:=upL x.o.L n (qq 256) c } n=true:=by
    apply Fu.some; rw [es1]; simp [zD]
   refine qo.2 ((wq h2 he (by omega) t2' hh hr hsz).mono fun v3 m3 ⟨r3,⟨c2,h3⟩,u3⟩=>?_)
   simp -implicitDefEqProofs only [st0,qc,reduceIte]
   have es2:=Wo.kL hh (zx (Nd.lf (xO [] key val))) c2
   have f2:=f1.write hh (zx (Nd.lf (xO [] key val))) c2
   rw [es1] at es2
   refine ⟨_,h3,Kin.o x ⟨rfl,rfl,rfl,rfl,rfl,rfl,rfl⟩,(u1.qD u2).trans (u3.mono fun b hb _=>List.mem_cons.2 (.inr hb)),.inr ⟨he,f2,n,[n],rfl,.inr ⟨0,?_⟩,?_,by simp⟩⟩
   ·rw [es2]
    exact zO.2 ⟨_,[],⟨by simp [zD],hr,hsz⟩,by simpa [neN,Nd.lf] using w4,⟨rfl,fun y hy=>XF _,rfl⟩,rfl⟩
   ·rw [es2]
    exact ⟨fun j h1 h2=>by simp at h2; unfold zD; rw [if_neg h2,if_neg h2],fun j hj=>by simp at hj; subst hj; exact .inr (YG y3),fun j hj=>by simp at hj⟩
  ·have hall:∀ n,1≤n→n<x.o.P→xQ x.o.u n=true:=fun n a b=>by
    cases hc:xQ x.o.u n with
    | true=>rfl
    | false=>exact absurd ⟨n,a,b,hc⟩ hfree
   refine qo.2 ((qcd hx he).mono fun r1 m1 hq=>?_)
   rcases hq with ⟨rfl,h1,u1⟩|⟨n,c,y1,y2,y3,rfl,h1,u1⟩
   ·have x1:=u1.next
    have sub1:∀ b,b∈[x.xb]→b∈x.fp:=fun b hb=>by simp at hb; simp [Wx.fp,hb]
    have u1:Upd x.fp m m1:=u1.mono fun b hb _=>sub1 b hb
    have l2':qb (.pointer (some ⟨b2,0,none⟩)) m1=some (str key):=qu (u1.boxes g2 hb.1.2.1 hb.2.1) rfl
    have l3':qb (.pointer (some ⟨b3,0,none⟩)) m1=some (str val):=qu (u1.boxes g3 hb.1.2.2 hb.2.2) rfl
    simp -implicitDefEqProofs only [st0,qc,reduceIte,qgl,l2',l3']
    refine qo.2 ((KL key val (tn m1) fit0 (Nat.le_refl _)).mono fun v2 m2 ⟨t2',u2⟩=>?_)
    have t2':TN m1.next m2 v2 (Nd.lf (xO [] key val)):=t2'
    have h2:=h1.qt u2
    refine qo.2 ((ZB h2 (by show (8:Nat)≠0; omega) (.int .i64 0) t2' hr hsz).mono fun v3 m3 ⟨_,u3⟩=>?_)
    simp -implicitDefEqProofs only [st0,qc,reduceIte]
    exact ⟨_,h2.qt u3,⟨rfl,rfl,rfl,rfl,rfl,rfl,rfl,rfl,rfl,rfl⟩,(u1.qD u2).qD u3,.inl ⟨rfl,.inl ⟨rfl,hall⟩⟩⟩
   ·rw [hall n y1 y2] at y3; cases y3
 ·have hpos:=wz ht
  have hlow:=(yQ hP ht hnd).1
  have e0:((root:Int)=0)=False:=eq_false (by omega)
  simp -implicitDefEqProofs only [st0,qc,reduceIte,l1,l2,l3,e0]
  refine qo.2 ((qec hkv.1 hkv.2 h x m root 40 [] none l U hx he (by omega) hf (by omega) (by omega) ht hnd (XF key)).mono fun r1 m1 hq=>?_)
  rcases hq with ⟨h4,x',a1,a2,a3,a4⟩|⟨x',ps,U',a1,a2,a3,a4,a5,a6,a7,a8,a9,a10⟩
  ·have z:=qce a1 (by omega) r1
   rw [a2.v] at z
   simp -implicitDefEqProofs only [st0,qc,reduceIte,z]
   exact ⟨x',a1,a2,a4,.inl ⟨a3,.inr ⟨by omega,h4⟩⟩⟩
  ·have z:=Jq a1 a3 a5 (by rw [a2.fp]; exact hx.XI) a6 a7 a9
   rw [a2.v] at z
   refine qo.2 (z.mono fun r2 m2 hq=>?_)
   simp -implicitDefEqProofs only [st0,qc,reduceIte]
   rcases hq with ⟨h4,x'',b1',b2',b3',b4⟩|⟨x'',root',U'',rfl,b1',b2',b3',b4,b5,b6,b7,b8,b9⟩
   ·exact ⟨x'',b1',a2.trans b2',a10.trans (by rw [a2.fp] at b4; exact b4),.inl ⟨b3',.inr ⟨by omega,h4⟩⟩⟩
   ·refine ⟨x'',b1',a2.trans b2',a10.trans (by rw [a2.fp] at b8; exact b8),.inr ⟨b3',b5,root',U'',rfl,.inr ?_,a8.trans b6,b7⟩⟩
    rcases b9 with ⟨d1,rfl,rfl,d4⟩|d
    ·rw [d1]; exact ⟨h,d4⟩
    ·exact ⟨h+1,d⟩
theorem Wo.KW {o:Wo} {ns:List St} {m:Mem} (h:WI o ns m) {b:Nat} (hb:m.next≤b):b∉o.xY:=fun hm=>by have:=h.lt b hm; omega
theorem Kf {o:Wo} {ns:List St} {m:Mem} (h:WI o ns m) (hnl:ns.length≤90000) {root:Nat} {l:List Pr} {U:List Nat} (ht:TrR o.s root l U) (hnd:U.Nodup) (key val:Bs) :
    W (Call S tab 30 [.pointer (some ⟨o.w,0,none⟩),.int .i64 (root:Int),str key,str val] m) fun r m'=>∃ o' ns',WI o' ns' m'∧Nx o o' m m'∧ns'.length≤ns.length+1 ∧
      ((¬ Kv key val∧r=.tuple #[.int .i64 (root:Int),.int .i64 1]∧o'=o)∨(Kv key val∧Yf o root (xO l key val)∧r=.tuple #[.int .i64 (root:Int),.int .i64 8]∧o'.s=o.s) ∨
       (Kv key val∧∃ (root':Nat) (U':List Nat),r=.tuple #[.int .i64 (root':Int),.int .i64 0]∧TrR o'.s root' (xO l key val) U'∧Stp o.s o'.s U U'∧U'.Nodup)):=by
  rw [C30]
  have u1:Upd [] m (m.add ⟨.cells [.int .i64 (root:Int)] 3,false,none⟩):=Upd.add _ _ _
  have g1:(m.add ⟨.cells [.int .i64 (root:Int)] 3,false,none⟩).get m.next=some ⟨.cells [.int .i64 (root:Int)] 3,false,none⟩:=Mem.qk ..
  have n1:(m.add ⟨.cells [.int .i64 (root:Int)] 3,false,none⟩).next=m.next+1:=rfl
  simp -implicitDefEqProofs only [st0,qc,reduceIte,JU,JT]
  generalize (m.add ⟨.cells [.int .i64 (root:Int)] 3,false,none⟩)=m1 at u1 g1 n1
  have u2:Upd [] m1 (m1.add ⟨.cells [str key] 9,false,none⟩):=Upd.add _ _ _
  have k2:(m1.add ⟨.cells [str key] 9,false,none⟩).get m1.next=some ⟨.cells [str key] 9,false,none⟩:=Mem.qk ..
  have n2:(m1.add ⟨.cells [str key] 9,false,none⟩).next=m1.next+1:=rfl
  have g2:=qA u2 (by omega) g1
  generalize (m1.add ⟨.cells [str key] 9,false,none⟩)=m2 at u2 k2 n2 g2
  have u3:Upd [] m2 (m2.add ⟨.cells [str val] 9,false,none⟩):=Upd.add _ _ _
  have j3:(m2.add ⟨.cells [str val] 9,false,none⟩).get m2.next=some ⟨.cells [str val] 9,false,none⟩:=Mem.qk ..
  have n3:(m2.add ⟨.cells [str val] 9,false,none⟩).next=m2.next+1:=rfl
  have g3:=qA u3 (by omega) g2
  have k3:=qA u3 (by omega) k2
  generalize (m2.add ⟨.cells [str val] 9,false,none⟩)=m3 at u3 j3 n3 g3 k3
  have u03:Upd [] m m3:=(u1.qD u2).qD u3
  have h3:=h.qt u03
  have lr:qb (.pointer (some ⟨m.next,0,none⟩)) m3=some (.int .i64 (root:Int)):=qu g3 rfl
  have lk:qb (.pointer (some ⟨m1.next,0,none⟩)) m3=some (str key):=qu k3 rfl
  have lv:qb (.pointer (some ⟨m2.next,0,none⟩)) m3=some (str val):=qu j3 rfl
  have eq0:arith .eql (str key) (.string ⟨#[]⟩)=some (.bool (decide (key=[]))):=wa key []
  have bad:¬ Kv key val→W (some (.tuple #[.int .i64 (root:Int),.int .i64 1],m3):O) fun r m'=>∃ o' ns',WI o' ns' m'∧Nx o o' m m'∧ns'.length≤ns.length+1 ∧
      ((¬ Kv key val∧r=.tuple #[.int .i64 (root:Int),.int .i64 1]∧o'=o)∨(Kv key val∧Yf o root (xO l key val)∧r=.tuple #[.int .i64 (root:Int),.int .i64 8]∧o'.s=o.s) ∨
       (Kv key val∧∃ (root':Nat) (U':List Nat),r=.tuple #[.int .i64 (root':Int),.int .i64 0]∧TrR o'.s root' (xO l key val) U'∧Stp o.s o'.s U U'∧U'.Nodup)) :=
    fun hn=>xI.2 ⟨o,ns,h3,Nx.of0 u03,by omega,.inl ⟨hn,rfl,rfl⟩⟩
  by_cases c1:key=[]
  · have e1:decide (key=[])=true:=decide_eq_true c1
    have:=bad (fun hk=>hk.1.1 c1)
    simp -implicitDefEqProofs only [st0,qc,reduceIte] at this
    simp -implicitDefEqProofs only [st0,qc,reduceIte,lk,eq0,e1,lr]
    exact this
  have e1:decide (key=[])=false:=decide_eq_false c1
  by_cases c2:key.length≤32
  · have e2:((32:Int)<(key.length:Int))=False:=eq_false (by omega)
    by_cases c3:val.length≤40
    · have e3:((40:Int)<(val.length:Int))=False:=eq_false (by omega)
      have hkv:Kv key val:=⟨⟨c1,c2⟩,c3⟩
      simp -implicitDefEqProofs only [st0,qc,reduceIte,lk,eq0,e1,zy,e2,lv,e3,lr]
      refine qo.2 ((qgn (f:=71) h3 hnl (by rfl) (E:=Yf o root (xO l key val)) (Q:=fun r o'=>∃ (root':Nat) (U':List Nat),r=.int .i64 (root':Int)∧TrR o'.s root' (xO l key val) U'∧Stp o.s o'.s U U'∧U'.Nodup) (fun x mb hx he hrd hf hs hPx hu hub hfp=>?_)).mono fun r m' hq=>?_)
      · have nfoot:∀ b,m.next≤b→b<m3.next→b∉o.w::qe o.nt∧b∉x.fp:=fun b h1 h2=>by
          have hn:b∉o.xY:=Wo.KW h h1
          refine ⟨fun hm=>hn ?_,fun hm=>(hfp b hm).elim hn (fun h=>by omega)⟩
          simp only [Wo.xY,List.mem_cons] at hm ⊢
          rcases hm with h|h<;>simp [h]
        have hbn:=hub.next
        refine (qcx hkv hx he hrd hf (by rw [hs]; exact ht) hnd (hub.boxes g3 (by omega) (nfoot _ (by omega) (by omega)).1) (hub.boxes k3 (by omega) (nfoot _ (by omega) (by omega)).1) (hub.boxes j3 (by omega) (nfoot _ (by omega) (by omega)).1) ⟨⟨by omega,by omega,by omega⟩,(nfoot _ (by omega) (by omega)).2,(nfoot _ (by omega) (by omega)).2⟩).mono fun r m' hq=>?_
        obtain ⟨x',a1,a2,a3,a4⟩:=hq
        refine ⟨x',a1,a2,a3,a4.imp (fun ⟨z1,z2⟩=>⟨z1,?_⟩) fun ⟨z1,z2,root',U',z3,z4,z5,z6⟩=>⟨z1,z2,root',U',z3,z4,by rw [← hs]; exact z5,z6⟩⟩
        unfold Yf at z2 ⊢
        rw [hPx,hu] at z2
        exact z2
      · obtain ⟨o',ns',b1,b2,b3,b4⟩:=hq
        have nx:Nx o o' m m':=(Nx.of0 u03).trans b2
        rcases b4 with ⟨d1,rfl,d3⟩|⟨v,rfl,root',U',rfl,d3,d4,d5⟩
        · simp -implicitDefEqProofs only [st0,qc,reduceIte,xt0,xt1]
          exact ⟨o',ns',b1,nx,by omega,.inr (.inl ⟨hkv,d1,trivial,d3⟩)⟩
        · simp -implicitDefEqProofs only [st0,qc,reduceIte,xt0,xt1]
          exact ⟨o',ns',b1,nx,by omega,.inr (.inr ⟨hkv,root',U',rfl,d3,d4,d5⟩)⟩
    · have e3:((40:Int)<(val.length:Int))=True:=eq_true (by omega)
      have:=bad (fun hk=>c3 hk.2)
      simp -implicitDefEqProofs only [st0,qc,reduceIte] at this
      simp -implicitDefEqProofs only [st0,qc,reduceIte,lk,eq0,e1,zy,e2,lv,e3,lr]
      exact this
  · have e2:((32:Int)<(key.length:Int))=True:=eq_true (by omega)
    have:=bad (fun hk=>c2 hk.1.2)
    simp -implicitDefEqProofs only [st0,qc,reduceIte] at this
    simp -implicitDefEqProofs only [st0,qc,reduceIte,lk,eq0,e1,zy,e2,lr]
    exact this
end Go.Fx.Tryz
namespace Go.Fx.Tryz
open Go Go.Fx
def VG (l:List Pr) (key:Bs):Bs:=if zo l key then (l.getD (zb l key) ([],[])).2 else []
theorem qee {a b c:List Pr} {key:Bs} (ha:∀ x∈a,ltB x.1 key=true) (hc:∀ x∈c,ltB x.1 key=false∧x.1≠key):VG (a++(b++c)) key=VG b key:=by
 unfold VG
 rw [wT ha hc,kV ha (fun x hx=>(hc x hx).1)]
 cases ht:zo b key with
 | false=>rfl
 | true =>
  have:=jj ht
  simp only [if_true]
  rw [List.getD_eq_getElem?_getD,List.getElem?_append_right (by omega),Nat.add_sub_cancel_left,List.getElem?_append_left this,← List.getD_eq_getElem?_getD]
set_option maxRecDepth 4000 in
theorem qdd {key:Bs}:∀ (h:Nat) (x:Wx) (m:Mem) (page left:Nat) (lo:Bs) (hi:Option Bs) (l:List Pr) (U:List Nat),XR x m→x.err=0→x.rd+h<1000→h<left→left≤40→Tr x.o.s h page lo hi l U→inR lo hi key →
  W (qaE (.int .i64 (page:Int)) (str key) x.v (.int .i64 (left:Int)) m) fun r m'=>r=.tuple #[str (VG l key),.bool (zo l key),.int .i64 0]∧Upd [x.xb] m m':=by
 intro h
 induction h with
 | zero =>
  intro x m page left lo hi l U hx he hrd hle hl40 ht hin
  obtain ⟨n,U',hp,hn,hnt,rfl⟩:=zO.1 ht
  have hnt0:n=Nd.lf l∧(∀ x∈l,inR lo hi x.1)∧U'=[]:=hnt
  obtain ⟨rfl,hl,rfl⟩:=hnt0
  obtain ⟨hh,hlk⟩:=hp.here
  have hlt:=xu hh
  have hP:=hx.wr.hP
  have e0:((page:Int)=0)=False:=eq_false (by omega)
  rw [P19_0_eq]
  simp -implicitDefEqProofs only [st0,qc,reduceIte,e0]
  refine qo.2 ((vA hx he (by omega) (by omega) (by omega) hh hlk hp.rt hp.sz).mono fun v1 m1 ⟨t1,h1,u1⟩=>?_)
  have x1:=u1.next
  have hT:=t1
  obtain ⟨sp,sk,si,rfl,q1,q2,q3⟩:=t1.ex
  simp -implicitDefEqProofs only [st0,qc,reduceIte]
  refine xR (c:=[.bool (Nd.lf l).leaf,sp,sk,si]) rfl rfl (by simp [q1.one.2,q2.one.2,q3.one.2,show (Value.bool (Nd.lf l).leaf).oneCell'=true from rfl]) fun m2 b2 u2 n2=>?_
  have h2:=h1.qt u2
  have T2:=hT.qt u2
  have e5:=xok h2
  rw [decide_eq_true (show ({ x with rd:=x.rd+1 }:Wx).err=0 from he)] at e5
  have hlf:(Nd.lf l).leaf=true:=rfl
  rw [hlf] at b2
  simp -implicitDefEqProofs only [st0,qc,reduceIte,e5,fa,qG b2 (o:=0+0) rfl,qF b2]
  refine qo.2 ((ZJ key T2 (ko hp.rt hp.sz)).mono fun v3 m3 ⟨r3,u3⟩=>?_)
  subst r3
  have b3:=qA u3 (by omega) b2
  have q13:RSl m.next qJ m3 sp l:=(q1.qt u2).qt u3
  have u03:Upd [x.xb] m m3:=(u1.qD u2).qD u3
  show W _ _
  cases hth:zo l key with
  | true =>
   have hth':zo (Nd.lf l).pairs key=true:=hth
   have halt:=jj hth
   obtain ⟨b,off,i1,i2⟩:=q13.1.at .i64 (ja halt)
   rw [qT] at i1 i2
   have i3:=(i2 m3 q13.1).2 1 (str l[zb l key].2) rfl
   have i1:ql 2 sp (.int .i64 ((zb (Nd.lf l).pairs key:Nat):Int))=some (.pointer (some ⟨b,off,none⟩)):=i1
   simp -implicitDefEqProofs only [st0,qc,reduceIte,xt0,xt1,hth',fa,qG b3 (o:=0+1) rfl,i1,i3]
   refine ⟨?_,u03⟩
   unfold VG
   rw [hth,if_pos rfl,List.getD_eq_getElem?_getD,List.getElem?_eq_getElem halt]; rfl
  | false =>
   have hth':zo (Nd.lf l).pairs key=false:=hth
   simp -implicitDefEqProofs only [st0,qc,reduceIte,xt0,xt1,hth']
   refine ⟨?_,u03⟩
   unfold VG
   rw [hth]; rfl
 | succ h ih =>
  intro x m page left lo hi l U hx he hrd hle hl40 ht hin
  obtain ⟨n,U',hp,hn,hnt,rfl⟩:=zO.1 ht
  obtain ⟨ks,ps,rfl,hks,hfo⟩:=hnt
  obtain ⟨hh,hlk⟩:=hp.here
  have hlt:=xu hh
  have hP:=hx.wr.hP
  obtain ⟨_,i1,r1,v1,p1⟩:=zd hp.rt rfl
  have i1:ps.length=ks.length+1:=i1
  have r1:qH ks=true:=r1
  have hcl:=(vk key ks r1).2.2
  obtain ⟨p,lo',hi',l0,l1,l2,S0,S1,S2,e1,e2,e3,e4,e5,e6,e7,e8,e9⟩:=Hu (yP x.o.s h) hfo r1 hks hin
  subst e5 e6
  have ecl:∀ y∈l2,ltB y.1 key=false∧y.1≠key:=fun y hy=>⟨xd (e9 y hy),(XB (e9 y hy)).symm⟩
  rw [wT e8 ecl,qee e8 ecl]
  have e0:((page:Int)=0)=False:=eq_false (by omega)
  rw [P19_0_eq]
  simp -implicitDefEqProofs only [st0,qc,reduceIte,e0]
  refine qo.2 ((vA hx he (by omega) (by omega) (by omega) hh hlk hp.rt hp.sz).mono fun v1 m1 ⟨t1,h1,u1⟩=>?_)
  have x1:=u1.next
  have hT:=t1
  obtain ⟨sp,sk,si,rfl,q1,q2,q3⟩:=t1.ex
  have q3:RSl m.next zG m1 si ps:=q3
  simp -implicitDefEqProofs only [st0,qc,reduceIte]
  refine xR (c:=[.bool (Nd.nd ks ps).leaf,sp,sk,si]) rfl rfl (by simp [q1.one.2,q2.one.2,q3.one.2,show (Value.bool (Nd.nd ks ps).leaf).oneCell'=true from rfl]) fun m2 b2 u2 n2=>?_
  have h2:=h1.qt u2
  have T2:=hT.qt u2
  have z5:=xok h2
  rw [decide_eq_true (show ({ x with rd:=x.rd+1 }:Wx).err=0 from he)] at z5
  have hlf:(Nd.nd ks ps).leaf=false:=rfl
  rw [hlf] at b2
  simp -implicitDefEqProofs only [st0,qc,reduceIte,z5,fa,qG b2 (o:=0+0) rfl,qG b2 (o:=0+3) rfl,qF b2]
  refine qo.2 ((XO key T2 (ko hp.rt hp.sz)).mono fun v3 m3 ⟨r3,u3⟩=>?_)
  subst r3
  have h3:=h2.qt u3
  have b3:=qA u3 (by omega) b2
  have q33:=(q3.qt u2).qt u3
  have hget:ps[zJ ks key]? = some p:=by
   have:=congrArg (fun t:List Nat=>t[zJ ks key]?) e1
   rw [this,List.getElem?_append_right (by rw [List.length_take]; omega),List.length_take,Nat.min_eq_left (by omega),Nat.sub_self]; rfl
  obtain ⟨pk,y1,y2⟩:=XG q33 hget
  have y2:=y2 m3 q33
  have esub:arith .sub (.int .i64 (left:Int)) (.int .i64 1)=some (.int .i64 ((left - 1:Nat):Int)):=by rw [zS (by omega) (by omega)]; congr 2; omega
  have y1':ql 1 si (.int .i64 ((zJ (Nd.nd ks ps).keys key:Nat):Int))=some pk:=y1
  simp -implicitDefEqProofs only [st0,qc,reduceIte,y1',y2,esub]
  have u03:Upd [x.xb] m m3:=(u1.qD u2).qD u3
  refine kz (fun r hr=>?_) ((ih { x with rd:=x.rd+1 } m3 p (left - 1) lo' hi' l1 S1 h3 he (by show x.rd+1+h<1000; omega) (by omega) (by omega) e3 e7).mono fun r m' ⟨a,b⟩=>⟨a,u03.trans b⟩)
  simp only [List.mem_cons,List.not_mem_nil,or_false] at hr
  rcases hr with rfl|rfl|rfl
  ·exact okR fun k _ hk=>by
    have:k=0∨k=1:=by omega
    rcases this with rfl|rfl
    ·exact ⟨_,rfl,qG b2 rfl⟩
    ·exact ⟨_,rfl,qG b3 rfl⟩
  ·exact okR fun k _ hk=>by
    obtain rfl:k=0:=by omega
    exact ⟨_,rfl,qF b2⟩
  ·exact okR fun k hk1 hk=>by
    obtain rfl:k=1:=by omega
    exact ⟨_,rfl,y2⟩
theorem qdc {o:Wo} {m:Mem} (h:WR o m) {root:Nat} {l:List Pr} {U:List Nat} (ht:TrR o.s root l U) (hnd:U.Nodup) (key:Bs) :
  W (Call S tab 19 [.pointer (some ⟨o.w,0,none⟩),.int .i64 (root:Int),str key] m) fun r m'=>r=.tuple #[str (VG l key),.bool (zo l key),.int .i64 0]∧Upd [] m m':=by
 rw [C19]
 simp -implicitDefEqProofs only [st0,qc,reduceIte,WE,qQ]
 have hxr:=XR.begin h
 have u1:Upd [] m (m.add (x0 o m.next).blk):=Upd.add _ _ _
 have eblk:(⟨.cells [.pointer (some ⟨o.w,0,none⟩),.int .i64 0,.int .i64 0] 84,false,none⟩:ABlk)=(x0 o m.next).blk:=rfl
 rw [eblk]
 generalize (m.add (x0 o m.next).blk)=m1 at u1 hxr
 rcases ht with ⟨rfl,rfl,rfl⟩|⟨g,ht⟩
 ·have e0:(((0:Nat):Int)=0)=True:=eq_true rfl
  rw [P19_0_eq]
  simp -implicitDefEqProofs only [st0,qc,reduceIte,e0]
  exact ⟨rfl,u1⟩
 ·have hlow:=(yQ h.hP ht hnd).1
  refine (qdd g (x0 o m.next) m1 root 40 [] none l U hxr rfl (by show 0+g<1000; omega) (by omega) (by omega) ht (XF key)).mono fun r m' ⟨a,b⟩=>⟨a,u1.then' b (fun c hc=>.inr (by simp at hc; omega))⟩
set_option maxRecDepth 4000 in
theorem WM {x:Wx} {m:Mem} {key:Bs} {root b1 b2 h:Nat} {l:List Pr} {U:List Nat} (hx:XR x m) (he:x.err=0) (hrd:x.rd=0) (hf:Fu x.o) (ht:Tr x.o.s h root [] none l U) (hnd:U.Nodup) (hth:zo l key=true) {t1 t2:TypeId}
  (g1:m.get b1=some ⟨.cells [.int .i64 (root:Int)] t1,false,none⟩) (g2:m.get b2=some ⟨.cells [str key] t2,false,none⟩) :
  W (Call S tab 58 [x.v,.pointer (some ⟨b1,0,none⟩),.pointer (some ⟨b2,0,none⟩)] m) fun r m'=>∃ x',XR x' m'∧Kin x x'∧Upd x.fp m m'∧((x'.err=8∧4≤(xA l key).length) ∨
   (x'.err=0∧Fu x'.o∧∃ (root':Nat) (U':List Nat),r=.int .i64 (root':Int)∧TrR x'.o.s root' (xA l key) U'∧Stp x.o.s x'.o.s U U'∧U'.Nodup)):=by
 have hP:=hx.wr.hP
 have l1:qb (.pointer (some ⟨b1,0,none⟩)) m=some (.int .i64 (root:Int)):=qu g1 rfl
 have l2:qb (.pointer (some ⟨b2,0,none⟩)) m=some (str key):=qu g2 rfl
 have hlow:=(yQ hP ht hnd).1
 rw [C58]
 simp -implicitDefEqProofs only [st0,qc,reduceIte,l1,l2]
 refine qo.2 ((qeb h x m root 40 [] none l U hx he (by omega) hf (by omega) (by omega) ht hnd (XF key) hth).mono fun r1 m1 hq=>?_)
 obtain ⟨r1',bb,rfl,hq⟩:=hq
 rcases hq with ⟨h4,x',a1,a2,a3,a4⟩|⟨rfl,x',ps,U',a1,a2,a3,a4,a5,a6,a7,a8,a9,a10⟩
 ·have z:=qce a1 (by omega) r1'
  have z1:=xok a1
  rw [decide_eq_false (show ¬ x'.err=0 by omega)] at z1
  rw [a2.v] at z z1
  simp -implicitDefEqProofs only [st0,qc,reduceIte,xt0,xt1,z,z1]
  exact ⟨x',a1,a2,a4,.inl ⟨a3,h4⟩⟩
 ·have z:=Jq a1 a3 a5 (by rw [a2.fp]; exact hx.XI) a6 a7 a9
  rw [a2.v] at z
  simp -implicitDefEqProofs only [st0,qc,reduceIte,xt0,xt1]
  refine qo.2 (z.mono fun r2 m2 hq=>?_)
  rcases hq with ⟨h4,x'',b1',b2',b3',b4⟩|⟨x'',root',U'',rfl,b1',b2',b3',b4,b5,b6,b7,b8,b9⟩
  ·have z1:=xok b1'
   rw [decide_eq_false (show ¬ x''.err=0 by omega),b2'.v,a2.v] at z1
   simp -implicitDefEqProofs only [st0,qc,reduceIte,z1]
   exact ⟨x'',b1',a2.trans b2',a10.trans (by rw [a2.fp] at b4; exact b4),.inl ⟨b3',h4⟩⟩
  ·have z1:=xok b1'
   rw [decide_eq_true b3',b2'.v,a2.v] at z1
   have k2:=a2.trans b2'
   have hw:∃ g,Tw x''.o.s g root' [] none (xA l key) U'':=by
    rcases b9 with ⟨d1,rfl,rfl,d4⟩|d
    ·rw [d1]; exact ⟨h,d4⟩
    ·exact ⟨h+1,d.qiQ⟩
   obtain ⟨g,hw⟩:=hw
   simp -implicitDefEqProofs only [st0,qc,reduceIte,z1]
   have z2:=VX b1' b3' b5 (by omega) hw b7
   rw [b2'.v,a2.v] at z2
   refine qo.2 (z2.mono fun r3 m3 hq=>?_)
   obtain ⟨x3,root3,U3,rfl,c1,c2,c3,c4,c5,c6,c7,c8⟩:=hq
   simp -implicitDefEqProofs only [st0,qc,reduceIte]
   rw [a2.fp] at b8
   rw [k2.fp] at c8
   exact ⟨x3,c1,k2.trans c2,(a10.trans b8).trans c8,.inr ⟨c3,c4,root3,U3,rfl,c5,(a8.trans b6).trans c6,c7⟩⟩
theorem ZU {o:Wo} {ns:List St} {m:Mem} (h:WI o ns m) (hnl:ns.length≤90000) {root:Nat} {l:List Pr} {U:List Nat} (ht:TrR o.s root l U) (hnd:U.Nodup) (key:Bs) :
    W (Call S tab 25 [.pointer (some ⟨o.w,0,none⟩),.int .i64 (root:Int),str key] m) fun r m'=>∃ o' ns',WI o' ns' m'∧Nx o o' m m'∧ns'.length≤ns.length+1 ∧
      ((zo l key=false∧r=.tuple #[.int .i64 (root:Int),.bool false,.int .i64 0]∧o'=o)∨(zo l key=true∧4≤(xA l key).length∧r=.tuple #[.int .i64 (root:Int),.bool false,.int .i64 8]∧o'.s=o.s) ∨
       (zo l key=true∧∃ (root':Nat) (U':List Nat),r=.tuple #[.int .i64 (root':Int),.bool true,.int .i64 0]∧TrR o'.s root' (xA l key) U'∧Stp o.s o'.s U U'∧U'.Nodup)):=by
  rw [C25]
  have u1:Upd [] m (m.add ⟨.cells [.int .i64 (root:Int)] 3,false,none⟩):=Upd.add _ _ _
  have g1:(m.add ⟨.cells [.int .i64 (root:Int)] 3,false,none⟩).get m.next=some ⟨.cells [.int .i64 (root:Int)] 3,false,none⟩:=Mem.qk ..
  have n1:(m.add ⟨.cells [.int .i64 (root:Int)] 3,false,none⟩).next=m.next+1:=rfl
  simp -implicitDefEqProofs only [st0,qc,reduceIte,JU,JT]
  generalize (m.add ⟨.cells [.int .i64 (root:Int)] 3,false,none⟩)=m1 at u1 g1 n1
  have u2:Upd [] m1 (m1.add ⟨.cells [str key] 9,false,none⟩):=Upd.add _ _ _
  have k2:(m1.add ⟨.cells [str key] 9,false,none⟩).get m1.next=some ⟨.cells [str key] 9,false,none⟩:=Mem.qk ..
  have n2:(m1.add ⟨.cells [str key] 9,false,none⟩).next=m1.next+1:=rfl
  have g2:=qA u2 (by omega) g1
  generalize (m1.add ⟨.cells [str key] 9,false,none⟩)=m2 at u2 k2 n2 g2
  have u02:Upd [] m m2:=u1.qD u2
  have h2:=h.qt u02
  have lr:qb (.pointer (some ⟨m.next,0,none⟩)) m2=some (.int .i64 (root:Int)):=qu g2 rfl
  have lk:qb (.pointer (some ⟨m1.next,0,none⟩)) m2=some (str key):=qu k2 rfl
  have htt:=ht
  rcases ht with ⟨rfl,rfl,rfl⟩|⟨g,ht⟩
  · have e0:(((0:Nat):Int)=0)=True:=eq_true rfl
    simp -implicitDefEqProofs only [st0,qc,reduceIte,lr,e0]
    exact ⟨o,ns,h2,Nx.of0 u02,by omega,.inl ⟨rfl,rfl,rfl⟩⟩
  · have hpos:=wz ht
    have e0:((root:Int)=0)=False:=eq_false (by omega)
    have d0:decide ((0:Int)=0)=true:=rfl
    have d8:decide ((8:Int)=0)=false:=rfl
    simp -implicitDefEqProofs only [st0,qc,reduceIte,lr,e0,lk]
    refine qo.2 ((qdc h2.wr htt hnd key).mono fun r3 m3 ⟨r3e,u3⟩=>?_)
    subst r3e
    have x3:=u3.next
    have g3:=qA u3 (by omega) g2
    have k3:=qA u3 (by omega) k2
    have h3:=h2.qt u3
    have u03:Upd [] m m3:=u02.qD u3
    have lr3:qb (.pointer (some ⟨m.next,0,none⟩)) m3=some (.int .i64 (root:Int)):=qu g3 rfl
    cases hth:zo l key with
    | false =>
      simp -implicitDefEqProofs only [st0,qc,reduceIte,(ex3 _ _ _).1,(ex3 _ _ _).2.1,(ex3 _ _ _).2.2,d0,lr3]
      exact ⟨o,ns,h3,Nx.of0 u03,by omega,.inl ⟨trivial,trivial,rfl⟩⟩
    | true =>
      simp -implicitDefEqProofs only [st0,qc,reduceIte,(ex3 _ _ _).1,(ex3 _ _ _).2.1,(ex3 _ _ _).2.2,d0,lr3]
      refine qo.2 ((qgn (f:=58) h3 hnl (by rfl) (E:=4≤(xA l key).length) (Q:=fun r o'=>∃ (root':Nat) (U':List Nat),r=.int .i64 (root':Int)∧TrR o'.s root' (xA l key) U'∧Stp o.s o'.s U U'∧U'.Nodup) (fun x mb hx he hrd hf hs hPx hu hub hfp=>?_)).mono fun r m' hq=>?_)
      · have nfoot:∀ b,m.next≤b→b<m3.next→b∉o.w::qe o.nt:=fun b h1 h2 hm=>by
          have hn:b∉o.xY:=Wo.KW h h1
          apply hn
          simp only [Wo.xY,List.mem_cons] at hm ⊢
          rcases hm with h|h<;>simp [h]
        refine (WM hx he hrd hf (by rw [hs]; exact ht) hnd hth (hub.boxes g3 (by omega) (nfoot _ (by omega) (by omega))) (hub.boxes k3 (by omega) (nfoot _ (by omega) (by omega)))).mono fun r m' hq=>?_
        obtain ⟨x',a1,a2,a3,a4⟩:=hq
        exact ⟨x',a1,a2,a3,a4.imp id fun ⟨z1,z2,root',U',z3,z4,z5,z6⟩=>⟨z1,z2,root',U',z3,z4,by rw [← hs]; exact z5,z6⟩⟩
      · obtain ⟨o',ns',b1,b2,b3,b4⟩:=hq
        have nx:Nx o o' m m':=(Nx.of0 u03).trans b2
        rcases b4 with ⟨d1,rfl,d3⟩|⟨v,rfl,root',U',rfl,d3,d4,d5⟩
        · simp -implicitDefEqProofs only [st0,qc,reduceIte,xt0,xt1,d8]
          exact ⟨o',ns',b1,nx,by omega,.inr (.inl ⟨trivial,d1,trivial,d3⟩)⟩
        · simp -implicitDefEqProofs only [st0,qc,reduceIte,xt0,xt1,d0]
          exact ⟨o',ns',b1,nx,by omega,.inr (.inr ⟨trivial,root',U',rfl,d3,d4,d5⟩)⟩
end Go.Fx.Tryz
namespace Go.Fx.Tryz
open Go Go.Fx
def Ks (R:Nat→List Nat→Prop):List Nat→List Nat→Prop
 | [],U=>U=[]
 | p::ps,U=>∃ U1 U2,R p U1∧Ks R ps U2∧U=U1++U2
end Go.Fx.Tryz
