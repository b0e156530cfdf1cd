/- Parts of a proof: TreeZ, TreeMa, TreeMb, TreeMc, TreeMd, TreeRe, TreeSh, TreeDo, TreePu, DuA, DuB. Conditions: none. -/
import Derived.Test.YtbhdhhgpfanmcaaGreatDoorQo19
set_option linter.unusedSimpArgs false
set_option linter.unusedVariables false
namespace Go.Fx.Tryz
open Go Go.Fx
theorem qbw {A B B' C:List Nat} (h:(A++(B++C)).Nodup) (hB:B'.Nodup) (hd:∀ q∈A++C,q∉B'):(A++(B'++C)).Nodup:=by
 rw [List.nodup_append,List.nodup_append] at h ⊢
 obtain ⟨h1,⟨_,h2,_⟩,h3⟩:=h
 refine ⟨h1,⟨hB,h2,fun a ha b hb e=>?_⟩,fun a ha b hb e=>?_⟩
 ·subst e; exact hd a (List.mem_append.2 (.inr hb)) ha
 ·subst e
  rcases List.mem_append.1 hb with hb|hb
  ·exact hd a (List.mem_append.2 (.inl ha)) hb
  ·exact h3 a ha a (List.mem_append.2 (.inr hb)) rfl
theorem qbv {A B C:List Nat} (h:(A++(B++C)).Nodup):B.Nodup∧∀ q∈A++C,q∉B:=by
 rw [List.nodup_append,List.nodup_append] at h
 obtain ⟨h1,⟨h4,h2,h5⟩,h3⟩:=h
 refine ⟨h4,fun q hq hB=>?_⟩
 rcases List.mem_append.1 hq with hq|hq
 ·exact h3 q hq q (List.mem_append.2 (.inl hB)) rfl
 ·exact h5 q hB q hq rfl
theorem qcJ {ks:List Bs} {ps:List Nat} (h:zt (Nd.nd ks ps)≤256):(ks.map fun k=>3+k.length).sum≤252:=by
 have:4+(ks.map fun k=>3+k.length).sum≤256:=h
 omega
theorem HH {n:Nd} (h:zt n≤256):wtN n:=by
 unfold zt at h; unfold wtN
 cases hl:n.leaf with
 | true=>rw [hl,if_pos rfl] at h; rw [if_pos rfl]; omega
 | false=>rw [hl,if_neg (by simp)] at h; rw [if_neg (by simp)]; omega
theorem qbI {s s1:Nat→Option Bs} {h c p:Nat} {lo lo':Bs} {hi hi':Option Bs} {ks:List Bs} {ps:List Nat} {l0 l1 l2:List Pr} {S0 S1 S2:List Nat} {pts:List Pt} (hr:qT (Nd.nd ks ps)=true) (hsz:zt (Nd.nd ks ps)≤256) (hk:∀ k∈ks,inK lo hi k) (hne:ks≠[])
  (e1:ps=ps.take c++p::ps.drop (c+1)) (hc:c≤ks.length) (e2:FL (Tr s h) lo (ks.take c) (ps.take c) lo' l0 S0) (e4:FR (Tr s h) hi' hi (ks.drop c) (ps.drop (c+1)) l2 S2) (hkeep:∀ q∈S0++S2,s1 q=s q) (hs:∀ q,s1 q≠none→1≤q∧q≤65535) (hP:Pts s1 (Tr s1 h) h p lo' hi' pts l1 S1) :
  Nt s1 (h+1) (wg (Nd.nd ks ps) c pts) lo hi (l0++(l1++l2)) (S0++(S1++S2))∧qT (wg (Nd.nd ks ps) c pts)=true∧wtN (wg (Nd.nd ks ps) c pts)∧neN (wg (Nd.nd ks ps) c pts):=by
 have i1:ps.length=ks.length+1:=(zH hr rfl).2.1
 have f0:=qaQ (R':=Tr s1 h) _ _ _ _ _ _ (fun p lo hi l T hT ht=>kY h p lo hi l T (fun q hq=>hkeep q (List.mem_append.2 (.inl (hT q hq)))) ht) e2
 have f2:=qfy (R':=Tr s1 h) (fun p lo hi l T hT ht=>kY h p lo hi l T (fun q hq=>hkeep q (List.mem_append.2 (.inr (hT q hq)))) ht) e4
 have ek:ks=ks.take c++ks.drop c:=(List.take_append_drop _ _).symm
 rcases hP with ⟨rfl,hT⟩|⟨k,q,la,lb,Sa,Sb,rfl,a1,a2,a3,a4,rfl,rfl,_⟩
 ·rw [qhW e1 hc i1]
  refine ⟨⟨ks,ps,rfl,hk,?_⟩,hr,HH hsz,by simpa [neN,Nd.nd] using hne⟩
  have:=Yp _ _ _ _ _ _ f0 hT f2
  rwa [List.take_append_drop,← e1] at this
 ·rw [qhV hc i1]
  exact qaU (p0:=p) (by rw [List.take_append_drop,← e1]; exact hr) (by rw [List.take_append_drop]; exact qcJ hsz) (by rw [List.take_append_drop]; exact hk) hs f0 f2 a1 a2 a3 a4
def qjT (x:Wx) (m:Mem) (N h page:Nat) (lo:Bs) (hi:Option Bs) (l:List Pr) (U:List Nat) (r:Value) (m':Mem):Prop :=
 (4≤l.length∧∃ x',XR x' m'∧Kin x x'∧x'.err=8∧Upd x.fp m m') ∨
 ∃ x' ps U',XR x' m'∧Kin x x'∧x'.err=0∧x'.rd≤x.rd+N∧Fu x'.o∧RSl m.next xg m' r ps∧Pts x'.o.s (Tr x'.o.s h) h page lo hi ps l U'∧Stp x.o.s x'.o.s U U'∧U'.Nodup∧Upd x.fp m m'
theorem Pn.here {o:Wo} {p:Nat} {n:Nd} (h:Pn o.s p n):o.has p=true∧lkL o.L p=some (xv n):=Wo.qfJ h.pg
theorem KX {o:Wo} (hP:o.P≤160):∀ q,o.s q≠none→1≤q∧q≤65535:=fun q hq=>by
 have:=kT (Fu.some hq); omega
theorem WV {n:Nd} (h:qT n=true) (hs:zt n≤256):n.kids.length≤n.keys.length+1∧n.kids.length≤200:=by
 have:=vq h hs
 cases hl:n.leaf with
 | true=>have:=(jn h hl).2.1; rw [this]; simp
 | false=>have:=(zH h hl).2.1; omega
theorem HV {s:Nat→Option Bs} {n:Nd} {g page:Nat} {lo:Bs} {hi:Option Bs} {ps:List Pt} {l:List Pr} {U:List Nat} (h:Pts s (fun p lo hi l S=>∃ S0,Pn s p n∧Nt s g n lo hi l S0∧S=p::S0) g page lo hi ps l U) :
  Pts s (Tw s g) g page lo hi ps l U∧(neN n→Pts s (Tr s g) g page lo hi ps l U):=by
 rcases h with ⟨e,S0,h1,h2,h3⟩|h
 ·exact ⟨.inl ⟨e,n,S0,h1,h2,h3⟩,fun hn=>.inl ⟨e,js.2 ⟨n,S0,h1,hn,h2,h3⟩⟩⟩
 ·exact ⟨.inr h,fun _=>.inr h⟩
set_option maxRecDepth 4000 in
theorem qeq {key val:Bs} (hk:key≠[]∧key.length≤32) (hv:val.length≤40):∀ (h:Nat) (x:Wx) (m:Mem) (page left:Nat) (lo:Bs) (hi:Option Bs) (l:List Pr) (U:List Nat),XR x m→x.err=0→x.rd+h<1000→Fu x.o→h<left→left≤40 →
  Tr x.o.s h page lo hi l U→U.Nodup→inR lo hi key→W (Call S tab 91 [x.v,.int .i64 (page:Int),.int .i64 (left:Int),str key,str val] m) (qjT x m (h+1) h page lo hi (xD l key val) U):=by
 intro h
 induction h with
 | zero =>
  intro x m page left lo hi l U hx he hrd hf hle hl40 ht hnd hin
  obtain ⟨n,U',hp,hn,hnt,rfl⟩:=js.1 ht
  have hnt0:n=Nd.lf l∧(∀ x∈l,inR lo hi x.1)∧U'=[]:=hnt
  obtain ⟨rfl,hl,rfl⟩:=hnt0
  obtain ⟨hh,hlk⟩:=hp.here
  have hlt:=kT hh
  have hP:=hx.wr.hP
  have fpl:=hx.JP
  rw [C91]
  refine qo.2 ((Js hx he (by omega) (by omega) (by omega) hh hlk hp.rt hp.sz).mono fun v1 m1 ⟨t1,h1,u1⟩=>?_)
  have x1:=u1.next
  have hT:=t1
  obtain ⟨sp,sk,si,rfl,q1,q2,q3⟩:=t1.ex
  simp -implicitDefEqProofs only [st0,qb,reduceIte]
  refine jJ (c:=[.bool (Nd.lf l).leaf,sp,sk,si]) rfl rfl (by simp [q1.one.2,q2.one.2,q3.one.2,show (Value.bool (Nd.lf l).leaf).oneCell'=true from rfl]) fun m2 b2 u2 n2=>?_
  have h2:=h1.qx u2
  have T2:=hT.qx u2
  have e5:=xok h2
  rw [decide_eq_true (show ({ x with rd:=x.rd+1 }:Wx).err=0 from he)] at e5
  have hlf:(Nd.lf l).leaf=true:=rfl
  rw [hlf] at b2
  simp -implicitDefEqProofs only [st0,qb,reduceIte,e5,fa,zl b2 (o:=0+0) rfl,qO b2]
  obtain ⟨_,_,r1,v1⟩:=jn hp.rt rfl
  have hrow:rowP l:=⟨r1,fun p hp=>(v1 p hp).2.2⟩
  obtain ⟨w1,w2,w3,w4⟩:=Wy hrow hk hv
  have hsz:2+(l.map qI).sum≤256:=hp.sz
  refine qo.2 ((KQ key val T2 (Kh hp.rt (HH hp.sz)) (by omega)).mono fun v3 m3 ⟨t3,u3⟩=>?_)
  have t3:TN m2.next m3 v3 (Nd.lf (xD l key val)):=t3
  have x3:=u3.next
  have h3:=h2.qx u3
  have hnt3:Nt x.o.s 0 (Nd.lf (xD l key val)) lo hi (xD l key val) []:=⟨rfl,fun y hy=>by
   rcases w2 y hy with hy|rfl
   ·exact hl y hy
   ·exact hin,rfl⟩
  have hr3:=wT w1.1 w1.2
  have u03:Upd x.fp m m3:=((u1.mono (fun b hb _=>by simp at hb; simp [Wx.fp,hb])).qz u2).qz u3
  refine qo.2 ((Ww h3 he hf (by rw [show ({ x with rd:=x.rd+1 }:Wx).o=x.o from rfl,hp.pg]; simp) t3 hr3 (by show ((xD l key val).map qI).sum≤344; omega) hnt3 (by simp) (by simp)).mono fun r4 m4 hq=>?_)
  simp -implicitDefEqProofs only [st0,qb,reduceIte]
  rcases hq with ⟨a1,x',a2,a3,a4,a5⟩|⟨x',ps,S',a1,a2,a3,a4,a5,a6,a7,a8,a9,a10⟩
  ·exact .inl ⟨qhF hnt3 hr3 a1,x',a2,⟨a3.w,a3.pm,a3.c,a3.p,a3.P,a3.nt,a3.hd,a3.xb,a3.rest,a3.t⟩,a4,u03.trans a5⟩
  ·exact .inr ⟨x',ps,S',a1,⟨a2.w,a2.pm,a2.c,a2.p,a2.P,a2.nt,a2.hd,a2.xb,a2.rest,a2.t⟩,a3,by rw [a4]; exact Nat.le_refl _,a5,a6.low (by omega),(HV a7).2 (by simpa [neN,Nd.lf] using w4),a8,a9,u03.trans a10⟩
 | succ h ih =>
  intro x m page left lo hi l U hx he hrd hf hle hl40 ht hnd hin
  obtain ⟨n,U',hp,hn,hnt,rfl⟩:=js.1 ht
  obtain ⟨ks,ps,rfl,hks,hfo⟩:=hnt
  have hne:ks≠[]:=by simpa [neN,Nd.nd] using hn
  obtain ⟨hh,hlk⟩:=hp.here
  have hlt:=kT hh
  have hP:=hx.wr.hP
  have fpl:=hx.JP
  obtain ⟨_,i1,r1,v1,p1⟩:=zH hp.rt rfl
  have i1:ps.length=ks.length+1:=i1
  have r1:qC ks=true:=r1
  have p1:∀ k∈ps,1≤k∧k≤65535:=p1
  have hcl:=(vU key ks r1).2.2
  obtain ⟨p,lo',hi',l0,l1,l2,S0,S1,S2,e1,e2,e3,e4,e5,e6,e7,e8,e9⟩:=qel (Ja x.o.s h) hfo r1 hks hin
  subst e5 e6
  rw [C91]
  refine qo.2 ((Js hx he (by omega) (by omega) (by omega) hh hlk hp.rt hp.sz).mono fun v1 m1 ⟨t1,h1,u1⟩=>?_)
  have x1:=u1.next
  have hT:=t1
  obtain ⟨sp,sk,si,rfl,q1,q2,q3⟩:=t1.ex
  have q3:RSl m.next xd m1 si ps:=q3
  simp -implicitDefEqProofs only [st0,qb,reduceIte]
  refine jJ (c:=[.bool (Nd.nd ks ps).leaf,sp,sk,si]) rfl rfl (by simp [q1.one.2,q2.one.2,q3.one.2,show (Value.bool (Nd.nd ks ps).leaf).oneCell'=true from rfl]) fun m2 b2 u2 n2=>?_
  have h2:=h1.qx u2
  have T2:=hT.qx u2
  have z5:=xok h2
  rw [decide_eq_true (show ({ x with rd:=x.rd+1 }:Wx).err=0 from he)] at z5
  have hlf:(Nd.nd ks ps).leaf=false:=rfl
  rw [hlf] at b2
  simp -implicitDefEqProofs only [st0,qb,reduceIte,z5,fa,zl b2 (o:=0+0) rfl,qO b2]
  refine qo.2 ((Yd key T2 (Kh hp.rt (HH hp.sz))).mono fun v3 m3 ⟨r3,u3⟩=>?_)
  subst r3
  have x3:=u3.next
  have h3:=h2.qx u3
  have b3:=qA u3 (by omega) b2
  have q33:=(q3.qx u2).qx u3
  have hclt:zS ks key<ps.length:=by omega
  have hget:ps[zS ks key]? = some p:=by
   have:=congrArg (fun t:List Nat=>t[zS ks key]?) e1
   rw [this,List.getElem?_append_right (by rw [List.length_take]; omega),List.length_take,Nat.min_eq_left (by omega),Nat.sub_self]; rfl
  obtain ⟨pk,y1,_,y2⟩:=q33.1.index .i64 hget
  rw [jy] at y1
  have y2:=y2 (.int .i64 (p:Int)) rfl
  have esub:arith .sub (.int .i64 (left:Int)) (.int .i64 1)=some (.int .i64 ((left - 1:Nat):Int)):=by rw [jf (by omega) (by omega)]; congr 2; omega
  have y1':qq 1 si (.int .i64 ((zS (Nd.nd ks ps).keys key:Nat):Int))=some pk:=y1
  simp -implicitDefEqProofs only [st0,qb,reduceIte,fa,zl b3 (o:=0+3) rfl,y1',y2,esub]
  have u03:Upd x.fp m m3:=((u1.mono (fun b hb _=>by simp at hb; simp [Wx.fp,hb])).qz u2).qz u3
  rw [List.nodup_cons] at hnd
  obtain ⟨hpU,hndU⟩:=hnd
  obtain ⟨nd1,nd2⟩:=qbv hndU
  refine qo.2 ((ih { x with rd:=x.rd+1 } m3 p (left - 1) lo' hi' l1 S1 h3 he (by show x.rd+1+h<1000; omega) hf (by omega) (by omega) e3 nd1 e7).mono fun v4 m4 hq=>?_)
  have eput:xD (l0++(l1++l2)) key val=l0++(xD l1 key val++l2):=HW e8 (fun y hy=>⟨xm (e9 y hy),(XI (e9 y hy)).symm⟩)
  rw [eput]
  rcases hq with ⟨a0,x',a1,a2,a3,a4⟩|⟨x',pts,S1',a1,a2,a3,a4,a5,a6,a7,a8,a9,a10⟩
  ·have z6:=xok a1
   rw [decide_eq_false (show ¬ x'.err=0 by omega),a2.v] at z6
   simp -implicitDefEqProofs only [st0,qb,reduceIte,z6]
   exact .inl ⟨by simp only [List.length_append]; omega,x',a1,⟨a2.w,a2.pm,a2.c,a2.p,a2.P,a2.nt,a2.hd,a2.xb,a2.rest,a2.t⟩,a3,u03.trans a4⟩
  ·have z6:=xok a1
   rw [decide_eq_true a3,a2.v] at z6
   have a2':Kin x x':=⟨a2.w,a2.pm,a2.c,a2.p,a2.P,a2.nt,a2.hd,a2.xb,a2.rest,a2.t⟩
   have a8:Stp x.o.s x'.o.s S1 S1':=a8
   have a10:Upd x.fp m3 m4:=a10
   have x4:=a10.next
   have b4:m4.get m1.next=_:=(a10.same _ (by omega) (fun hm=>by have:=fpl _ hm; omega)).trans b3
   have T4:=((T2.qx u3).upd a10 (fun b hb=>fpl b hb))
   have hkp:=WV hp.rt hp.sz
   have hu:∀ q∈page::(S0++(S1++S2)),x.o.s q≠none:=vX x.o.s (h+1) page lo hi _ _ ht
   have hkeep:∀ q∈S0++S2,x'.o.s q=x.o.s q∧q∉S1':=fun q hq=>a8.jB (nd2 q hq) (hu q (by
    simp only [List.mem_cons,List.mem_append] at hq ⊢
    rcases hq with h|h<;>simp [h]))
   have hpk:=a8.jB (q:=page) (fun h=>hpU (by simp [h])) (hu page (by simp))
   obtain ⟨f1,f2,f3,f4⟩:=qbI (s1:=x'.o.s) hp.rt hp.sz hks hne e1 hcl e2 e4 (fun q hq=>(hkeep q hq).1) (KX a1.wr.hP) a7
   simp -implicitDefEqProofs only [st0,qb,reduceIte,z6,qO b4]
   have hpl:pts.length≤2:=by
    rcases a7 with ⟨rfl,_⟩|⟨k,q,la,lb,Sa,Sb,rfl,_⟩<;>simp
   refine qo.2 ((qes (k:=zS ks key) T4 (a6.low (lo':=m.next) (by omega)) hpl (by omega) hkp.1 hkp.2).mono fun v5 m5 ⟨t5,u5⟩=>?_)
   have x5:=u5.next
   have h5:=a1.qx u5
   have hev:x.v=x'.v:=a2.v.symm
   rw [hev]
   have u05:Upd x.fp m m5:=(u03.trans a10).qz u5
   have hnd':(S0++(S1'++S2)).Nodup:=qbw hndU a9 (fun q hq=>(hkeep q hq).2)
   have hpS:page∉S0++(S1'++S2):=by
    simp only [List.mem_append,not_or] at hpU ⊢
    exact ⟨hpU.1,hpk.2,hpU.2.2⟩
   refine qo.2 ((Ww h5 a3 a5 (by rw [hpk.1]; exact hu page (by simp)) t5 f2 f3 f1 hpS hnd').mono fun r6 m6 hq=>?_)
   simp -implicitDefEqProofs only [st0,qb,reduceIte]
   have hst:Stp x.o.s x'.o.s (page::(S0++(S1++S2))) (page::(S0++(S1'++S2))):=a8.ctx (T:=page::(S0++S2)) (fun q=>by simp only [List.mem_cons,List.mem_append]; grind) (fun q=>by simp only [List.mem_cons,List.mem_append]; grind)
   rcases hq with ⟨d1,x'',d2,d3,d4,d5⟩|⟨x'',ps',S',d1,d2,d3,d4,d5,d6,d7,d8,d9,d10⟩
   ·exact .inl ⟨qhF f1 f2 d1,x'',d2,a2'.trans d3,d4,by rw [a2'.fp] at d5; exact u05.trans d5⟩
   ·refine .inr ⟨x'',ps',S',d1,a2'.trans d2,d3,?_,d5,d6.low (by omega),(HV d7).2 f4,hst.trans d8,d9,by rw [a2'.fp] at d10; exact u05.trans d10⟩
    have a4:x'.rd≤x.rd+1+(h+1):=a4
    omega
end Go.Fx.Tryz
namespace Go.Fx.Tryz
open Go Go.Fx
theorem qio {lo:Nat} {m:Mem} {si:Value} {ps:List Nat} (h:RSl lo xd m si ps) {i p:Nat} (hi:ps[i]? = some p):∃ pk,qq 1 si (.int .i64 (i:Int))=some pk∧∀ M,RSl lo xd M si ps→qc pk M=some (.int .i64 (p:Int)):=by
 obtain ⟨b,off,h1,h2⟩:=h.1.at .i64 hi
 rw [jy] at h1
 refine ⟨_,h1,fun M hM=>?_⟩
 have:=(h2 M hM.1).2 0 (.int .i64 (p:Int)) rfl
 rwa [Nat.add_zero] at this
theorem qdr {lo:Nat} {m:Mem} {sk:Value} {ks:List Bs} (h:RSl lo encS m sk ks) {i:Nat} {k:Bs} (hi:ks[i]? = some k):∃ pk,qq 1 sk (.int .i64 (i:Int))=some pk∧∀ M,RSl lo encS M sk ks→qc pk M=some (str k):=by
 obtain ⟨b,off,h1,h2⟩:=h.1.at .i64 hi
 rw [zZ] at h1
 refine ⟨_,h1,fun M hM=>?_⟩
 have:=(h2 M hM.1).2 0 (str k) rfl
 rwa [Nat.add_zero] at this
section
variable {x:Wx} {m:Mem}
end
end Go.Fx.Tryz
namespace Go.Fx.Tryz
open Go Go.Fx
section
variable {s:Nat→Option Bs} {h:Nat} {lo:Bs} {hi:Option Bs} {ks:List Bs} {ps:List Nat} {l:List Pr} {U:List Nat} {j:Nat} {na nb:Nd} {key:Bs} {p1 p2:Nat} {kc kd:List Bs} {pc pd:List Nat} {lo1:Bs} {hi1:Option Bs} {m0 la lb m2:List Pr} {T0 Ta Tb T2:List Nat}
end
end Go.Fx.Tryz
namespace Go.Fx.Tryz
open Go Go.Fx
section
variable {x:Wx} {m:Mem}
theorem Wb {n:Nd} (h:qT n=true) (hs:zt n≤256):n.Fit:=Kh h (HH hs)
end
end Go.Fx.Tryz
namespace Go.Fx.Tryz
open Go Go.Fx
section
variable {x:Wx} {m:Mem}
end
end Go.Fx.Tryz
namespace Go.Fx.Tryz
open Go Go.Fx
section
variable {x:Wx} {m:Mem}
end
end Go.Fx.Tryz
namespace Go.Fx.Tryz
open Go Go.Fx
def TrR (s:Nat→Option Bs) (root:Nat) (l:List Pr) (U:List Nat):Prop:=(root=0∧l=[]∧U=[])∨∃ h,Tr s h root [] none l U
section
variable {x:Wx} {m:Mem}
theorem qgU (h:XR x m) (he:x.err≠0) (v:Value):Call S tab 90 [x.v,v] m=some (.int .i64 0,m):=by
 refine W_eq ?_
 have e1:=xok h
 rw [decide_eq_false he] at e1
 rw [C90]
 simp -implicitDefEqProofs only [st0,qb,reduceIte,e1]
 exact ⟨trivial,trivial⟩
theorem qeL {k:Bs} {p q:Nat} (hk:k≠[]∧k.length≤32) (hp:1≤p∧p≤65535) (hq:1≤q∧q≤65535):qT (Nd.nd [k] [p,q])=true∧zt (Nd.nd [k] [p,q])≤256:=by
 refine ⟨wS rfl (by simp [qC,hk.1,hk.2]) (fun j hj=>?_),?_⟩
 ·simp only [List.mem_cons,List.not_mem_nil,or_false] at hj
  rcases hj with rfl|rfl<;>assumption
 ·show 4+(([k].map fun k=>3+k.length).sum)≤256
  simp; omega
theorem qbk {lo h page:Nat} {vp:Value} {ps:List Pt} {l:List Pr} {U:List Nat} {R:TP} (hx:XR x m) (he:x.err=0) (hf:Fu x.o) (hfp:∀ b∈x.fp,b<lo) (hv:RSl lo xg m vp ps) (hP:Pts x.o.s R h page [] none ps l U) (hnd:U.Nodup) :
  W (Call S tab 90 [x.v,vp] m) fun r m'=>(4≤l.length∧∃ x',XR x' m'∧Kin x x'∧x'.err=8∧Upd x.fp m m') ∨
   ∃ (x':Wx) (root:Nat) (U':List Nat),r=.int .i64 (root:Int)∧XR x' m'∧Kin x x'∧x'.err=0∧x'.rd=x.rd∧Fu x'.o∧Stp x.o.s x'.o.s U U'∧U'.Nodup∧Upd x.fp m m'∧((x'.o=x.o∧root=page∧U'=U∧R page [] none l U)∨Tr x'.o.s (h+1) root [] none l U'):=by
 have hP160:=hx.wr.hP
 have hu20:=hx.wr.hu
 rcases hP with ⟨rfl,hR⟩|⟨k,q,la,lb,Sa,Sb,rfl,a1,a2,a3,a4,rfl,rfl,h4⟩
 ·exact zs.2 (.inr ⟨x,page,U,rfl,hx,Kin.refl x,he,rfl,hf,Stp.refl _ _,hnd,Upd.refl _ _,.inl ⟨rfl,rfl,rfl,hR⟩⟩) |>.of_eq (qgT hx he hv)
 ·have hup:x.o.s page≠none∧∃ S',Sa=page::S':=by
   obtain ⟨n,S',hp,_,_,e⟩:=js.1 a3
   exact ⟨by rw [hp.pg]; simp,S',e⟩
  have huq:x.o.s q≠none∧∃ S',Sb=q::S':=by
   obtain ⟨n,S',hp,_,_,e⟩:=js.1 a4
   exact ⟨by rw [hp.pg]; simp,S',e⟩
  obtain ⟨r1,r2⟩:=qeL (p:=page) (q:=q) a2 (KX hP160 page hup.1) (KX hP160 q huq.1)
  have sub1:∀ b,b∈[x.xb]→b∈x.fp:=fun b hb=>by simp at hb; simp [Wx.fp,hb]
  refine (qgS hx he hv (fun b hb=>by
   have h1:=(hv.2 b hb).1
   have f1:=hfp x.o.w (by simp [Wx.fp]); have f2:=hfp x.o.pm (by simp [Wx.fp]); have f3:=hfp x.xb (by simp [Wx.fp])
   exact ⟨by omega,by omega,by omega⟩) r1 r2).mono fun r m' hc=>?_
  rcases hc with ⟨h8,u8⟩|⟨n,c1,c2,y1,y2,y3,rfl,h8,u8⟩
  ·exact .inl ⟨h4,_,h8,⟨rfl,rfl,rfl,rfl,rfl,rfl,rfl,rfl,rfl,rfl⟩,rfl,u8.mono fun b hb _=>sub1 b hb⟩
  ·have hn0:x.o.s n=none:=YI y3
   have es1:=Wo.KG hu20 hP160 y1 y2 y3 (qp 256) c1
   have f1:=hf.take hu20 hP160 y1 y2 y3 (qp 256) c1
   have hh:Wo.has { x.o with u:=xx x.o.u n,L:=upL x.o.L n (qp 256) c1 } n=true:=by
    apply Fu.some; rw [es1]; simp [ji]
   have es2:=Wo.wO hh (xv (Nd.nd [k] [page,q])) c2
   have f2:=f1.write hh (xv (Nd.nd [k] [page,q])) c2
   rw [es1] at es2
   have hout:∀ j,j≠n→ji (ji x.o.s n (some (qp 256))) n (some (xv (Nd.nd [k] [page,q]))) j=x.o.s j:=fun j hj=>by unfold ji; rw [if_neg hj,if_neg hj]
   have hnU:n∉Sa++Sb:=fun hm=>by
    rcases List.mem_append.1 hm with hm|hm
    ·exact vX _ _ _ _ _ _ _ a3 n hm hn0
    ·exact vX _ _ _ _ _ _ _ a4 n hm hn0
   have hfr:∀ j∈Sa++Sb,ji (ji x.o.s n (some (qp 256))) n (some (xv (Nd.nd [k] [page,q]))) j=x.o.s j:=fun j hj=>hout j (by rintro rfl; exact hnU hj)
   refine .inr ⟨_,n,n::(Sa++Sb),rfl,h8,Kin.o x ⟨rfl,rfl,rfl,rfl,rfl,rfl,rfl⟩,he,rfl,f2,?_,List.nodup_cons.2 ⟨hnU,hnd⟩,u8,.inr ?_⟩
   ·rw [es2]
    exact ⟨fun j h1 h2=>hout j (fun e=>h2 (by simp [e])),fun j hj=>(List.mem_cons.1 hj).elim (fun e=>.inr (by rw [e]; exact hn0)) .inl,fun j h1 h2=>absurd (List.mem_cons.2 (.inr h1)) h2⟩
   ·rw [es2]
    refine js.2 ⟨_,_,⟨by simp [ji],r1,r2⟩,by simp [neN,Nd.nd],⟨[k],[page,q],rfl,fun j hj=>by simp at hj; subst hj; exact a1,la,Sa,lb,Sb,?_,?_,rfl,rfl⟩,rfl⟩
    ·exact kY h _ _ _ _ _ (fun j hj=>hfr j (List.mem_append.2 (.inl hj))) a3
    ·exact kY h _ _ _ _ _ (fun j hj=>hfr j (List.mem_append.2 (.inr hj))) a4
end
end Go.Fx.Tryz
namespace Go.Fx.Tryz
open Go Go.Fx
structure WI (o:Wo) (ns:List St) (m:Mem):Prop where
 wr:WR o m
 nt:TAp wE 152 m o.nt ns
 dj:∀ b∈qf o.nt,b≠o.w∧b≠o.pm∧b≠o.c∧b≠o.p
 fu:Fu o
def Wo.zr (o:Wo):List Nat:=o.w::o.pm::qf o.nt
theorem WI.upd {o:Wo} {ns:List St} {m m':Mem} {fp:List Nat} (h:WI o ns m) (hu:Upd fp m m') (hf:∀ b∈fp,b∉o.zr∧b≠o.c∧b≠o.p):WI o ns m':=by
 have k:∀ b∈fp,b≠o.w∧b≠o.pm∧b∉qf o.nt:=fun b hb=>by
  have:=(hf b hb).1
  simp only [Wo.zr,List.mem_cons,not_or] at this
  exact this
 exact ⟨h.wr.upd hu fun b hb=>⟨(k b hb).1,(k b hb).2.1,(hf b hb).2⟩,h.nt.upd hu fun b hb hm=>(k b hm).2.2 hb,h.dj,h.fu⟩
theorem WI.qx {o:Wo} {ns:List St} {m m':Mem} (h:WI o ns m) (hu:Upd [] m m'):WI o ns m':=h.upd hu fun b hb=>by cases hb
theorem WI.lt {o:Wo} {ns:List St} {m:Mem} (h:WI o ns m):∀ b∈o.zr,b<m.next:=fun b hb=>by
 rcases List.mem_cons.1 hb with rfl|hb
 ·exact h.wr.lw
 ·rcases List.mem_cons.1 hb with rfl|hb
  ·exact h.wr.lm
  ·exact h.nt.lt b hb
structure Nx (o o':Wo) (m m':Mem):Prop where
 w:o'.w=o.w
 c:o'.c=o.c
 p:o'.p=o.p
 P:o'.P=o.P
 upd:Upd o.zr m m'
 grow:∀ b∈o'.zr,b∈o.zr∨m.next≤b
theorem Nx.of0 {o:Wo} {m m':Mem} (h:Upd [] m m'):Nx o o m m':=⟨rfl,rfl,rfl,rfl,h.nil',fun b hb=>.inl hb⟩
theorem Nx.trans {o o' o'':Wo} {m m' m'':Mem} (h:Nx o o' m m') (k:Nx o' o'' m' m''):Nx o o'' m m'' :=
 ⟨k.w.trans h.w,k.c.trans h.c,k.p.trans h.p,k.P.trans h.P,h.upd.then' k.upd h.grow,fun b hb=>(k.grow b hb).elim (h.grow b) fun hb=>.inr (Nat.le_trans h.upd.next hb)⟩
structure Gr (ns ns':List St):Prop where
 len:ns'.length≤ns.length+1
 pre:ns <+: ns'
theorem Gr.rfl' (ns:List St):Gr ns ns:=⟨Nat.le_succ _,List.prefix_refl _⟩
theorem Gr.one (ns:List St) (s:St):Gr ns (ns++[s]):=⟨by simp,List.prefix_append ..⟩
theorem qgK (f:FuncId) (h:Nat.blt f yBase=true) (l:Array Value):jV (.func (.func f) #[] l)=some (f,[],l.toList):=by simp [jV,h]
theorem qdD (w:Nat):qy [.pointer none,.int .i64 0,.int .i64 0] [(0,1,.pointer (some ⟨w,0,none⟩))]=some [.pointer (some ⟨w,0,none⟩),.int .i64 0,.int .i64 0]:=by kernel_rfl
abbrev x0 (o:Wo) (xb:Nat):Wx:=⟨o,xb,[],142,0,0⟩
theorem XR.begin {o:Wo} {m:Mem} (h:WR o m):XR (x0 o m.next) (m.add (x0 o m.next).blk):=by
 refine ⟨h.qx (Upd.add _ _ _),Mem.qh ..,by show m.next<m.next+1; omega,?_⟩
 have w1:=h.lw; have w2:=h.lm; have w3:=h.lc; have w4:=h.lp
 exact ⟨by show m.next≠o.w; omega,by show m.next≠o.pm; omega,by show m.next≠o.c; omega,by show m.next≠o.p; omega⟩
theorem qjv {o:Wo} {ns:List St} {m:Mem} (h:WI o ns m) (hnl:ns.length≤90000) {root:Value} {f:FuncId} (hfy:Nat.blt f yBase=true) {caps:Array Value} {E:Prop} {Q:Value→Wo→Prop}
  (hbody:∀ (x:Wx) (m1:Mem),XR x m1→x.err=0→x.rd=0→Fu x.o→x.o.s=o.s→x.o.P=o.P→x.o.u=o.u→Upd (o.w::qf o.nt) m m1→(∀ b∈x.fp,b∈o.zr∨m.next≤b) →
   W (Call S tab f (x.v::caps.toList) m1) fun r m2=>∃ x',XR x' m2∧Kin x x'∧Upd x.fp m1 m2∧((x'.err=8∧E)∨(x'.err=0∧Fu x'.o∧Q r x'.o))) :
  W (Call S tab 88 [.pointer (some ⟨o.w,0,none⟩),root,.func (.func f) #[] caps] m) fun r m'=>∃ o' ns',WI o' ns' m'∧Nx o o' m m'∧Gr ns ns' ∧
   ((E∧r=.tuple #[root,.int .i64 8]∧o'.s=o.s)∨∃ v,r=.tuple #[v,.int .i64 0]∧Q v o'):=by
 have hw:=h.wr
 have w1:=hw.lw; have w2:=hw.lm; have w3:=hw.lc; have w4:=hw.lp
 rw [C88]
 simp -implicitDefEqProofs only [st0,qb,reduceIte,qdD,qR]
 have hxr:=XR.begin hw
 have u1:Upd [] m (m.add (x0 o m.next).blk):=Upd.add _ _ _
 have n1:(m.add (x0 o m.next).blk).next=m.next+1:=rfl
 have eblk:(⟨.cells [.pointer (some ⟨o.w,0,none⟩),.int .i64 0,.int .i64 0] 142,false,none⟩:ABlk)=(x0 o m.next).blk:=rfl
 rw [eblk]
 generalize (m.add (x0 o m.next).blk)=m1 at u1 n1 hxr
 refine qo.2 ((HL (hw.qx u1) (h.nt.qx u1) (by omega) h.dj).mono fun r2 m2 hq=>?_)
 obtain ⟨rfl,pm',nt',k,r2,t2,k2,d2,g2,l2,l2',u2⟩:=hq
 have x2:=u2.next
 have nin:m.next∉o.w::qf o.nt:=fun hm=>by
  rcases List.mem_cons.1 hm with e|e
  ·omega
  ·have:=h.nt.lt _ e; omega
 have hx2:XR (x0 { o with nt:=nt' } m.next) m2:=⟨r2,(u2.same m.next (by omega) nin).trans hxr.hx,by show m.next<m2.next; omega,hxr.ne⟩
 have hs2:Wo.s { o with nt:=nt' } = o.s:=rfl
 have hfu2:Fu { o with nt:=nt' }:=h.fu
 have u02:Upd (o.w::qf o.nt) m m2:=u1.nil'.trans u2
 have bnt:∀ b∈qf nt',b≠o.w∧b≠o.pm∧b≠o.c∧b≠o.p∧b≠m.next:=fun b hb=>by
  rcases k2 b hb with e|e
  ·have:=h.nt.lt b e; exact ⟨(h.dj b e).1,(h.dj b e).2.1,(h.dj b e).2.2.1,(h.dj b e).2.2.2,by omega⟩
  ·exact ⟨by omega,by omega,by omega,by omega,by omega⟩
 simp -implicitDefEqProofs only [st0,qb,reduceIte,qgK f hfy]
 have hfoot:∀ b∈(x0 { o with nt:=nt' } m.next).fp,b∈o.zr∨m.next≤b:=fun b hb=>by
  simp only [Wx.fp,Wo.zr,List.mem_cons,List.not_mem_nil,or_false] at hb ⊢
  rcases hb with h|h|h
  ·simp [h]
  ·simp [h]
  ·right; omega
 refine qo.2 ((hbody (x0 { o with nt:=nt' } m.next) m2 hx2 rfl rfl hfu2 hs2 rfl rfl u02 hfoot).mono fun r3 m3 hq=>?_)
 obtain ⟨x',a1,a2,a3,a4⟩:=hq
 have x3:=a3.next
 have z:=xok a1
 rw [a2.v] at z
 have t3:TAp wE 152 m3 nt' (ns++[{ o.st hw.hu with pm:=pm' }]):=t2.upd a3 fun b hb hm=>by
  have:=bnt b hb
  simp only [Wx.fp,List.mem_cons,List.not_mem_nil,or_false] at hm
  rcases hm with e|e|e
  ·exact this.1 e
  ·exact this.2.1 e
  ·exact this.2.2.2.2 e
 have ew:x'.o.w=o.w:=a2.w
 have epm:x'.o.pm=o.pm:=a2.pm
 have ec:x'.o.c=o.c:=a2.c
 have ep:x'.o.p=o.p:=a2.p
 have eP:x'.o.P=o.P:=a2.P
 have ent:x'.o.nt=nt':=a2.nt
 have exb:x'.xb=m.next:=a2.xb
 have u03:Upd o.zr m m3:=(u02.mono fun b hb _=>by
  simp only [Wo.zr,List.mem_cons] at hb ⊢
  rcases hb with h|h<;>simp [h]).then' a3 hfoot
 rcases a4 with ⟨a4,hE⟩|⟨a4,a5,a6⟩
 ·rw [decide_eq_false (show ¬ x'.err=0 by omega)] at z
  have g3:m3.get pm'=some ⟨.map (esL o.L) k,false,none⟩:=(a3.same pm' l2' (fun hm=>by
   simp only [Wx.fp,List.mem_cons,List.not_mem_nil,or_false] at hm
   rcases hm with e|e|e<;>omega)).trans g2
  have hb:=qaE a1.wr (s:={ o.st hw.hu with pm:=pm' }) (by rw [ent]; exact t3) (by omega) (by rw [ent,ew]; exact fun b hb=>(bnt b hb).1) g3 (by show pm'<m3.next; omega)
  rw [ew] at hb
  simp -implicitDefEqProofs only [st0,qb,reduceIte,z]
  refine qo.2 (hb.mono fun r4 m4 hq=>?_)
  obtain ⟨rfl,pm2,nt2,hnt2,r4,t4,_,l4,l4',u4⟩:=hq
  obtain rfl:=hnt2 rfl
  have hx4:m4.get m.next=some x'.blk:=by
   rw [u4.same m.next (by omega) (by simp; omega),← exb]; exact a1.hx
  have le:qc (.pointer (some ⟨m.next,0+1,none⟩)) m4=some (.int .i64 (x'.err:Int)):=qs hx4 rfl
  rw [a4] at le
  simp -implicitDefEqProofs only [st0,qb,reduceIte,nck,fa,le]
  refine ⟨_,_,⟨r4,t4,fun b hb=>?_,?_⟩,⟨rfl,ec,ep,eP,u03.trans (u4.mono fun b hb _=>by simp at hb; simp [Wo.zr,hb]),fun b hb=>?_⟩,Gr.one ..,.inl ⟨hE,rfl,?_⟩⟩
  ·have hb':b∈qf nt':=by rw [← ent]; exact hb
   have:=bnt b hb'
   have:=t3.lt b hb'
   exact ⟨by show b≠o.w; omega,by show b≠pm2; omega,by show b≠x'.o.c; omega,by show b≠x'.o.p; omega⟩
  ·intro q
   have:=h.fu q
   unfold Wo.s Wo.has at this ⊢
   simp only [eP]
   exact this
  ·simp only [Wo.zr,List.mem_cons] at hb
   rcases hb with h|h|h
   ·left; simp [Wo.zr,h]
   ·right; omega
   ·rw [ent] at h
    rcases k2 b h with h|h
    ·left; simp [Wo.zr,h]
    ·right; omega
  ·funext q
   unfold Wo.s Wo.has
   simp only [eP]
   rfl
 ·rw [decide_eq_true a4] at z
  simp -implicitDefEqProofs only [st0,qb,reduceIte,z]
  refine ⟨x'.o,_,⟨a1.wr,by rw [ent]; exact t3,fun b hb=>?_,a5⟩,⟨ew,ec,ep,eP,u03,fun b hb=>?_⟩,Gr.one ..,.inr ⟨r3,rfl,a6⟩⟩
  ·rw [ent] at hb
   have:=bnt b hb
   rw [ew,epm,ec,ep]; exact ⟨this.1,this.2.1,this.2.2.1,this.2.2.2.1⟩
  ·simp only [Wo.zr,List.mem_cons,ew,epm,ent] at hb
   rcases hb with h|h|h
   ·left; simp [Wo.zr,h]
   ·left; simp [Wo.zr,h]
   ·rcases k2 b h with h|h
    ·left; simp [Wo.zr,h]
    ·right; omega
end Go.Fx.Tryz
namespace Go.Fx.Tryz
open Go Go.Fx
section
variable {x:Wx} {m:Mem}
theorem qgR (h:XR x m) (he:x.err=0) (hfree:∃ n,1≤n∧n<x.o.P∧xX x.o.u n=false):W (Call S tab 92 [x.v] m) fun r m' =>
  ∃ (n c:Nat),1≤n∧n<x.o.P∧xX x.o.u n=false∧r=.int .i64 (n:Int)∧XR { x with o:={ x.o with u:=xx x.o.u n,L:=upL x.o.L n (qp 256) c } } m'∧Upd [x.o.w,x.o.pm,x.xb] m m':=by
 have e1:=xok h
 rw [decide_eq_true he] at e1
 have d0:decide ((0:Int)=0)=true:=rfl
 rw [C92]
 simp -implicitDefEqProofs only [st0,qb,reduceIte,e1,nck,fa,(xld h).1]
 have hq:W (Call S tab 127 [.pointer (some ⟨x.o.w,0,none⟩)] m) fun r m'=>∃ (n c:Nat),1≤n∧n<x.o.P∧xX x.o.u n=false∧r=.tuple #[.int .i64 (n:Int),.int .i64 0]∧WR { x.o with u:=xx x.o.u n,L:=upL x.o.L n (qp 256) c } m'∧Upd [x.o.w,x.o.pm] m m':=by
  rw [qjH]
  simp -implicitDefEqProofs only [st0,qb,reduceIte,wy h.wr,d0]
  refine Ju h.wr (fun hall=>?_) (fun n m' c h1 h2 h3 h4 h5=>⟨n,c,h1,h2,h3,rfl,h4,h5⟩) _ 1 rfl (by omega) (by omega)
  obtain ⟨n,a,b,c⟩:=hfree
  rw [hall n a b] at c; cases c
 refine qo.2 (hq.mono fun r m1 hc=>?_)
 obtain ⟨n,c,n1,n2,n3,rfl,r1,u1⟩:=hc
 have h1:=h.work r1 ⟨rfl,rfl,rfl,rfl⟩ u1 (fun b hb=>by simpa using hb)
 obtain ⟨e2,h2,u2⟩:=h1.XF he
 have e2':Call S tab 128 [x.v,.int .i64 0] m1=_:=e2
 simp -implicitDefEqProofs only [st0,qb,reduceIte,xt0,xt1,e2']
 refine ⟨n,c,n1,n2,n3,rfl,h2,(u1.mono (fun b hb _=>?_)).trans (u2.mono (fun b hb _=>?_))⟩
 ·simp at hb ⊢; omega
 ·simp at hb; simp [hb]
end
def Kv (key val:Bs):Prop:=(key≠[]∧key.length≤32)∧val.length≤40
def Kd (o:Wo) (root:Nat) (l:List Pr):Prop:=(root=0∧∀ n,1≤n→n<o.P→xX o.u n=true)∨(root≠0∧4≤l.length)
theorem He (key:Bs):inR [] none key:=⟨by cases key<;>simp [ltB],fun h e=>by cases e⟩
theorem Wk {o:Wo} {h root:Nat} {lo:Bs} {hi:Option Bs} {l:List Pr} {U:List Nat} (ht:Tr o.s h root lo hi l U):1≤root:=by
 obtain ⟨n,S',hp,_⟩:=js.1 ht
 exact (kT hp.here.1).1
theorem qgH:qy [.bool false,.slice none 0 0,.slice none 0 0,.slice none 0 0] [(0,1,.bool true)]=some [.bool true,.slice none 0 0,.slice none 0 0,.slice none 0 0]:=rfl
theorem _root_.Go.Fx.Upd.boxes {m m':Mem} {fp:List Nat} (hu:Upd fp m m') {b:Nat} {x:ABlk} (hg:m.get b=some x) (hb:b<m.next) (hn:b∉fp):m'.get b=some x:=(hu.same b hb hn).trans hg
set_option maxRecDepth 4000 in
theorem qcY {x:Wx} {m:Mem} {key val:Bs} (hkv:Kv key val) {root b1 b2 b3:Nat} {l:List Pr} {U:List Nat} (hx:XR x m) (he:x.err=0) (hrd:x.rd=0) (hf:Fu x.o) (ht:TrR x.o.s root l U) (hnd:U.Nodup) {t1 t2 t3:TypeId}
  (g1:m.get b1=some ⟨.cells [.int .i64 (root:Int)] t1,false,none⟩) (g2:m.get b2=some ⟨.cells [str key] t2,false,none⟩) (g3:m.get b3=some ⟨.cells [str val] t3,false,none⟩) (hb:(b1<m.next∧b2<m.next∧b3<m.next)∧(b2∉x.fp∧b3∉x.fp)) :
  W (Call S tab 89 [x.v,.pointer (some ⟨b1,0,none⟩),.pointer (some ⟨b2,0,none⟩),.pointer (some ⟨b3,0,none⟩)] m) fun r m'=>∃ x',XR x' m'∧Kin x x'∧Upd x.fp m m'∧((x'.err=8∧Kd x.o root (xD l key val)) ∨
   (x'.err=0∧Fu x'.o∧∃ (root':Nat) (U':List Nat),r=.int .i64 (root':Int)∧TrR x'.o.s root' (xD l key val) U'∧Stp x.o.s x'.o.s U U'∧U'.Nodup)):=by
 have hP:=hx.wr.hP
 have hu20:=hx.wr.hu
 have l1:qc (.pointer (some ⟨b1,0,none⟩)) m=some (.int .i64 (root:Int)):=qs g1 rfl
 have l2:qc (.pointer (some ⟨b2,0,none⟩)) m=some (str key):=qs g2 rfl
 have l3:qc (.pointer (some ⟨b3,0,none⟩)) m=some (str val):=qs g3 rfl
 rw [C89]
 rcases ht with ⟨rfl,rfl,rfl⟩|⟨h,ht⟩
 ·have e0:(((0:Nat):Int)=0)=True:=eq_true rfl
  simp -implicitDefEqProofs only [st0,qb,reduceIte,l1,e0]
  have tn:∀ M:Mem,TN M.next M (yv true (.slice none 0 0) (.slice none 0 0) (.slice none 0 0)) (Nd.lf []):=fun M=>⟨_,_,_,rfl,RSl.nil _ _ _,RSl.nil _ _ _,RSl.nil _ _ _⟩
  have fit0:(Nd.lf []).Fit:=⟨by simp [Nd.lf],by simp [Nd.lf],by simp [Nd.lf],by simp [Nd.lf],by simp [Nd.lf],by simp [Nd.lf]⟩
  obtain ⟨w1,w2,w3,w4⟩:=Wy (l:=[]) (key:=key) (val:=val) ⟨rfl,by simp⟩ hkv.1 hkv.2
  have hr:=wT w1.1 w1.2
  have hsz:zt (Nd.lf (xD [] key val))≤256:=by
   show 2+((xD [] key val).map qI).sum≤256
   have:(([]:List Pr).map qI).sum=0:=rfl
   omega
  by_cases hfree:∃ n,1≤n∧n<x.o.P∧xX x.o.u n=false
  ·refine qo.2 ((qgR hx he hfree).mono fun r1 m1 hq=>?_)
   obtain ⟨n,c,y1,y2,y3,rfl,h1,u1⟩:=hq
   have x1:=u1.next
   have l2':qc (.pointer (some ⟨b2,0,none⟩)) m1=some (str key):=qs (u1.boxes g2 hb.1.2.1 hb.2.1) rfl
   have l3':qc (.pointer (some ⟨b3,0,none⟩)) m1=some (str val):=qs (u1.boxes g3 hb.1.2.2 hb.2.2) rfl
   simp -implicitDefEqProofs only [st0,qb,reduceIte,qgH,l2',l3']
   refine qo.2 ((KQ key val (tn m1) fit0 (Nat.le_refl _)).mono fun v2 m2 ⟨t2',u2⟩=>?_)
   have t2':TN m1.next m2 v2 (Nd.lf (xD [] key val)):=t2'
   have h2:=h1.qx u2
   have es1:=Wo.KG hu20 hP y1 y2 y3 (qp 256) c
   have f1:=hf.take hu20 hP y1 y2 y3 (qp 256) c
   have hh:Wo.has { x.o with u:=xx x.o.u n,L:=upL x.o.L n (qp 256) c } n=true:=by
    apply Fu.some; rw [es1]; simp [ji]
   refine qo.2 ((ZQ h2 he (by omega) t2' hh hr hsz).mono fun v3 m3 ⟨r3,⟨c2,h3⟩,u3⟩=>?_)
   simp -implicitDefEqProofs only [st0,qb,reduceIte]
   have es2:=Wo.wO hh (xv (Nd.lf (xD [] key val))) c2
   have f2:=f1.write hh (xv (Nd.lf (xD [] key val))) c2
   rw [es1] at es2
   refine ⟨_,h3,Kin.o x ⟨rfl,rfl,rfl,rfl,rfl,rfl,rfl⟩,(u1.qz u2).trans (u3.mono fun b hb _=>List.mem_cons.2 (.inr hb)),.inr ⟨he,f2,n,[n],rfl,.inr ⟨0,?_⟩,?_,by simp⟩⟩
   ·rw [es2]
    exact js.2 ⟨_,[],⟨by simp [ji],hr,hsz⟩,by simpa [neN,Nd.lf] using w4,⟨rfl,fun y hy=>He _,rfl⟩,rfl⟩
   ·rw [es2]
    exact ⟨fun j h1 h2=>by simp at h2; unfold ji; rw [if_neg h2,if_neg h2],fun j hj=>by simp at hj; subst hj; exact .inr (YI y3),fun j hj=>by simp at hj⟩
  ·have hall:∀ n,1≤n→n<x.o.P→xX x.o.u n=true:=fun n a b=>by
    cases hc:xX x.o.u n with
    | true=>rfl
    | false=>exact absurd ⟨n,a,b,hc⟩ hfree
   refine qo.2 ((qcs hx he).mono fun r1 m1 hq=>?_)
   rcases hq with ⟨rfl,h1,u1⟩|⟨n,c,y1,y2,y3,rfl,h1,u1⟩
   ·have x1:=u1.next
    have sub1:∀ b,b∈[x.xb]→b∈x.fp:=fun b hb=>by simp at hb; simp [Wx.fp,hb]
    have u1:Upd x.fp m m1:=u1.mono fun b hb _=>sub1 b hb
    have l2':qc (.pointer (some ⟨b2,0,none⟩)) m1=some (str key):=qs (u1.boxes g2 hb.1.2.1 hb.2.1) rfl
    have l3':qc (.pointer (some ⟨b3,0,none⟩)) m1=some (str val):=qs (u1.boxes g3 hb.1.2.2 hb.2.2) rfl
    simp -implicitDefEqProofs only [st0,qb,reduceIte,qgH,l2',l3']
    refine qo.2 ((KQ key val (tn m1) fit0 (Nat.le_refl _)).mono fun v2 m2 ⟨t2',u2⟩=>?_)
    have t2':TN m1.next m2 v2 (Nd.lf (xD [] key val)):=t2'
    have h2:=h1.qx u2
    refine qo.2 ((ZD h2 (by show (8:Nat)≠0; omega) (.int .i64 0) t2' hr hsz).mono fun v3 m3 ⟨_,u3⟩=>?_)
    simp -implicitDefEqProofs only [st0,qb,reduceIte]
    exact ⟨_,h2.qx u3,⟨rfl,rfl,rfl,rfl,rfl,rfl,rfl,rfl,rfl,rfl⟩,(u1.qz u2).qz u3,.inl ⟨rfl,.inl ⟨rfl,hall⟩⟩⟩
   ·rw [hall n y1 y2] at y3; cases y3
 ·have hpos:=Wk ht
  have hlow:=(Vm hP ht hnd).1
  have e0:((root:Int)=0)=False:=eq_false (by omega)
  simp -implicitDefEqProofs only [st0,qb,reduceIte,l1,l2,l3,e0]
  refine qo.2 ((qeq hkv.1 hkv.2 h x m root 40 [] none l U hx he (by omega) hf (by omega) (by omega) ht hnd (He key)).mono fun r1 m1 hq=>?_)
  rcases hq with ⟨h4,x',a1,a2,a3,a4⟩|⟨x',ps,U',a1,a2,a3,a4,a5,a6,a7,a8,a9,a10⟩
  ·have z:=qgU a1 (by omega) r1
   rw [a2.v] at z
   simp -implicitDefEqProofs only [st0,qb,reduceIte,z]
   exact ⟨x',a1,a2,a4,.inl ⟨a3,.inr ⟨by omega,h4⟩⟩⟩
  ·have z:=qbk a1 a3 a5 (by rw [a2.fp]; exact hx.JP) a6 a7 a9
   rw [a2.v] at z
   refine qo.2 (z.mono fun r2 m2 hq=>?_)
   simp -implicitDefEqProofs only [st0,qb,reduceIte]
   rcases hq with ⟨h4,x'',b1',b2',b3',b4⟩|⟨x'',root',U'',rfl,b1',b2',b3',b4,b5,b6,b7,b8,b9⟩
   ·exact ⟨x'',b1',a2.trans b2',a10.trans (by rw [a2.fp] at b4; exact b4),.inl ⟨b3',.inr ⟨by omega,h4⟩⟩⟩
   ·refine ⟨x'',b1',a2.trans b2',a10.trans (by rw [a2.fp] at b8; exact b8),.inr ⟨b3',b5,root',U'',rfl,.inr ?_,a8.trans b6,b7⟩⟩
    rcases b9 with ⟨d1,rfl,rfl,d4⟩|d
    ·rw [d1]; exact ⟨h,d4⟩
    ·exact ⟨h+1,d⟩
theorem Wo.qfe {o:Wo} {ns:List St} {m:Mem} (h:WI o ns m) {b:Nat} (hb:m.next≤b):b∉o.zr:=fun hm=>by have:=h.lt b hm; omega
theorem qez {o:Wo} {ns:List St} {m:Mem} (h:WI o ns m) (hnl:ns.length≤90000) {root:Nat} {l:List Pr} {U:List Nat} (ht:TrR o.s root l U) (hnd:U.Nodup) (key val:Bs) :
    W (Call S tab 51 [.pointer (some ⟨o.w,0,none⟩),.int .i64 (root:Int),str key,str val] m) fun r m'=>∃ o' ns',WI o' ns' m'∧Nx o o' m m'∧Gr ns ns' ∧
      ((¬ Kv key val∧r=.tuple #[.int .i64 (root:Int),.int .i64 1]∧o'=o)∨(Kv key val∧Kd o root (xD l key val)∧r=.tuple #[.int .i64 (root:Int),.int .i64 8]∧o'.s=o.s) ∨
       (Kv key val∧∃ (root':Nat) (U':List Nat),r=.tuple #[.int .i64 (root':Int),.int .i64 0]∧TrR o'.s root' (xD l key val) U'∧Stp o.s o'.s U U'∧U'.Nodup)):=by
  rw [C51]
  have u1:Upd [] m (m.add ⟨.cells [.int .i64 (root:Int)] 3,false,none⟩):=Upd.add _ _ _
  have g1:(m.add ⟨.cells [.int .i64 (root:Int)] 3,false,none⟩).get m.next=some ⟨.cells [.int .i64 (root:Int)] 3,false,none⟩:=Mem.qh ..
  have n1:(m.add ⟨.cells [.int .i64 (root:Int)] 3,false,none⟩).next=m.next+1:=rfl
  simp -implicitDefEqProofs only [st0,qb,reduceIte,qce,qcd]
  generalize (m.add ⟨.cells [.int .i64 (root:Int)] 3,false,none⟩)=m1 at u1 g1 n1
  have u2:Upd [] m1 (m1.add ⟨.cells [str key] 9,false,none⟩):=Upd.add _ _ _
  have k2:(m1.add ⟨.cells [str key] 9,false,none⟩).get m1.next=some ⟨.cells [str key] 9,false,none⟩:=Mem.qh ..
  have n2:(m1.add ⟨.cells [str key] 9,false,none⟩).next=m1.next+1:=rfl
  have g2:=qA u2 (by omega) g1
  generalize (m1.add ⟨.cells [str key] 9,false,none⟩)=m2 at u2 k2 n2 g2
  have u3:Upd [] m2 (m2.add ⟨.cells [str val] 9,false,none⟩):=Upd.add _ _ _
  have j3:(m2.add ⟨.cells [str val] 9,false,none⟩).get m2.next=some ⟨.cells [str val] 9,false,none⟩:=Mem.qh ..
  have n3:(m2.add ⟨.cells [str val] 9,false,none⟩).next=m2.next+1:=rfl
  have g3:=qA u3 (by omega) g2
  have k3:=qA u3 (by omega) k2
  generalize (m2.add ⟨.cells [str val] 9,false,none⟩)=m3 at u3 j3 n3 g3 k3
  have u03:Upd [] m m3:=(u1.qz u2).qz u3
  have h3:=h.qx u03
  have lr:qc (.pointer (some ⟨m.next,0,none⟩)) m3=some (.int .i64 (root:Int)):=qs g3 rfl
  have lk:qc (.pointer (some ⟨m1.next,0,none⟩)) m3=some (str key):=qs k3 rfl
  have lv:qc (.pointer (some ⟨m2.next,0,none⟩)) m3=some (str val):=qs j3 rfl
  have eq0:arith .eql (str key) (.string ⟨#[]⟩)=some (.bool (decide (key=[]))):=kI key []
  have bad:¬ Kv key val→W (some (.tuple #[.int .i64 (root:Int),.int .i64 1],m3):O) fun r m'=>∃ o' ns',WI o' ns' m'∧Nx o o' m m'∧Gr ns ns' ∧
      ((¬ Kv key val∧r=.tuple #[.int .i64 (root:Int),.int .i64 1]∧o'=o)∨(Kv key val∧Kd o root (xD l key val)∧r=.tuple #[.int .i64 (root:Int),.int .i64 8]∧o'.s=o.s) ∨
       (Kv key val∧∃ (root':Nat) (U':List Nat),r=.tuple #[.int .i64 (root':Int),.int .i64 0]∧TrR o'.s root' (xD l key val) U'∧Stp o.s o'.s U U'∧U'.Nodup)) :=
    fun hn=>zs.2 ⟨o,ns,h3,Nx.of0 u03,Gr.rfl' _,.inl ⟨hn,rfl,rfl⟩⟩
  by_cases c1:key=[]
  · have e1:decide (key=[])=true:=decide_eq_true c1
    have:=bad (fun hk=>hk.1.1 c1)
    simp -implicitDefEqProofs only [st0,qb,reduceIte] at this
    simp -implicitDefEqProofs only [st0,qb,reduceIte,lk,eq0,e1,lr]
    exact this
  have e1:decide (key=[])=false:=decide_eq_false c1
  by_cases c2:key.length≤32
  · have e2:((32:Int)<(key.length:Int))=False:=eq_false (by omega)
    by_cases c3:val.length≤40
    · have e3:((40:Int)<(val.length:Int))=False:=eq_false (by omega)
      have hkv:Kv key val:=⟨⟨c1,c2⟩,c3⟩
      simp -implicitDefEqProofs only [st0,qb,reduceIte,lk,eq0,e1,zN,e2,lv,e3,lr]
      refine qo.2 ((qjv (f:=89) h3 hnl (by rfl) (E:=Kd o root (xD l key val)) (Q:=fun r o'=>∃ (root':Nat) (U':List Nat),r=.int .i64 (root':Int)∧TrR o'.s root' (xD l key val) U'∧Stp o.s o'.s U U'∧U'.Nodup) (fun x mb hx he hrd hf hs hPx hu hub hfp=>?_)).mono fun r m' hq=>?_)
      · have nfoot:∀ b,m.next≤b→b<m3.next→b∉o.w::qf o.nt∧b∉x.fp:=fun b h1 h2=>by
          have hn:b∉o.zr:=Wo.qfe h h1
          refine ⟨fun hm=>hn ?_,fun hm=>(hfp b hm).elim hn (fun h=>by omega)⟩
          simp only [Wo.zr,List.mem_cons] at hm ⊢
          rcases hm with h|h<;>simp [h]
        have hbn:=hub.next
        refine (qcY hkv hx he hrd hf (by rw [hs]; exact ht) hnd (hub.boxes g3 (by omega) (nfoot _ (by omega) (by omega)).1) (hub.boxes k3 (by omega) (nfoot _ (by omega) (by omega)).1) (hub.boxes j3 (by omega) (nfoot _ (by omega) (by omega)).1) ⟨⟨by omega,by omega,by omega⟩,(nfoot _ (by omega) (by omega)).2,(nfoot _ (by omega) (by omega)).2⟩).mono fun r m' hq=>?_
        obtain ⟨x',a1,a2,a3,a4⟩:=hq
        refine ⟨x',a1,a2,a3,a4.imp (fun ⟨z1,z2⟩=>⟨z1,?_⟩) fun ⟨z1,z2,root',U',z3,z4,z5,z6⟩=>⟨z1,z2,root',U',z3,z4,by rw [← hs]; exact z5,z6⟩⟩
        unfold Kd at z2 ⊢
        rw [hPx,hu] at z2
        exact z2
      · obtain ⟨o',ns',b1,b2,b3,b4⟩:=hq
        have nx:Nx o o' m m':=(Nx.of0 u03).trans b2
        rcases b4 with ⟨d1,rfl,d3⟩|⟨v,rfl,root',U',rfl,d3,d4,d5⟩
        · simp -implicitDefEqProofs only [st0,qb,reduceIte,xt0,xt1]
          exact ⟨o',ns',b1,nx,b3,.inr (.inl ⟨hkv,d1,trivial,d3⟩)⟩
        · simp -implicitDefEqProofs only [st0,qb,reduceIte,xt0,xt1]
          exact ⟨o',ns',b1,nx,b3,.inr (.inr ⟨hkv,root',U',rfl,d3,d4,d5⟩)⟩
    · have e3:((40:Int)<(val.length:Int))=True:=eq_true (by omega)
      have:=bad (fun hk=>c3 hk.2)
      simp -implicitDefEqProofs only [st0,qb,reduceIte] at this
      simp -implicitDefEqProofs only [st0,qb,reduceIte,lk,eq0,e1,zN,e2,lv,e3,lr]
      exact this
  · have e2:((32:Int)<(key.length:Int))=True:=eq_true (by omega)
    have:=bad (fun hk=>c2 hk.1.2)
    simp -implicitDefEqProofs only [st0,qb,reduceIte] at this
    simp -implicitDefEqProofs only [st0,qb,reduceIte,lk,eq0,e1,zN,e2,lr]
    exact this
end Go.Fx.Tryz
namespace Go.Fx.Tryz
open Go Go.Fx
abbrev Tb:=Bs × List Pr
def yq (t:Tb):Bs:=xa t.1++(xU t.2.length++(t.2.map xz).flatten)
def Jq (T:List Tb):Bs:=UInt8.ofNat T.length::(T.map yq).flatten
def xu (s:Bs):Bool:=decide (s≠[])&&decide (s.length≤8)&&s.all fun c=>(decide (97≤c.toNat)&&decide (c.toNat≤122))||decide (c.toNat=95)
structure Valid (T:List Tb):Prop where
 len:T.length≤12
 right:∀ t∈T,xu t.1=true
 rise:T.Pairwise fun a b=>ltB a.1 b.1=true
 row:∀ t∈T,rowP t.2
 few:∀ t∈T,t.2.length≤65535
theorem vw {s:Bs} (h:xu s=true):s≠[]∧s.length≤8:=by
 simp only [xu,Bool.and_eq_true,decide_eq_true_eq] at h
 exact h.1
def rdS:Bs→Option (Bs × Bs)
 | []=>none
 | c::r=>if c.toNat≤r.length then some (r.take c.toNat,r.drop c.toNat) else none
def rd2:Bs→Option (Nat × Bs)
 | a::b::r=>some (a.toNat * 256+b.toNat,r)
 | _=>none
def vj:Nat→Bs→Bs→Option (List Pr × Bs)
 | 0,_,rest=>some ([],rest)
 | n+1,key,rest=>(rdS rest).bind fun q=>(rdS q.2).bind fun w=>if ltB key q.1&&(decide (q.1.length≤32)&&decide (w.1.length≤40)) then (vj n q.1 w.2).map fun p=>((q.1,w.1)::p.1,p.2) else none
def kU:Nat→Bs→Bs→Option (List Tb × Bs)
 | 0,_,rest=>some ([],rest)
 | n+1,last,rest=>(rdS rest).bind fun q=>(rd2 q.2).bind fun c=>if ltB last q.1&&xu q.1 then (vj c.1 [] c.2).bind fun l=>(kU n q.1 l.2).map fun p=>((q.1,l.1)::p.1,p.2) else none
def QV:Bs→Option (List Tb)
 | []=>none
 | n::r=>if n.toNat≤12 then (match kU n.toNat [] r with|some (T,[])=>some T|_=>none) else none
theorem qcA {n:Nat} (h:n<256):(UInt8.ofNat n).toNat=n:=by simp [UInt8.toNat_ofNat']; omega
theorem qcz (c:UInt8):UInt8.ofNat c.toNat=c:=by simp
theorem KM {s:Bs} (h:s.length≤255) (r:Bs):rdS (xa s++r)=some (s,r):=by
 unfold xa
 rw [List.cons_append]
 simp only [rdS]
 rw [qcA (by omega),if_pos (by simp),List.take_left,List.drop_left]
theorem wV {b s r:Bs} (h:rdS b=some (s,r)):s.length≤255∧b=xa s++r:=by
 cases b with
 | nil=>cases h
 | cons c b =>
  simp only [rdS] at h
  split at h
  ·rename_i hc
   simp only [Option.some.injEq,Prod.mk.injEq] at h
   obtain ⟨rfl,rfl⟩:=h
   have hl:(b.take c.toNat).length=c.toNat:=by rw [List.length_take]; omega
   have:=c.toNat_lt
   refine ⟨by omega,?_⟩
   unfold xa
   rw [hl,qcz,List.cons_append,List.take_append_drop]
  ·cases h
theorem qeO {n:Nat} (h:n≤65535) (r:Bs):rd2 (xU n++r)=some (n,r):=by
 unfold xU
 simp only [List.cons_append,List.nil_append,rd2]
 rw [qcA (by omega)]
 have:(UInt8.ofNat n).toNat=n % 256:=by simp [UInt8.toNat_ofNat']
 rw [this,show n / 256 * 256+n % 256=n by omega]
theorem ZJ {b r:Bs} {n:Nat} (h:rd2 b=some (n,r)):n≤65535∧b=xU n++r:=by
 match b,h with
 | a::c::b,h =>
  simp only [rd2,Option.some.injEq,Prod.mk.injEq] at h
  obtain ⟨rfl,rfl⟩:=h
  have h1:=a.toNat_lt; have h2:=c.toNat_lt
  refine ⟨by omega,?_⟩
  unfold xU
  have e1:(a.toNat * 256+c.toNat) / 256=a.toNat:=by omega
  have e2:UInt8.ofNat (a.toNat * 256+c.toNat)=c:=UInt8.toNat_inj.1 (by simp [UInt8.toNat_ofNat'])
  rw [e1,e2,qcz]; rfl
theorem WB (p:Pr) (r:Bs):xz p++r=xa p.1++(xa p.2++r):=by unfold xz; rw [List.append_assoc]
theorem qaa {k:Bs} (h:k≠[]):ltB [] k=true:=by
 cases k with
 | nil=>exact absurd rfl h
 | cons a r=>exact vO.2 (List.nil_lt_cons a r)
theorem Ya:∀ (l:List Pr) (key r:Bs),rowP l→(∀ p∈l,ltB key p.1=true)→vj l.length key ((l.map xz).flatten++r)=some (l,r)
 | [],_,_,_,_=>rfl
 | p::l,key,r,h,hk=>by
  have h1:qC (p.1::l.map (·.1))=true:=by simpa using h.1
  have h2:=ko h1
  have h3:=h.2 p (by simp)
  have h4:=qF h1
  rw [List.map_cons,List.flatten_cons,List.append_assoc,WB,List.length_cons]
  have ih:=Ya l p.1 r ⟨h4.1,fun q hq=>h.2 q (by simp [hq])⟩ (fun q hq=>h4.2 q.1 (List.mem_map_of_mem hq))
  simp only [vj]
  rw [KM (by omega),Option.bind_some]
  simp only []
  rw [KM (by omega),Option.bind_some]
  simp only []
  rw [hk p (by simp),decide_eq_true h2.2,decide_eq_true h3,ih]
  rfl
theorem XV:∀ (n:Nat) (key b r:Bs) (l:List Pr),vj n key b=some (l,r)→l.length=n∧b=(l.map xz).flatten++r∧rowP l∧∀ p∈l,ltB key p.1=true
 | 0,key,b,r,l,h=>by
  simp only [vj,Option.some.injEq,Prod.mk.injEq] at h
  obtain ⟨rfl,rfl⟩:=h
  exact ⟨rfl,rfl,⟨rfl,by simp⟩,by simp⟩
 | n+1,key,b,r,l,h=>by
  simp only [vj,Option.bind_eq_some_iff] at h
  obtain ⟨⟨k,b1⟩,h1,⟨v,b2⟩,h2,h⟩:=h
  split at h
  ·rename_i hc
   simp only [Bool.and_eq_true,decide_eq_true_eq] at hc
   simp only [Option.map_eq_some_iff] at h
   obtain ⟨⟨l',r'⟩,h3,h4⟩:=h
   cases h4
   obtain ⟨i1,i2,i3,i4⟩:=XV n k b2 _ l' h3
   obtain ⟨j1,j2⟩:=wV h1
   obtain ⟨k1,k2⟩:=wV h2
   have hk0:k≠[]:=fun e=>by
    have:=hc.1; rw [e] at this
    have:=vO.1 this; exact List.not_lt_nil _ this
   refine ⟨by simp [i1],?_,⟨?_,?_⟩,?_⟩
   ·rw [List.map_cons,List.flatten_cons,List.append_assoc,WB,← i2,← k2,← j2]
   ·rw [List.map_cons]
    exact kq ⟨hk0,hc.2.1⟩ i3.1 fun j hj=>by
     obtain ⟨q,hq,rfl⟩:=List.mem_map.1 hj
     exact i4 q hq
   ·intro q hq
    rcases List.mem_cons.1 hq with rfl|hq
    ·exact hc.2.2
    ·exact i3.2 q hq
   ·intro q hq
    rcases List.mem_cons.1 hq with rfl|hq
    ·exact hc.1
    ·exact xB hc.1 (i4 q hq)
  ·cases h
theorem HG (t:Tb) (r:Bs):yq t++r=xa t.1++(xU t.2.length++((t.2.map xz).flatten++r)):=by unfold yq; simp only [List.append_assoc]
theorem qeK {l:List Pr} (h:rowP l):∀ p∈l,ltB [] p.1=true:=fun p hp=>by
 obtain ⟨i,hi,e⟩:=List.mem_iff_getElem.1 hp
 have:=(zK h.1 i (by simpa using hi)).1
 rw [List.getElem_map,e] at this
 exact qaa this
theorem JV:∀ (T:List Tb) (last r:Bs),(∀ t∈T,xu t.1=true∧rowP t.2∧t.2.length≤65535∧ltB last t.1=true)→(T.Pairwise fun a b=>ltB a.1 b.1=true)→kU T.length last ((T.map yq).flatten++r)=some (T,r)
 | [],_,_,_,_=>rfl
 | t::T,last,r,h,hp=>by
  obtain ⟨h1,h2,h3,h4⟩:=h t (by simp)
  obtain ⟨p1,p2⟩:=List.pairwise_cons.1 hp
  rw [List.map_cons,List.flatten_cons,List.append_assoc,HG,List.length_cons]
  have ih:=JV T t.1 r (fun q hq=>⟨(h q (by simp [hq])).1,(h q (by simp [hq])).2.1,(h q (by simp [hq])).2.2.1,p1 q hq⟩) p2
  simp only [kU]
  rw [KM (by have:=(vw h1).2; omega),Option.bind_some]
  simp only []
  rw [qeO h3,Option.bind_some]
  simp only []
  rw [h4,h1,Ya t.2 [] _ h2 (qeK h2)]
  simp only [Bool.and_self,if_true,Option.bind_some]
  rw [ih]; rfl
theorem QU:∀ (n:Nat) (last b r:Bs) (T:List Tb),kU n last b=some (T,r)→T.length=n∧b=(T.map yq).flatten++r∧(∀ t∈T,xu t.1=true∧rowP t.2∧t.2.length≤65535∧ltB last t.1=true)∧T.Pairwise fun a b=>ltB a.1 b.1=true
 | 0,last,b,r,T,h=>by
  simp only [kU,Option.some.injEq,Prod.mk.injEq] at h
  obtain ⟨rfl,rfl⟩:=h
  exact ⟨rfl,rfl,by simp,.nil⟩
 | n+1,last,b,r,T,h=>by
  simp only [kU,Option.bind_eq_some_iff] at h
  obtain ⟨⟨k,b1⟩,h1,⟨c,b2⟩,h2,h⟩:=h
  split at h
  ·rename_i hc
   simp only [Bool.and_eq_true] at hc
   simp only [Option.bind_eq_some_iff,Option.map_eq_some_iff] at h
   obtain ⟨⟨l,b3⟩,h3,⟨T',r'⟩,h4,h5⟩:=h
   cases h5
   obtain ⟨i1,i2,i3,i4⟩:=XV _ _ _ _ _ h3
   obtain ⟨j1,j2⟩:=wV h1
   obtain ⟨k1,k2⟩:=ZJ h2
   obtain ⟨m1,m2,m3,m4⟩:=QU n k b3 _ T' h4
   refine ⟨by simp [m1],?_,?_,List.pairwise_cons.2 ⟨fun t ht=>(m3 t ht).2.2.2,m4⟩⟩
   ·rw [List.map_cons,List.flatten_cons,List.append_assoc,HG,← m2]
    simp only []
    rw [i1,← i2,← k2,← j2]
   ·intro t ht
    rcases List.mem_cons.1 ht with rfl|ht
    ·exact ⟨hc.2,i3,by simp only [i1]; exact k1,hc.1⟩
    ·obtain ⟨a,b,c,d⟩:=m3 t ht
     exact ⟨a,b,c,xB hc.1 d⟩
  ·cases h
theorem qdN {s:Bs} {T:List Tb}:QV s=some T↔Valid T∧Jq T=s:=by
 constructor
 ·intro h
  cases s with
  | nil=>cases h
  | cons n r =>
   simp only [QV] at h
   split at h
   ·rename_i hn
    split at h
    ·rename_i T' e
     cases h
     obtain ⟨a,b,c,d⟩:=QU _ _ _ _ _ e
     refine ⟨⟨by omega,fun t ht=>(c t ht).1,d,fun t ht=>(c t ht).2.1,fun t ht=>(c t ht).2.2.1⟩,?_⟩
     unfold Jq
     rw [a,qcz,b,List.append_nil]
    ·cases h
   ·cases h
 ·rintro ⟨h,rfl⟩
  have hl:=h.len
  simp only [Jq,QV]
  rw [qcA (by omega),if_pos hl]
  have:=JV T [] [] (fun t ht=>⟨h.right t ht,h.row t ht,h.few t ht,qaa (vw (h.right t ht)).1⟩) h.rise
  rw [List.append_nil] at this
  rw [this]
end Go.Fx.Tryz
namespace Go.Fx.Tryz
open Go Go.Fx
structure Tab1 where
 nm:Bs
 root:Nat
 l:List Pr
 U:List Nat
 born:Nat
abbrev tbV (root n:Nat):Value:=.agg #[.int .i64 (root:Int),.int .i64 (n:Int)]
def enT (t:Tab1):MapEntry:={ key:=str t.nm,val:=tbV t.root t.l.length,born:=t.born }
def esT (ts:List Tab1):List MapEntry:=ts.map enT
theorem qeF (a b:Bs):((⟨a.toArray⟩:ByteArray) == ⟨b.toArray⟩)=decide (a=b):=by
 by_cases h:a=b
 ·rw [decide_eq_true h,h]; exact (Vj _ _).2 rfl
 ·rw [decide_eq_false h]
  cases hc:((⟨a.toArray⟩:ByteArray) == ⟨b.toArray⟩) with
  | false=>rfl
  | true=>have:=(Vj _ _).1 hc; simp at this; exact absurd this h
theorem QD (a b:Bs):Jw .str (str a) (str b)=some (decide (a=b)):=by show some _=_; rw [qeF]
theorem XO {nm:Bs}:∀ (ts:List Tab1) (i:Nat),(∀ t∈ts,t.nm≠nm)→ky .str (str nm) (esT ts) i=some none
 | [],i,_=>rfl
 | t::ts,i,h=>by
  have h1:=h t (by simp)
  have ih:=XO ts (i+1) fun q hq=>h q (by simp [hq])
  simp only [esT,List.map_cons,ky,enT] at ih ⊢
  rw [QD,decide_eq_false (fun e=>h1 e.symm)]
  exact ih
theorem Qo {q:Tab1} {b:List Tab1}:∀ (a:List Tab1) (i:Nat),(∀ t∈a,t.nm≠q.nm)→ky .str (str q.nm) (esT (a++q::b)) i=some (some (i+a.length,tbV q.root q.l.length))
 | [],i,_=>by
  simp only [esT,List.nil_append,List.map_cons,ky,enT]
  rw [QD,decide_eq_true rfl]; rfl
 | t::a,i,h=>by
  have h1:=h t (by simp)
  have ih:=Qo (b:=b) a (i+1) fun q hq=>h q (by simp [hq])
  simp only [esT,List.cons_append,List.map_cons,ky,enT] at ih ⊢
  rw [QD,decide_eq_false (fun e=>h1 e.symm)]
  simp only [List.length_cons] at ih ⊢
  rw [ih]
  congr 3; omega
theorem JG {α:Type} (f:α→α) (x:α) (b:List α):∀ a:List α,(a++x::b).modify a.length f=a++f x::b
 | []=>rfl
 | y::a=>by simp only [List.cons_append,List.length_cons,List.modify_succ_cons,JG f x b a]
section
variable {m:Mem} {tm K:Nat} {ts:List Tab1} {nm:Bs}
theorem WG (h:m.get tm=some ⟨.map (esT ts) K,false,none⟩) (hn:∀ t∈ts,t.nm≠nm) (z:Value):zb .str z true (.map (some tm)) (str nm) m=some (.tuple #[z,.bool false]):=by
 have:m.zY tm=some (esT ts,K):=by simp [Mem.zY,h]
 simp only [zb,this,Option.bind_some,XO ts 0 hn]; rfl
theorem WH {a b:List Tab1} {q:Tab1} (h:m.get tm=some ⟨.map (esT (a++q::b)) K,false,none⟩) (hn:∀ t∈a,t.nm≠q.nm) (z:Value):zb .str z true (.map (some tm)) (str q.nm) m=some (.tuple #[tbV q.root q.l.length,.bool true]):=by
 have:m.zY tm=some (esT (a++q::b),K):=by simp [Mem.zY,h]
 simp only [zb,this,Option.bind_some,Qo a 0 hn]; rfl
theorem qbC {a b:List Tab1} {q:Tab1} (h:m.get tm=some ⟨.map (esT (a++q::b)) K,false,none⟩) (hn:∀ t∈a,t.nm≠q.nm) (z:Value):zb .str z false (.map (some tm)) (str q.nm) m=some (tbV q.root q.l.length):=by
 have:m.zY tm=some (esT (a++q::b),K):=by simp [Mem.zY,h]
 simp only [zb,this,Option.bind_some,Qo a 0 hn]; rfl
theorem qev (h:m.get tm=some ⟨.map (esT ts) K,false,none⟩) (hn:∀ t∈ts,t.nm≠nm) (r:Nat) (l:List Pr) (U:List Nat):zn .str (.map (some tm)) (str nm) (tbV r l.length) m=some (m.put tm ⟨.map (esT (ts++[⟨nm,r,l,U,K⟩])) (K+1),false,none⟩):=by
 have:m.jo tm=some (esT ts,K,none):=by simp [Mem.jo,h]
 simp only [zn,this,Option.bind_some,Qi,if_true,XO ts 0 hn,Option.map_some]
 simp only [esT,List.map_append]; rfl
theorem qew {a b:List Tab1} {q:Tab1} (h:m.get tm=some ⟨.map (esT (a++q::b)) K,false,none⟩) (hn:∀ t∈a,t.nm≠q.nm) (r:Nat) (l:List Pr) (U:List Nat):zn .str (.map (some tm)) (str q.nm) (tbV r l.length) m=some (m.put tm ⟨.map (esT (a++⟨q.nm,r,l,U,q.born⟩::b)) K,false,none⟩):=by
 have:m.jo tm=some (esT (a++q::b),K,none):=by simp [Mem.jo,h]
 have e:(esT (a++q::b)).modify (0+a.length) (fun e=>{ e with val:=tbV r l.length })=esT (a++⟨q.nm,r,l,U,q.born⟩::b):=by
  have hl:0+a.length=(a.map enT).length:=by simp
  simp only [esT,List.map_append,List.map_cons]
  rw [hl,JG]; rfl
 simp only [zn,this,Option.bind_some,Qi,if_true,Qo a 0 hn,Option.map_some,e]
theorem qik (h:m.get tm=some ⟨.map (esT ts) K,false,none⟩):wP (.map (some tm)) m=some (.int .i64 (ts.length:Int)):=by
 have:m.zY tm=some (esT ts,K):=by simp [Mem.zY,h]
 simp [wP,this,esT]
end
def QP:List Tb→Bs→List Tb
 | [],nm=>[(nm,[])]
 | t::T,nm=>if ltB t.1 nm then t::QP T nm else (nm,[])::t::T
def QC (T:List Tb) (nm:Bs) (l:List Pr):List Tb:=T.map fun t=>if t.1=nm then (nm,l) else t
abbrev pT (t:Tab1):Tb:=(t.nm,t.l)
structure Mo (ts:List Tab1) (T:List Tb):Prop where
 perm:(ts.map pT).Perm T
 rise:T.Pairwise fun a b=>ltB a.1 b.1=true
theorem yb (nm:Bs):∀ T:List Tb,(QP T nm).Perm ((nm,[])::T)
 | []=>.refl _
 | t::T=>by
  unfold QP
  split
  ·exact ((yb nm T).cons t).trans (.swap _ _ _)
  ·exact .refl _
theorem Qj {nm:Bs} {T:List Tb} {t:Tb}:t∈QP T nm↔t=(nm,[])∨t∈T:=by rw [(yb nm T).mem_iff,List.mem_cons]
theorem QO {nm:Bs}:∀ T:List Tb,(T.Pairwise fun a b=>ltB a.1 b.1=true)→(∀ t∈T,t.1≠nm)→(QP T nm).Pairwise fun a b=>ltB a.1 b.1=true
 | [],_,_=>by simp [QP]
 | t::T,h,hn=>by
  obtain ⟨h1,h2⟩:=List.pairwise_cons.1 h
  unfold QP
  split
  ·rename_i hc
   refine List.pairwise_cons.2 ⟨fun q hq=>?_,QO T h2 fun q hq=>hn q (by simp [hq])⟩
   rcases Qj.1 hq with rfl|hq
   ·exact hc
   ·exact h1 q hq
  ·rename_i hc
   have hc':ltB t.1 nm=false:=by simpa using hc
   have hlt:ltB nm t.1=true:=by
    cases hx:ltB nm t.1 with
    | true=>rfl
    | false=>exact absurd (ZL hc' hx) (hn t (by simp))
   refine List.pairwise_cons.2 ⟨fun q hq=>?_,h⟩
   rcases List.mem_cons.1 hq with rfl|hq
   ·exact hlt
   ·exact xB hlt (h1 q hq)
theorem Xo (T:List Tb) (nm:Bs) (l:List Pr):(QC T nm l).map (·.1)=T.map (·.1):=by
 unfold QC
 rw [List.map_map]
 refine List.map_congr_left fun t _=>?_
 simp only [Function.comp]
 split
 ·rename_i h; exact h.symm
 ·rfl
theorem jP {T:List Tb}:(T.Pairwise fun a b=>ltB a.1 b.1=true)↔(T.map (·.1)).Pairwise fun a b=>ltB a b=true:=by rw [List.pairwise_map]
theorem YN {T:List Tb} (h:T.Pairwise fun a b=>ltB a.1 b.1=true):(T.map (·.1)).Nodup:=(jP.1 h).imp fun {a b} h=>XI h
section
variable {ts:List Tab1} {T:List Tb}
theorem Mo.names (h:Mo ts T):(ts.map (·.nm)).Perm (T.map (·.1)):=by
 have:=h.perm.map (·.1)
 rwa [List.map_map] at this
theorem Mo.nodup (h:Mo ts T):(ts.map (·.nm)).Nodup:=h.names.nodup_iff.2 (YN h.rise)
theorem Mo.mem (h:Mo ts T) {t:Tab1} (ht:t∈ts):(t.nm,t.l)∈T:=h.perm.mem_iff.1 (List.mem_map.2 ⟨t,ht,rfl⟩)
theorem Mo.len (h:Mo ts T):ts.length=T.length:=by have:=h.perm.length_eq; simpa using this
theorem Mo.no (h:Mo ts T) {nm:Bs} (hn:∀ t∈ts,t.nm≠nm):∀ t∈T,t.1≠nm:=fun t ht e=>by
 obtain ⟨q,hq,hqe⟩:=List.mem_map.1 (h.perm.mem_iff.2 ht)
 exact hn q hq (by rw [← e,← hqe])
theorem Mo.make (h:Mo ts T) {nm:Bs} (hn:∀ t∈ts,t.nm≠nm) (r:Nat) (U:List Nat) (k:Nat):Mo (ts++[⟨nm,r,[],U,k⟩]) (QP T nm):=by
 refine ⟨?_,QO T h.rise (h.no hn)⟩
 rw [List.map_append]
 exact (List.perm_append_comm.trans (List.Perm.cons _ h.perm)).trans (yb nm T).symm
theorem kt {a b:List Tab1} {q:Tab1} (h:((a++q::b).map (·.nm)).Nodup):(∀ t∈a,t.nm≠q.nm)∧∀ t∈b,t.nm≠q.nm:=by
 rw [List.map_append,List.map_cons] at h
 obtain ⟨h1,h2,h3⟩:=List.nodup_append.1 h
 obtain ⟨h4,h5⟩:=List.nodup_cons.1 h2
 exact ⟨fun t ht=>h3 t.nm (List.mem_map.2 ⟨t,ht,rfl⟩) q.nm (by simp),fun t ht e=>h4 (List.mem_map.2 ⟨t,ht,e⟩)⟩
theorem Mo.set {a b:List Tab1} {q:Tab1} (h:Mo (a++q::b) T) (l:List Pr) (r:Nat) (U:List Nat) (k:Nat):Mo (a++⟨q.nm,r,l,U,k⟩::b) (QC T q.nm l):=by
 obtain ⟨n1,n2⟩:=kt h.nodup
 have e:∀ c:List Tab1,(∀ t∈c,t.nm≠q.nm)→(c.map pT).map (fun t:Tb=>if t.1=q.nm then (q.nm,l) else t)=c.map pT:=fun c hc=>by
  rw [List.map_map]
  exact List.map_congr_left fun t ht=>by simp [pT,hc t ht]
 refine ⟨?_,?_⟩
 ·have:=h.perm.map fun t:Tb=>if t.1=q.nm then (q.nm,l) else t
  rw [List.map_append,List.map_cons,List.map_append,List.map_cons,e a n1,e b n2] at this
  simpa [QC] using this
 ·rw [jP,Xo,← jP]; exact h.rise
end
theorem qdA (ts:List Tab1) (nm:Bs):(∀ t∈ts,t.nm≠nm)∨∃ a q b,ts=a++q::b∧q.nm=nm:=by
 by_cases h:∃ t∈ts,t.nm=nm
 ·obtain ⟨t,ht,e⟩:=h
  obtain ⟨a,b,rfl⟩:=List.append_of_mem ht
  exact .inr ⟨a,t,b,rfl,e⟩
 ·exact .inl fun t ht e=>h ⟨t,ht,e⟩
theorem Mo.sorted {ts:List Tab1} {T:List Tb} (h:Mo ts T):wh leb (ts.map (·.nm))=T.map (·.1):=by
 refine List.Perm.eq_of_pairwise (le:=fun a b=>leb a b=true) (fun a b _ _ h1 h2=>List.le_antisymm ((xN _ _).1 h1) ((xN _ _).1 h2)) (Xn (fun a b c h1 h2=>?_) (fun a b=>?_) _) ?_ ((vG leb _).trans h.names)
 ·rw [xN] at *; exact List.le_trans h1 h2
 ·rw [Bool.or_eq_true,xN,xN]; exact List.le_total a b
 ·exact (jP.1 h.rise).imp fun {a b} h=>(xN _ _).2 (List.le_of_lt (vO.1 h))
end Go.Fx.Tryz
