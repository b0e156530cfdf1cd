/- Parts of a proof: TreeZ, TreeMa, TreeMb, TreeMc. Conditions: none. -/
import Derived.Test.YtbhdhhgpfanmcaaGreatDoorQw18
set_option linter.unusedSimpArgs false
set_option linter.unusedVariables false
namespace Go.Fx.Tryz
open Go Go.Fx
theorem yI {A B B' C:List Nat} (h:(A++(B++C)).Nodup) (hB:B'.Nodup) (hd:∀ q∈A++C,q∉B'):(A++(B'++C)).Nodup:=by
 rw [List.nodup_append,List.nodup_append] at h ⊢;obtain ⟨h1,⟨_,h2,_⟩,h3⟩:=h;refine ⟨h1,⟨hB,h2,λa ha b hb e=>?_⟩,λa ha b hb e=>?_⟩
 ·subst e; exact hd a (List.mem_append.2 (.inr hb)) ha
 ·subst e;rcases List.mem_append.1 hb with hb|hb
  ·exact hd a (List.mem_append.2 (.inl ha)) hb
  ·exact h3 a ha a (List.mem_append.2 (.inr hb)) rfl
theorem Vj {A B C:List Nat} (h:(A++(B++C)).Nodup):B.Nodup/\∀ q∈A++C,q∉B:=by
 rw [List.nodup_append,List.nodup_append] at h;obtain ⟨h1,⟨h4,h2,h5⟩,h3⟩:=h;refine ⟨h4,λq hq hB=>?_⟩;rcases List.mem_append.1 hq with hq|hq
 ·exact h3 q hq q (List.mem_append.2 (.inl hB)) rfl
 ·exact h5 q hB q hq rfl
theorem QC {ks:List Bs} {ps:List Nat} (h:qW (Nd.nd ks ps)<=256):(ks.map λk=>3+k.length).sum<=252:=by
 have:4+(ks.map λk=>3+k.length).sum<=256:=h;omega
theorem YH {n:Nd} (h:qW n<=256):wtN n:=by
 unfold qW at h; unfold wtN;cases hl:n.leaf with
 | true=>rw [hl,if_pos rfl] at h; rw [if_pos rfl]; omega
 | false=>rw [hl,if_neg (by simp)] at h; rw [if_neg (by simp)]; omega
theorem Vq {s s1:Nat->Option Bs} {h c p:Nat} {lo lo':Bs} {hi hi':Option Bs} {ks:List Bs} {ps:List Nat} {l0 l1 l2:List Pr} {S0 S1 S2:List Nat} {pts:List Pt} (hr:qO (Nd.nd ks ps)=true) (hsz:qW (Nd.nd ks ps)<=256) (hk:∀ k∈ks,inK lo hi k) (hne:ks≠[])
  (e1:ps=ps.take c++p::ps.drop (c+1)) (hc:c<=ks.length) (e2:FL (Tr s h) lo (ks.take c) (ps.take c) lo' l0 S0) (e4:FR (Tr s h) hi' hi (ks.drop c) (ps.drop (c+1)) l2 S2) (hkeep:∀ q∈S0++S2,s1 q=s q) (hs:∀ q,s1 q≠none->1<=q/\q<=65535) (hP:Pts s1 (Tr s1 h) h p lo' hi' pts l1 S1) :
  Nt s1 (h+1) (vd (Nd.nd ks ps) c pts) lo hi (l0++(l1++l2)) (S0++(S1++S2))/\qO (vd (Nd.nd ks ps) c pts)=true/\wtN (vd (Nd.nd ks ps) c pts)/\neN (vd (Nd.nd ks ps) c pts):=by
 have i1:ps.length=ks.length+1:=(zo hr rfl).2.1;have f0:=Zu (R':=Tr s1 h) _ _ _ _ _ _ (λp lo hi l T hT ht=>xJ h p lo hi l T (λq hq=>hkeep q (List.mem_append.2 (.inl (hT q hq)))) ht) e2;have f2:=XU (R':=Tr s1 h) (λp lo hi l T hT ht=>xJ h p lo hi l T (λq hq=>hkeep q (List.mem_append.2 (.inr (hT q hq)))) ht) e4;have ek:ks=ks.take c++ks.drop c:=(List.take_append_drop _ _).symm;rcases hP with ⟨rfl,hT⟩|⟨k,q,la,lb,Sa,Sb,rfl,a1,a2,a3,a4,rfl,rfl,_⟩
 ·rw [qix e1 hc i1];refine ⟨⟨ks,ps,rfl,hk,?_⟩,hr,YH hsz,by simpa [neN,Nd.nd] using hne⟩;have:=KC _ _ _ _ _ _ f0 hT f2
  rwa [List.take_append_drop,<- e1] at this
 ·rw [qiw hc i1];exact KR (p0:=p) (by rw [List.take_append_drop,<- e1]; exact hr) (by rw [List.take_append_drop]; exact QC hsz) (by rw [List.take_append_drop]; exact hk) hs f0 f2 a1 a2 a3 a4
def qlC (x:Wx) (m:Mem) (N h page:Nat) (lo:Bs) (hi:Option Bs) (l:List Pr) (U:List Nat) (r:Value) (m':Mem):Prop :=
 (4<=l.length/\∃ x',XR x' m'/\Kin x x'/\x'.err=8/\Upd x.fp m m') ∨
 ∃ x' ps U',XR x' m'/\Kin x x'/\x'.err=0/\x'.rd<=x.rd+N/\Fu x'.o/\RSl m.next zQ m' r ps/\Pts x'.o.s (Tr x'.o.s h) h page lo hi ps l U'/\Stp x.o.s x'.o.s U U'/\U'.Nodup/\Upd x.fp m m'
theorem Pn.here {o:Wo} {p:Nat} {n:Nd} (h:Pn o.s p n):o.has p=true/\lkL o.L p=some (zC n):=Wo.qiH h.pg
theorem Zb {o:Wo} (hP:o.P<=160):∀ q,o.s q≠none->1<=q/\q<=65535:=λq hq=>by
 have:=xT (Fu.some hq); omega
theorem Zl {n:Nd} (h:qO n=true) (hs:qW n<=256):n.kids.length<=n.keys.length+1/\n.kids.length<=200:=by
 have:=vW h hs;cases hl:n.leaf with
 | true=>have:=(xN h hl).2.1; rw [this]; simp
 | false=>have:=(zo h hl).2.1; omega
theorem XL {s:Nat->Option Bs} {n:Nd} {g page:Nat} {lo:Bs} {hi:Option Bs} {ps:List Pt} {l:List Pr} {U:List Nat} (h:Pts s (λp lo hi l S=>∃ S0,Pn s p n/\Nt s g n lo hi l S0/\S=p::S0) g page lo hi ps l U) :
  Pts s (Tw s g) g page lo hi ps l U/\(neN n->Pts s (Tr s g) g page lo hi ps l U):=by
 rcases h with ⟨e,S0,h1,h2,h3⟩|h
 ·exact ⟨.inl ⟨e,n,S0,h1,h2,h3⟩,λhn=>.inl ⟨e,xf.2 ⟨n,S0,h1,hn,h2,h3⟩⟩⟩
 ·exact ⟨.inr h,λ_=>.inr h⟩
set_option maxRecDepth 4000 in
theorem qhe {key val:Bs} (hk:key≠[]/\key.length<=32) (hv:val.length<=40):∀ (h:Nat) (x:Wx) (m:Mem) (page left:Nat) (lo:Bs) (hi:Option Bs) (l:List Pr) (U:List Nat),XR x m->x.err=0->x.rd+h<1000->Fu x.o->h<left->left<=40 ->
  Tr x.o.s h page lo hi l U->U.Nodup->inR lo hi key->W (Call S tab 91 [x.v,.int .i64 (page:Int),.int .i64 (left:Int),str key,str val] m) (qlC x m (h+1) h page lo hi (xO l key val) U):=by
 intro h
 induction h with
 | zero =>
  intro x m page left lo hi l U hx he hrd hf hle hl40 ht hnd hin;obtain ⟨n,U',hp,hn,hnt,rfl⟩:=xf.1 ht;have hnt0:n=Nd.lf l/\(∀ x∈l,inR lo hi x.1)/\U'=[]:=hnt;obtain ⟨rfl,hl,rfl⟩:=hnt0;obtain ⟨hh,hlk⟩:=hp.here;have hlt:=xT hh;have hP:=hx.wr.hP;have fpl:=hx.ym;rw [C91];refine qh.2 ((wT hx he (by omega) (by omega) (by omega) hh hlk hp.rt hp.sz).mono λv1 m1 ⟨t1,h1,u1⟩=>?_);have x1:=u1.next;have hT:=t1;obtain ⟨sp,sk,si,rfl,q1,q2,q3⟩:=t1.ex;simp only [st0];refine jf (c:=[.bool (Nd.lf l).leaf,sp,sk,si]) rfl rfl (by simp [q1.one.2,q2.one.2,q3.one.2,show (Value.bool (Nd.lf l).leaf).oneCell'=true from rfl]) λm2 b2 u2 n2=>?_
  have h2:=h1.qn u2;have T2:=hT.qn u2;have e5:=xok h2;rw [decide_eq_true (show ({ x with rd:=x.rd+1 }:Wx).err=0 from he)] at e5;have hlf:(Nd.lf l).leaf=true:=rfl;rw [hlf] at b2;simp only [st0,e5,fa,qF b2 (o:=0+0) rfl,qD b2];obtain ⟨_,_,r1,v1⟩:=xN hp.rt rfl;have hrow:rowP l:=⟨r1,λp hp=>(v1 p hp).2.2⟩;obtain ⟨w1,w2,w3,w4⟩:=JN hrow hk hv;have hsz:2+(l.map qJ).sum<=256:=hp.sz;refine qh.2 ((Ww key val T2 (Zv hp.rt (YH hp.sz)) (by omega)).mono λv3 m3 ⟨t3,u3⟩=>?_);have t3:TN m2.next m3 v3 (Nd.lf (xO l key val)):=t3;have x3:=u3.next;have h3:=h2.qn u3;have hnt3:Nt x.o.s 0 (Nd.lf (xO l key val)) lo hi (xO l key val) []:=⟨rfl,λy hy=>by
   rcases w2 y hy with hy|rfl
   ·exact hl y hy
   ·exact hin,rfl⟩
  have hr3:=vt w1.1 w1.2;have u03:Upd x.fp m m3:=((u1.mono (λb hb _=>by simp at hb; simp [Wx.fp,hb])).qu u2).qu u3;refine qh.2 ((QK h3 he hf (by rw [show ({ x with rd:=x.rd+1 }:Wx).o=x.o from rfl,hp.pg]; simp) t3 hr3 (by show ((xO l key val).map qJ).sum<=344; omega) hnt3 (by simp) (by simp)).mono λr4 m4 hq=>?_);simp only [st0];rcases hq with ⟨a1,x',a2,a3,a4,a5⟩|⟨x',ps,S',a1,a2,a3,a4,a5,a6,a7,a8,a9,a10⟩
  ·exact .inl ⟨qgC hnt3 hr3 a1,x',a2,⟨a3.w,a3.pm,a3.c,a3.p,a3.P,a3.nt,a3.hd,a3.xb,a3.rest,a3.t⟩,a4,u03.trans a5⟩
  ·exact .inr ⟨x',ps,S',a1,⟨a2.w,a2.pm,a2.c,a2.p,a2.P,a2.nt,a2.hd,a2.xb,a2.rest,a2.t⟩,a3,by rw [a4]; exact Nat.le_refl _,a5,a6.low (by omega),(XL a7).2 (by simpa [neN,Nd.lf] using w4),a8,a9,u03.trans a10⟩
 | succ h ih =>
  intro x m page left lo hi l U hx he hrd hf hle hl40 ht hnd hin;obtain ⟨n,U',hp,hn,hnt,rfl⟩:=xf.1 ht;obtain ⟨ks,ps,rfl,hks,hfo⟩:=hnt;have hne:ks≠[]:=by simpa [neN,Nd.nd] using hn
  obtain ⟨hh,hlk⟩:=hp.here;have hlt:=xT hh;have hP:=hx.wr.hP;have fpl:=hx.ym;obtain ⟨_,i1,r1,v1,p1⟩:=zo hp.rt rfl;have i1:ps.length=ks.length+1:=i1;have r1:qE ks=true:=r1;have p1:∀ k∈ps,1<=k/\k<=65535:=p1;have hcl:=(vE key ks r1).2.2;obtain ⟨p,lo',hi',l0,l1,l2,S0,S1,S2,e1,e2,e3,e4,e5,e6,e7,e8,e9⟩:=qbD (Qw x.o.s h) hfo r1 hks hin;subst e5 e6;rw [C91];refine qh.2 ((wT hx he (by omega) (by omega) (by omega) hh hlk hp.rt hp.sz).mono λv1 m1 ⟨t1,h1,u1⟩=>?_);have x1:=u1.next;have hT:=t1;obtain ⟨sp,sk,si,rfl,q1,q2,q3⟩:=t1.ex;have q3:RSl m.next zN m1 si ps:=q3;simp only [st0];refine jf (c:=[.bool (Nd.nd ks ps).leaf,sp,sk,si]) rfl rfl (by simp [q1.one.2,q2.one.2,q3.one.2,show (Value.bool (Nd.nd ks ps).leaf).oneCell'=true from rfl]) λm2 b2 u2 n2=>?_
  have h2:=h1.qn u2;have T2:=hT.qn u2;have z5:=xok h2;rw [decide_eq_true (show ({ x with rd:=x.rd+1 }:Wx).err=0 from he)] at z5;have hlf:(Nd.nd ks ps).leaf=false:=rfl;rw [hlf] at b2;simp only [st0,z5,fa,qF b2 (o:=0+0) rfl,qD b2];refine qh.2 ((Kj key T2 (Zv hp.rt (YH hp.sz))).mono λv3 m3 ⟨r3,u3⟩=>?_);subst r3;have x3:=u3.next;have h3:=h2.qn u3;have b3:=qq u3 (by omega) b2;have q33:=(q3.qn u2).qn u3;have hclt:zM ks key<ps.length:=by omega
  have hget:ps[zM ks key]? = some p:=by
   have:=congrArg (λt:List Nat=>t[zM ks key]?) e1;rw [this,List.getElem?_append_right (by rw [ltI]; omega),ltI,Nat.min_eq_left (by omega),Nat.sub_self]; rfl
  obtain ⟨pk,y1,_,y2⟩:=q33.1.index .i64 hget;rw [jU] at y1;have y2:=y2 (.int .i64 (p:Int)) rfl;have esub:arith .sub (.int .i64 (left:Int)) (.int .i64 1)=some (.int .i64 ((left - 1:Nat):Int)):=by rw [xh (by omega) (by omega)]; congr 2; omega
  have y1':qi 1 si (.int .i64 ((zM (Nd.nd ks ps).keys key:Nat):Int))=some pk:=y1;simp only [st0,fa,qF b3 (o:=0+3) rfl,y1',y2,esub];have u03:Upd x.fp m m3:=((u1.mono (λb hb _=>by simp at hb; simp [Wx.fp,hb])).qu u2).qu u3;rw [List.nodup_cons] at hnd;obtain ⟨hpU,hndU⟩:=hnd;obtain ⟨nd1,nd2⟩:=Vj hndU;refine qh.2 ((ih { x with rd:=x.rd+1 } m3 p (left - 1) lo' hi' l1 S1 h3 he (by show x.rd+1+h<1000; omega) hf (by omega) (by omega) e3 nd1 e7).mono λv4 m4 hq=>?_);have eput:xO (l0++(l1++l2)) key val=l0++(xO l1 key val++l2):=qcc e8 (λy hy=>⟨zU (e9 y hy),(Qn (e9 y hy)).symm⟩);rw [eput];rcases hq with ⟨a0,x',a1,a2,a3,a4⟩|⟨x',pts,S1',a1,a2,a3,a4,a5,a6,a7,a8,a9,a10⟩
  ·have z6:=xok a1;rw [decide_eq_false (show ¬ x'.err=0 by omega),a2.v] at z6;simp only [st0,z6];exact .inl ⟨by simp only [laI]; omega,x',a1,⟨a2.w,a2.pm,a2.c,a2.p,a2.P,a2.nt,a2.hd,a2.xb,a2.rest,a2.t⟩,a3,u03.trans a4⟩
  ·have z6:=xok a1;rw [decide_eq_true a3,a2.v] at z6;have a2':Kin x x':=⟨a2.w,a2.pm,a2.c,a2.p,a2.P,a2.nt,a2.hd,a2.xb,a2.rest,a2.t⟩;have a8:Stp x.o.s x'.o.s S1 S1':=a8;have a10:Upd x.fp m3 m4:=a10;have x4:=a10.next;have b4:m4.get m1.next=_:=(a10.same _ (by omega) (λhm=>by have:=fpl _ hm; omega)).trans b3;have T4:=((T2.qn u3).upd a10 (λb hb=>fpl b hb));have hkp:=Zl hp.rt hp.sz;have hu:∀ q∈page::(S0++(S1++S2)),x.o.s q≠none:=vQ x.o.s (h+1) page lo hi _ _ ht;have hkeep:∀ q∈S0++S2,x'.o.s q=x.o.s q/\q∉S1':=λq hq=>a8.zL (nd2 q hq) (hu q (by
    simp only [lcI,List.mem_append] at hq ⊢;rcases hq with h|h<;>simp [h]))
   have hpk:=a8.zL (q:=page) (λh=>hpU (by simp [h])) (hu page (by simp));obtain ⟨f1,f2,f3,f4⟩:=Vq (s1:=x'.o.s) hp.rt hp.sz hks hne e1 hcl e2 e4 (λq hq=>(hkeep q hq).1) (Zb a1.wr.hP) a7;simp only [st0,z6,qD b4];have hpl:pts.length<=2:=by
    rcases a7 with ⟨rfl,_⟩|⟨k,q,la,lb,Sa,Sb,rfl,_⟩<;>simp
   refine qh.2 ((VP (k:=zM ks key) T4 (a6.low (lo':=m.next) (by omega)) hpl (by omega) hkp.1 hkp.2).mono λv5 m5 ⟨t5,u5⟩=>?_);have x5:=u5.next;have h5:=a1.qn u5;have hev:x.v=x'.v:=a2.v.symm;rw [hev];have u05:Upd x.fp m m5:=(u03.trans a10).qu u5;have hnd':(S0++(S1'++S2)).Nodup:=yI hndU a9 (λq hq=>(hkeep q hq).2);have hpS:page∉S0++(S1'++S2):=by
    simp only [List.mem_append,not_or] at hpU ⊢;exact ⟨hpU.1,hpk.2,hpU.2.2⟩
   refine qh.2 ((QK h5 a3 a5 (by rw [hpk.1]; exact hu page (by simp)) t5 f2 f3 f1 hpS hnd').mono λr6 m6 hq=>?_);simp only [st0];have hst:Stp x.o.s x'.o.s (page::(S0++(S1++S2))) (page::(S0++(S1'++S2))):=a8.ctx (T:=page::(S0++S2)) (λq=>by simp only [lcI,List.mem_append]; grind) (λq=>by simp only [lcI,List.mem_append]; grind);rcases hq with ⟨d1,x'',d2,d3,d4,d5⟩|⟨x'',ps',S',d1,d2,d3,d4,d5,d6,d7,d8,d9,d10⟩
   ·exact .inl ⟨qgC f1 f2 d1,x'',d2,a2'.trans d3,d4,by rw [a2'.fp] at d5; exact u05.trans d5⟩
   ·refine .inr ⟨x'',ps',S',d1,a2'.trans d2,d3,?_,d5,d6.low (by omega),(XL d7).2 f4,hst.trans d8,d9,by rw [a2'.fp] at d10; exact u05.trans d10⟩;have a4:x'.rd<=x.rd+1+(h+1):=a4;omega
end Go.Fx.Tryz
namespace Go.Fx.Tryz
open Go Go.Fx
theorem WN {α:Type} (l:List α) (j:Nat) {i:Nat} (h:i<l.length):(l.take (i+1)).eraseIdx j=(l.take i).eraseIdx j++(if i=j then [] else [l[i]]):=by
 have hl:(l.take i).length=i:=by rw [ltI]; omega
 rw [tsI h];rcases Nat.lt_trichotomy i j with h1|h1|h1
 ·rw [List.eraseIdx_append_of_length_le (by omega),if_neg (by omega),List.eraseIdx_of_length_le (l:=l.take i) (by omega),List.eraseIdx_of_length_le (by simp; omega)]
 ·subst h1;rw [List.eraseIdx_append_of_length_le (by omega),if_pos rfl,List.eraseIdx_of_length_le (l:=l.take i) (by omega),hl,Nat.sub_self]; rfl
 ·rw [List.eraseIdx_append_of_lt_length (by omega),if_neg (by omega)]
theorem _root_.Go.Fx.TN.qkN {lo:Nat} {m m':Mem} {fp:List Nat} {b:Bool} {sp sk si:Value} {n:Nd} (h:TN lo m (kT b sp sk si) n) (hu:Upd fp m m') (hf:∀ c∈(qc sp++qc sk)++qc si,c∉fp):TN lo m' (kT b sp sk si) n:=by
 obtain ⟨tp,tk,ti,e,h1,h2,h3⟩:=h.ex;injection e with e;injection e with e;injection e with e1 e;injection e with e2 e;injection e with e3 e;injection e with e4 e;injection e1 with e1;subst e1 e2 e3 e4;exact ⟨_,_,_,rfl,h1.zL hu (λc hc=>hf c (by simp [hc])),h2.zL hu (λc hc=>hf c (by simp [hc])),h3.zL hu (λc hc=>hf c (by simp [hc]))⟩
structure Me (lo:Nat) (ks:List Bs) (ps:List Nat) (nb:Nat) (sp sk si:Value) (m:Mem):Prop where
 gn:m.get nb=some (qg false sp sk si)
 k2:RSl lo encS m sk ks
 k3:RSl lo zN m si ps
theorem Me.zL {lo:Nat} {ks:List Bs} {ps:List Nat} {nb:Nat} {sp sk si:Value} {m m':Mem} (h:Me lo ks ps nb sp sk si m) {fp:List Nat} (hu:Upd fp m m') (hl:nb<m.next) (hf:nb∉fp/\(∀ b∈qc sk,b∉fp)/\∀ b∈qc si,b∉fp):Me lo ks ps nb sp sk si m' :=
 ⟨(hu.same _ hl hf.1).trans h.gn,h.k2.zL hu hf.2.1,h.k3.zL hu hf.2.2⟩
theorem Me.qn {lo:Nat} {ks:List Bs} {ps:List Nat} {nb:Nat} {sp sk si:Value} {m m':Mem} (h:Me lo ks ps nb sp sk si m) (hu:Upd [] m m') (hl:nb<m.next):Me lo ks ps nb sp sk si m' :=
 h.zL hu hl ⟨by simp,λ_ _=>by simp,λ_ _=>by simp⟩
theorem KM {lo:Nat} {m:Mem} {si:Value} {ps:List Nat} (h:RSl lo zN m si ps) {i p:Nat} (hi:ps[i]? = some p):∃ pk,qi 1 si (.int .i64 (i:Int))=some pk/\∀ M,RSl lo zN M si ps->qa pk M=some (.int .i64 (p:Int)):=by
 obtain ⟨b,off,h1,h2⟩:=h.1.at .i64 hi;rw [jU] at h1;refine ⟨_,h1,λM hM=>?_⟩;have:=(h2 M hM.1).2 0 (.int .i64 (p:Int)) rfl
 rwa [Nat.add_zero] at this
theorem HA {lo:Nat} {m:Mem} {sk:Value} {ks:List Bs} (h:RSl lo encS m sk ks) {i:Nat} {k:Bs} (hi:ks[i]? = some k):∃ pk,qi 1 sk (.int .i64 (i:Int))=some pk/\∀ M,RSl lo encS M sk ks->qa pk M=some (str k):=by
 obtain ⟨b,off,h1,h2⟩:=h.1.at .i64 hi;rw [xw] at h1;refine ⟨_,h1,λM hM=>?_⟩;have:=(h2 M hM.1).2 0 (str k) rfl
 rwa [Nat.add_zero] at this
theorem qdz {lo nb ob j:Nat} {ks:List Bs} {ps:List Nat} {sp sk si x0 x8 x12:Value} {m0:Mem} {Q:Value->Mem->Prop} (hl:ps.length=ks.length+1) (hps:ps.length<=200) (hj:j<=200) (hm:Me lo ks ps nb sp sk si m0)
  (hb:(nb<m0.next/\nb≠ob)/\(∀ b∈qc sk,b≠ob)/\∀ b∈qc si,b≠ob)
  (hQ:∀ m kv iv,Ou m0 ob m kv iv (ks.eraseIdx j) (ps.eraseIdx (j+1))->W (Yp x0 (.int .i64 (j:Int)) (.pointer (some ⟨nb,0,none⟩)) x8 x12 (.pointer (some ⟨ob,0,none⟩)) m) Q) :
  ∀ (d i:Nat) (m:Mem) (kv iv:Value),ps.length - i=d->i<=ps.length->Ou m0 ob m kv iv ((ks.take (i - 1)).eraseIdx j) ((ps.take i).eraseIdx (j+1)) ->
  W (Kx x0 (.int .i64 (j:Int)) (.pointer (some ⟨nb,0,none⟩)) x8 x12 (.pointer (some ⟨ob,0,none⟩)) si (.int .i64 (ps.length:Int)) (.int .i64 (i:Int)) m) Q:=by
 intro d
 induction d with
 | zero =>
  intro i m kv iv hd hi h;obtain rfl:i=ps.length:=by omega
  rw [P166_1_eq];simp only [st0,Int.lt_irrefl];rw [List.take_of_length_le (by omega),List.take_of_length_le (by omega)] at h;exact hQ m kv iv h
 | succ d ih =>
  intro i m kv iv hd hi h;have hlt:i<ps.length:=by omega
  have he:Me lo ks ps nb sp sk si m:=hm.zL h.up hb.1.1 ⟨by simp; exact hb.1.2,λb hb'=>by simp; exact hb.2.1 b hb',λb hb'=>by simp; exact hb.2.2 b hb'⟩;have e1:((i:Int)<(ps.length:Int))=True:=eq_true (by omega);obtain ⟨p,h1,h2⟩:=KM he.k3 (jB hlt);have h2:=h2 m he.k3;have hs:=WN ps (j+1) hlt;have hadd:arith .add (.int .i64 (j:Int)) (.int .i64 1)=some (.int .i64 ((j+1:Nat):Int)):=qB (by omega);have hok:((ks.take (i - 1)).eraseIdx j).length<=400:=by
   have:=List.length_eraseIdx_le (ks.take (i - 1)) j;rw [ltI] at this; omega
  have hoi:((ps.take i).eraseIdx (j+1)).length<=400:=by
   have:=List.length_eraseIdx_le (ps.take i) (j+1);rw [ltI] at this; omega
  rw [P166_1_eq];by_cases hij:i=j+1
  ·have e2:((i:Int)=((j+1:Nat):Int))=True:=eq_true (by omega);simp only [st0,e1,h1,h2,hadd,e2,qB (i:=i) (by omega)];refine ih (i+1) m kv iv (by omega) hlt ?_;rw [hs,if_pos hij,List.append_nil];have hk:=WN ks j (i:=i - 1) (by omega);rw [if_pos (by omega),List.append_nil,show i - 1+1=i+1 - 1 by omega] at hk;rw [hk]; exact h
  ·have e2:((i:Int)=((j+1:Nat):Int))=False:=eq_false (by omega);rw [if_neg hij] at hs;have tail:∀ {M:Mem} {kv iv:Value},Ou m0 ob M kv iv ((ks.take (i+1 - 1)).eraseIdx j) ((ps.take i).eraseIdx (j+1)) ->
     W (Yq x0 (.int .i64 (j:Int)) (.pointer (some ⟨nb,0,none⟩)) x8 x12 (.pointer (some ⟨ob,0,none⟩)) (.int .i64 (ps[i]:Int)) si (.int .i64 (ps.length:Int)) (.int .i64 (i:Int)) M) Q:=by
    intro M kv iv ho;rw [P166_2_eq];simp only [st0,fa,ho.ld.2,qgh];refine zZ (E:=zN) [ps[i]] (by decide) ho.ti (by simp only [lnI,List.length_nil]; omega) λv2 m2 q1 q2 q3=>?_
    obtain ⟨g2,o2⟩:=ho.qkp q1 q2 q3;simp only [st0,fa,yh g2 q1.one,qB (i:=i) (by omega)];refine ih (i+1) _ kv v2 (by omega) hlt ?_;rw [hs]; exact o2
   by_cases h0:i=0
   ·have e3:((0:Int)<(i:Int))=False:=eq_false (by omega);simp only [st0,e1,h1,h2,hadd,e2,e3];refine tail (kv:=kv) (iv:=iv) ?_;subst h0;exact h
   ·have e3:((0:Int)<(i:Int))=True:=eq_true (by omega);have hlk:i - 1<ks.length:=by omega
    obtain ⟨pk,y1,y2⟩:=HA he.k2 (jB hlk);have y2:=y2 m he.k2;have e4:arith .sub (.int .i64 (i:Int)) (.int .i64 1)=some (.int .i64 ((i - 1:Nat):Int)):=by rw [xh (by omega) (by omega)]; congr 2; omega
    have hk:=WN ks j hlk;rw [if_neg (by omega),show i - 1+1=i+1 - 1 by omega] at hk;simp only [st0,e1,h1,h2,hadd,e2,e3,fa,h.ld.1,qF he.gn (o:=0+2) rfl,e4,y1,y2,Vv];refine zZ (E:=encS) [ks[i - 1]] (by decide) h.tk (by simp only [lnI,List.length_nil]; omega) λv2 m2 q1 q2 q3=>?_
    obtain ⟨g2,o2⟩:=h.qko q1 q2 q3;simp only [st0,fa,QO g2 q1.one];refine jC (λr hr=>?_) (tail (by rw [hk]; exact o2));simp only [lcI,nmI,or_false] at hr;rcases hr with rfl|rfl|rfl
    ·exact okR λk _ hk=>by
      have:k=0∨k=1:=by omega
      rcases this with rfl|rfl
      ·exact ⟨_,rfl,h.ld.1⟩
      ·exact ⟨_,rfl,(h.qn (Upd.add _ _ _)).ld.1⟩
    ·exact okR λk _ hk=>by
      obtain rfl:k=0:=by omega
      exact ⟨_,rfl,qF he.gn rfl⟩
    ·exact okR λk _ hk=>by
      obtain rfl:k=0:=by omega
      exact ⟨_,rfl,y2⟩
section
variable {x:Wx} {m:Mem}
theorem qic (a:Bs) (p:Nat) (b:Bs) (q:Nat):qt [.string ⟨#[]⟩,.int .i64 0,.string ⟨#[]⟩,.int .i64 0] [(0,2,.agg [str a,.int .i64 (p:Int)].toArray),(2,2,.agg [str b,.int .i64 (q:Int)].toArray)]=some (zQ.flat [(a,p),(b,q)]):=by kernel_rfl
set_option maxRecDepth 4000 in
theorem qdy {lo nb ob bb rb j p1 p2:Nat} {sp sk si kv iv bp bk bi:Value} {ks:List Bs} {ps:List Nat} {ok:List Bs} {oi:List Nat} {n:Nd} (h:XR x m) (he:x.err=0) (hfp:∀ b∈x.fp,b<lo) (hcp:x.o.c<lo/\x.o.p<lo) (hlo:lo<=m.next)
    (hb:(lo<=nb/\nb<m.next)/\(lo<=ob/\ob<m.next)/\(lo<=bb/\bb<m.next)/\(lo<=rb/\rb<m.next)) (hrk:(∀ b∈qc kv,b≠rb)/\∀ b∈qc iv,b≠rb)
    (hm:Me lo ks ps nb sp sk si m) (go:m.get ob=some (qg false (.slice none 0 0) kv iv)) (tk:RSl lo encS m kv ok) (ti:RSl lo zN m iv oi)
    (gb:m.get bb=some (qg n.leaf bp bk bi)) (tb:TN lo m (kT n.leaf bp bk bi) n) (gr:m.get rb=some (qg false (.slice none 0 0) (.slice none 0 0) (.slice none 0 0)))
    (hj1:ps[j]? = some p1) (hj2:ps[j+1]? = some p2) (hj:j<=200) (hh1:x.o.has p1=true) (hh2:x.o.has p2=true) (hne:p1≠p2) (hr:qO n=true) (hw:wtN n)
    (hs:¬ qW n<=256->(if n.leaf then 2<=n.pairs.length else 3<=n.keys.length/\n.kids.length=n.keys.length+1)/\qO (qz n).1=true/\qW (qz n).1<=256/\qO (qz n).2.1=true/\qW (qz n).2.1<=256)
    (hol:oi.length<=ok.length+1/\oi.length<=200) :
    W (Yp x.v (.int .i64 (j:Int)) (.pointer (some ⟨nb,0,none⟩)) (.pointer (some ⟨rb,0,none⟩)) (.pointer (some ⟨bb,0,none⟩)) (.pointer (some ⟨ob,0,none⟩)) m) λr m'=>Upd (rb::x.fp) m m' /\
      ((qW n<=256/\TN lo m' r (Nd.nd ok oi)/\∃ c,XR { x with o:={ x.o with u:=xg x.o.u p2,L:=upL x.o.L p1 (zC n) c } } m') ∨
       (¬ qW n<=256/\TN lo m' r (vd (Nd.nd ok oi) j [([],p1),((qz n).2.2,p2)])/\∃ c1 c2,XR { x with o:={ x.o with L:=upL (upL x.o.L p1 (zC (qz n).1) c1) p2 (zC (qz n).2.1) c2 } } m')):=by
  obtain ⟨⟨b1,b2⟩,⟨b3,b4⟩,⟨b5,b6⟩,⟨b7,b8⟩⟩:=hb;have hP:=h.wr.hP;have l1:=xT hh1;have l2:=xT hh2;have nf:∀ {b:Nat},lo<=b->b∉x.fp:=λhb hm=>by have:=hfp _ hm; omega
  have sub1:∀ b,b∈[x.o.pm,x.xb]->b∈x.fp:=λb hb=>lcI.2 (.inr hb)
  have sub2:∀ b,b∈[x.o.w,x.xb]->b∈x.fp:=λb hb=>by simp only [lcI,nmI,or_false,Wx.fp] at hb ⊢; omega
  have subr:∀ b,b∈x.fp->b∈rb::x.fp:=λb hb=>lcI.2 (.inr hb)
  have mk:∀ {M M':Mem},m.next<=M.next->Me lo ks ps nb sp sk si M->Upd x.fp M M'->Me lo ks ps nb sp sk si M':=λhn h hu=>h.zL hu (by omega) ⟨nf b1,λb hb=>nf (h.k2.2 b hb).1,λb hb=>nf (h.k3.2 b hb).1⟩
  have hadd:arith .add (.int .i64 (j:Int)) (.int .i64 1)=some (.int .i64 ((j+1:Nat):Int)):=qB (by omega);obtain ⟨pk1,i1,i1'⟩:=KM hm.k3 hj1;obtain ⟨pk2,i2,i2'⟩:=KM hm.k3 hj2;rw [P166_3_eq];simp only [st0,qD gb];refine qh.2 ((XE tb (Zv hr hw)).mono λv1 m1 ⟨r1,u1⟩=>?_);subst r1;have x1:=u1.next;have h1:=h.qn u1;have hm1:=hm.qn u1 b2;have go1:=qq u1 b4 go;have gb1:=qq u1 b6 gb;have gr1:=qq u1 b8 gr;have tb1:=tb.qn u1;have tk1:=tk.qn u1;have ti1:=ti.qn u1;by_cases hsz:qW n<=256
  · have e1:(((qW n:Nat):Int)<=256)=True:=eq_true (by omega);simp only [st0,e1,fa,qF hm1.gn (o:=0+3) rfl,i1,i1' m1 hm1.k3,qD gb1];refine qh.2 ((wY h1 he (by omega) tb1 hh1 hr hsz).mono λv2 m2 ⟨r2,⟨c,h2⟩,u2⟩=>?_);have x2:=u2.next;have u2:Upd x.fp m1 m2:=u2.mono λb hb _=>sub1 b hb
    have hm2:=mk x1 hm1 u2;have go2:=(u2.same ob (by omega) (nf b3)).trans go1;have gr2:=(u2.same rb (by omega) (nf b7)).trans gr1;simp only [st0,fa,qF hm2.gn (o:=0+3) rfl,hadd,i2,i2' m2 hm2.k3];refine qh.2 ((qeq h2 he (by omega) (by show Wo.has x.o p2=true; exact hh2)).mono λv3 m3 ⟨r3,h3,u3⟩=>?_);have x3:=u3.next;have u3:Upd x.fp m2 m3:=u3.mono λb hb _=>sub2 b hb
    have go3:=(u3.same ob (by omega) (nf b3)).trans go2;have gr3:=(u3.same rb (by omega) (nf b7)).trans gr2;have tk3:=(tk1.upd u2 hfp).upd u3 hfp;have ti3:=(ti1.upd u2 hfp).upd u3 hfp;simp only [st0,qD go3,qX gr3 false (sp':=.slice none 0 0) (sk':=kv) (si':=iv) rfl tk3.one.2 ti3.one.2,qD (Mem.qe m3 rb _)];have hp:Upd [rb] m3 (m3.put rb (qg false (.slice none 0 0) kv iv)):=Upd.put _ _ (by simp);refine ⟨(((u1.nil'.trans (u2.mono λb hb _=>subr b hb)).trans (u3.mono λb hb _=>subr b hb))).trans (hp.mono λb hb _=>by simp at hb; simp [hb]),.inl ⟨hsz,⟨_,_,_,rfl,RSl.nil _ _ _,tk3.zL hp (λb hb=>by simp; exact hrk.1 b hb),ti3.zL hp (λb hb=>by simp; exact hrk.2 b hb)⟩,c,?_⟩⟩;refine h3.upd hp λb hb=>?_
    simp at hb; subst hb;have w1:=nf b7;have fw:=h.wr.lw; have fc:=h.wr.lc; have fpp:=h.wr.lp;simp only [Wx.fp,lcI,nmI,or_false,not_or] at w1;refine ⟨w1.2.2,w1.1,w1.2.1,?_,?_⟩
    · show b≠x.o.c;omega
    · show b≠x.o.p;omega
  · obtain ⟨s1,s2,s3,s4,s5⟩:=hs hsz;have e1:(((qW n:Nat):Int)<=256)=False:=eq_false (by omega);simp only [st0,e1,qD gb1];refine qh.2 ((Vi tb1 (Zv hr hw) s1).mono λv2 m2 ⟨⟨va,vb,r2,ta,tb'⟩,u2⟩=>?_);subst r2;have x2:=u2.next;obtain ⟨pa,ka,ia,rfl,a1,a2,a3⟩:=ta.ex;obtain ⟨pb,kb,ib,rfl,c1,c2,c3⟩:=tb'.ex;simp only [st0,(ex3 _ _ _).1,(ex3 _ _ _).2.1,(ex3 _ _ _).2.2];have u4:Upd [] m2 (m2.add (qg false (.slice none 0 0) (.slice none 0 0) (.slice none 0 0))):=Upd.add _ _ _;have g4:(m2.add (qg false (.slice none 0 0) (.slice none 0 0) (.slice none 0 0))).get m2.next=some (qg false (.slice none 0 0) (.slice none 0 0) (.slice none 0 0)):=Mem.qf ..;have n4:(m2.add (qg false (.slice none 0 0) (.slice none 0 0) (.slice none 0 0))).next=m2.next+1:=rfl;generalize (m2.add (qg false (.slice none 0 0) (.slice none 0 0) (.slice none 0 0)))=m4 at u4 g4 n4;have u5:Upd [] m4 (m4.add (qg false (.slice none 0 0) (.slice none 0 0) (.slice none 0 0))):=Upd.add _ _ _;have k5:(m4.add (qg false (.slice none 0 0) (.slice none 0 0) (.slice none 0 0))).get m4.next=some (qg false (.slice none 0 0) (.slice none 0 0) (.slice none 0 0)):=Mem.qf ..;have n5:(m4.add (qg false (.slice none 0 0) (.slice none 0 0) (.slice none 0 0))).next=m4.next+1:=rfl;have g5:=qq u5 (by omega) g4;generalize (m4.add (qg false (.slice none 0 0) (.slice none 0 0) (.slice none 0 0)))=m5 at u5 k5 n5 g5;simp only [st0,qX g5 _ a1.one.2 a2.one.2 a3.one.2];have u6:Upd [m2.next] m5 (m5.put m2.next (qg (qz n).1.leaf pa ka ia)):=Upd.put _ _ (by simp);have g6:(m5.put m2.next (qg (qz n).1.leaf pa ka ia)).get m2.next=_:=Mem.qe ..;have k6:(m5.put m2.next (qg (qz n).1.leaf pa ka ia)).get m4.next=_:=(Mem.qs m5 _ (by omega)).trans k5;generalize (m5.put m2.next (qg (qz n).1.leaf pa ka ia))=m6 at u6 g6 k6;simp only [st0,qX k6 _ c1.one.2 c2.one.2 c3.one.2];have u7:Upd [m4.next] m6 (m6.put m4.next (qg (qz n).2.1.leaf pb kb ib)):=Upd.put _ _ (by simp);have k7:(m6.put m4.next (qg (qz n).2.1.leaf pb kb ib)).get m4.next=_:=Mem.qe ..;have g7:(m6.put m4.next (qg (qz n).2.1.leaf pb kb ib)).get m2.next=_:=(Mem.qs m6 _ (by omega)).trans g6;generalize (m6.put m4.next (qg (qz n).2.1.leaf pb kb ib))=m7 at u7 g7 k7;have x6:=u6.next;have x7:=u7.next;have u27:Upd [] m2 m7:=(((u4.qu u5).then' u6 (λb hb=>.inr (by simp at hb; omega))).then' u7 (λb hb=>.inr (by simp at hb; omega)));have ta7:=ta.qn u27;have tb7:=tb'.qn u27;have u17:=u2.qu u27;have h7:=h1.qn u17;have hm7:=hm1.qn u17 (by omega);have go7:=qq u17 (by omega) go1;have gr7:=qq u17 (by omega) gr1;have tk7:=tk1.qn u17;have ti7:=ti1.qn u17;have nf2:∀ {b:Nat},m1.next<=b->b∉x.fp:=λhb=>nf (by omega)
    have hfp1:∀ b∈x.fp,b<m1.next:=λb hb=>by have:=hfp b hb; omega
    simp only [st0,fa,qF hm7.gn (o:=0+3) rfl,i1,i1' m7 hm7.k3,qD g7];refine qh.2 ((wY h7 he (by omega) ta7 hh1 s2 s3).mono λv8 m8 ⟨_,⟨d1,h8⟩,u8⟩=>?_);have x8:=u8.next;have u8:Upd x.fp m7 m8:=u8.mono λb hb _=>sub1 b hb
    have hm8:=mk (by omega) hm7 u8;have go8:=(u8.same ob (by omega) (nf b3)).trans go7;have gr8:=(u8.same rb (by omega) (nf b7)).trans gr7;have k8:=(u8.same m4.next (by omega) (nf (by omega))).trans k7;simp only [st0,fa,qF hm8.gn (o:=0+3) rfl,hadd,i2,i2' m8 hm8.k3,qD k8];refine qh.2 ((wY h8 he (by omega) (tb7.upd u8 hfp1) (by show Wo.has x.o p2=true; exact hh2) s4 s5).mono λv9 m9 ⟨_,⟨d2,h9⟩,u9⟩=>?_);have x9:=u9.next;have u9:Upd x.fp m8 m9:=u9.mono λb hb _=>sub1 b hb
    have hm9:=mk (by omega) hm8 u9;have go9:=(u9.same ob (by omega) (nf b3)).trans go8;have gr9:=(u9.same rb (by omega) (nf b7)).trans gr8;have tk9:=(tk7.upd u8 hfp).upd u9 hfp;have ti9:=(ti7.upd u8 hfp).upd u9 hfp;have f1:=Qp [] p1;rw [<- wB] at f1;have f2:=Qp (qz n).2.2 p2;have f3:=qic [] p1 (qz n).2.2 p2;rw [<- wB] at f3;simp only [st0,qD go9,fa,qF hm9.gn (o:=0+3) rfl,i1,i1' m9 hm9.k3,f1,hadd,i2,i2' m9 hm9.k3,f2,f3];have ua:Upd [] m9 (m9.add ⟨.cells (zQ.flat [(([]:Bs),p1),((qz n).2.2,p2)]) 206,false,none⟩):=Upd.add _ _ _;have na:(m9.add ⟨.cells (zQ.flat [(([]:Bs),p1),((qz n).2.2,p2)]) 206,false,none⟩).next=m9.next+1:=rfl;have tf:TAp zQ 206 (m9.add ⟨.cells (zQ.flat [(([]:Bs),p1),((qz n).2.2,p2)]) 206,false,none⟩) (.slice (some ⟨m9.next,0,none⟩) [(([]:Bs),p1),((qz n).2.2,p2)].length [(([]:Bs),p1),((qz n).2.2,p2)].length) [([],p1),((qz n).2.2,p2)]:=TAp.fresh m9 _;have hqm:m9.next<(m9.add ⟨.cells (zQ.flat [(([]:Bs),p1),((qz n).2.2,p2)]) 206,false,none⟩).next:=by omega
    generalize (m9.add ⟨.cells (zQ.flat [(([]:Bs),p1),((qz n).2.2,p2)]) 206,false,none⟩)=m10 at ua na tf;have go10:=qq ua (by omega) go9;have tv:TN lo m10 (kT false (.slice none 0 0) kv iv) (Nd.nd ok oi):=⟨_,_,_,rfl,RSl.nil _ _ _,tk9.qn ua,ti9.qn ua⟩;refine qh.2 ((VP (k:=j) tv (tf.rsl (λb hb=>by simp [qc] at hb; omega)) (Nat.le_refl 2) (by omega) hol.1 hol.2).mono λv11 m11 ⟨t11,u11⟩=>?_);have x11:=u11.next;have hT:=t11;obtain ⟨wp,wk,wi,rfl,d3,d4,d5⟩:=t11.ex;have gr11:=qq (ua.qu u11) (by omega) gr9;have hlf:(vd (Nd.nd ok oi) j [([],p1),((qz n).2.2,p2)]).leaf=false:=rfl;rw [hlf] at hT;rw [hlf];simp only [st0,qX gr11 false d3.one.2 d4.one.2 d5.one.2,qD (Mem.qe m11 rb _)];have hp:Upd [rb] m11 (m11.put rb (qg false wp wk wi)):=Upd.put _ _ (by simp);refine jC (λr hr=>?_) (zv.2 ⟨?_,.inr ⟨hsz,((hT.upd hp (λb hb=>by simp at hb; omega)).low (by omega)),d1,d2,?_⟩⟩)
    · simp only [lcI,nmI,or_false] at hr;rcases hr with rfl|rfl|rfl|rfl|rfl
      · exact okR λk _ hk=>by
          have:k=0∨k=1:=by omega
          rcases this with rfl|rfl
          · exact ⟨_,rfl,qD go9⟩
          · exact ⟨_,rfl,qD go10⟩
      · exact okR λk _ hk=>by
          obtain rfl:k=0:=by omega
          exact ⟨_,rfl,qF hm9.gn rfl⟩
      · exact okR λk _ hk=>by
          obtain rfl:k=0:=by omega
          exact ⟨_,rfl,i1' m9 hm9.k3⟩
      · exact okR λk _ hk=>by
          obtain rfl:k=0:=by omega
          exact ⟨_,rfl,qF hm9.gn rfl⟩
      · exact okR λk _ hk=>by
          obtain rfl:k=0:=by omega
          exact ⟨_,rfl,i2' m9 hm9.k3⟩
    · have u19:Upd x.fp m1 m9:=(u17.nil'.trans u8).trans u9;exact ((((u1.nil' (fp:=x.fp)).trans u19).qu (ua.qu u11)).mono λb hb _=>subr b hb).trans (hp.mono λb hb _=>by simp at hb; simp [hb])
    · refine ((h9.qn ua).qn u11).upd hp λb hb=>?_
      simp at hb; subst hb;have w1:=nf b7;simp only [Wx.fp,lcI,nmI,or_false,not_or] at w1;refine ⟨w1.2.2,w1.1,w1.2.1,?_,?_⟩
      · show b≠x.o.c;omega
      · show b≠x.o.p;omega
end
end Go.Fx.Tryz
namespace Go.Fx.Tryz
open Go Go.Fx
def qaS (n:Nd):Nat:=if n.leaf then (n.pairs.map qJ).sum else (n.keys.map λk=>3+k.length).sum
theorem Vf {n:Nd} (h:qW n<=256):qaS n<=254/\(n.leaf=false->qaS n<=252):=by
 unfold qW at h; unfold qaS;cases hl:n.leaf with
 | true=>rw [hl,if_pos rfl] at h; rw [if_pos rfl]; exact ⟨by omega,λh=>by cases h⟩
 | false=>rw [hl,if_neg (by simp)] at h; rw [if_neg (by simp)]; exact ⟨by omega,λ_=>by omega⟩
theorem Ho {n:Nd} (h:Qa n=true):qaS n<=87:=by
 unfold Qa qW at h;unfold qaS;cases hl:n.leaf with
 | true =>
  simp only [hl,if_true,Bool.or_eq_true,decide_eq_true_eq,Bool.true_and,Bool.not_true,Bool.false_and,Bool.false_eq_true,or_false] at h ⊢;rcases h with h|h
  ·omega
  ·rw [List.isEmpty_iff.1 h]; simp
 | false =>
  simp only [hl,Bool.false_eq_true,if_false,Bool.or_eq_true,decide_eq_true_eq,Bool.false_and,Bool.not_false,Bool.true_and,false_or] at h ⊢;rcases h with (h|h)|h
  ·omega
  ·cases h
  ·rw [List.isEmpty_iff.1 h]; simp
theorem qhH {n:Nd} (h:Qa n=false):neN n:=by
 unfold Qa at h;unfold neN;cases hl:n.leaf with
 | true =>
  rw [hl] at h;simp only [Bool.or_eq_false_iff,Bool.true_and] at h;rw [if_pos rfl];intro e; rw [e] at h; simp at h
 | false =>
  rw [hl] at h;simp only [Bool.or_eq_false_iff,Bool.not_false,Bool.true_and] at h;rw [if_neg (by simp)];intro e; rw [e] at h; simp at h
structure Adj (s:Nat->Option Bs) (h:Nat) (lo:Bs) (hi:Option Bs) (ks:List Bs) (ps:List Nat) (l:List Pr) (U:List Nat) (j:Nat) (na nb:Nd) (key:Bs) (p1 p2:Nat) (kc kd:List Bs) (pc pd:List Nat) (lo1:Bs) (hi1:Option Bs) (m0 la lb m2:List Pr) (T0 Ta Tb T2:List Nat):Prop where
 ek:ks=kc++key::kd
 ep:ps=pc++p1::p2::pd
 jc:kc.length=j
 jp:pc.length=j
 fl:FL (Tr s h) lo kc pc lo1 m0 T0
 a1:Pn s p1 na
 a2:Nt s h na lo1 (some key) la Ta
 b1:Pn s p2 nb
 b2:Nt s h nb key hi1 lb Tb
 fr:FR (Tr s h) hi1 hi kd pd m2 T2
 ne:neN na∨neN nb
 po:Qa na=true∨Qa nb=true
 el:l=m0++((la++lb)++m2)
 eU:U=T0++(((p1::Ta)++(p2::Tb))++T2)
theorem adj {s:Nat->Option Bs} {h c p:Nat} {lo lo':Bs} {hi hi':Option Bs} {ks:List Bs} {ps:List Nat} {l0 l1 l2:List Pr} {U0 U1 U2:List Nat} {n:Nd} (hne:ks≠[]) (hc:c<=ks.length) (hl:ps.length=ks.length+1) (e1:ps=ps.take c++p::ps.drop (c+1))
  (h0:FL (Tr s h) lo (ks.take c) (ps.take c) lo' l0 U0) (hp:Pn s p n) (hn:Nt s h n lo' hi' l1 U1) (h2:FR (Tr s h) hi' hi (ks.drop c) (ps.drop (c+1)) l2 U2) (hpo:Qa n=true) :
  ∃ na nb key p1 p2 kc kd pc pd lo1 hi1 m0 la lb m2 T0 Ta Tb T2,Adj s h lo hi ks ps (l0++(l1++l2)) (U0++((p::U1)++U2)) (if 0<c then c - 1 else c) na nb key p1 p2 kc kd pc pd lo1 hi1 m0 la lb m2 T0 Ta Tb T2:=by
 by_cases h0c:0<c
 ·rw [if_pos h0c];have q1:c - 1<ks.length:=by omega
  have q2:c - 1<ps.length:=by omega
  have t1:ks.take c=ks.take (c - 1)++[ks[c - 1]]:=by rw [<- tsI q1]; congr 1; omega
  have t2:ps.take c=ps.take (c - 1)++[ps[c - 1]]:=by rw [<- tsI q2]; congr 1; omega
  rw [t1,t2] at h0;obtain ⟨rfl,lo1,m1,m2,T1,T2,f1,f2,rfl,rfl⟩:=qcU _ _ _ _ _ _ h0;obtain ⟨na,Ta,g1,g2,g3,rfl⟩:=xf.1 f2;refine ⟨na,n,ks[c - 1],ps[c - 1],p,ks.take (c - 1),ks.drop c,ps.take (c - 1),ps.drop (c+1),lo1,hi',m1,m2,l1,l2,T1,Ta,U1,U2,?_,?_,by rw [ltI]; omega,by rw [ltI]; omega,f1,g1,g3,hp,hn,h2,.inl g2,.inr hpo,by simp,by simp⟩
  ·rw [<- List.singleton_append,<- aaI,<- t1,List.take_append_drop]
  ·have:ps.take (c - 1)++ps[c - 1]::p::ps.drop (c+1)=ps.take c++p::ps.drop (c+1):=by rw [t2,aaI]; rfl
   rw [this,<- e1]
 ·obtain rfl:c=0:=by omega
  rw [if_neg h0c];cases ks with
  | nil=>exact absurd rfl hne
  | cons key kd =>
   obtain ⟨e1',e2',e3'⟩:lo'=lo/\l0=[]/\U0=[]:=h0;subst e1' e2' e3';obtain ⟨e4',h2⟩:hi'=some key/\Fo (Tr s h) key hi kd (ps.drop 1) l2 U2:=h2;subst e4';obtain ⟨p2,lo2,hi1,m0,lb,m2,T0,Tb,T2,x1,x2,x3,x4,rfl,rfl⟩:=qcT 0 kd (ps.drop 1) key l2 U2 h2 (Nat.zero_le _);obtain ⟨rfl,rfl,rfl⟩:lo2=key/\m0=[]/\T0=[]:=x2;obtain ⟨nb,Tb',g1,g2,g3,rfl⟩:=xf.1 x3;refine ⟨n,nb,lo2,p,p2,[],kd,[],(ps.drop 1).drop 1,lo',hi1,[],l1,lb,m2,[],U1,Tb',T2,rfl,?_,rfl,rfl,⟨rfl,rfl,rfl⟩,hp,hn,g1,g3,x4,.inr g2,.inl hpo,by simp,by simp⟩;rw [e1];simp only [List.take_zero,List.nil_append,Nat.zero_add,List.cons.injEq,true_and];have:ps.drop 1=p2::(ps.drop 1).drop 1:=x1;simpa using this
theorem nd5 {T0 Ta Tb T2:List Nat} {p1 p2:Nat} (h:(T0++(((p1::Ta)++(p2::Tb))++T2)).Nodup) :
  (∀ q∈T0,q≠p1/\q≠p2/\q∉Ta/\q∉Tb)/\(∀ q∈T2,q≠p1/\q≠p2/\q∉Ta/\q∉Tb)/\p1≠p2/\(∀ q∈Ta,q≠p1/\q≠p2/\q∉Tb)/\(∀ q∈Tb,q≠p1/\q≠p2)/\Ta.Nodup/\Tb.Nodup:=by
 simp only [List.nodup_append,List.nodup_cons,List.mem_append,lcI] at h
 grind
section
variable {s:Nat->Option Bs} {h:Nat} {lo:Bs} {hi:Option Bs} {ks:List Bs} {ps:List Nat} {l:List Pr} {U:List Nat} {j:Nat} {na nb:Nd} {key:Bs} {p1 p2:Nat} {kc kd:List Bs} {pc pd:List Nat} {lo1:Bs} {hi1:Option Bs} {m0 la lb m2:List Pr} {T0 Ta Tb T2:List Nat}
theorem Adj.join (a:Adj s h lo hi ks ps l U j na nb key p1 p2 kc kd pc pd lo1 hi1 m0 la lb m2 T0 Ta Tb T2) (hr:qO (Nd.nd ks ps)=true) (hk:∀ k∈ks,inK lo hi k) (hw:(ks.map λk=>3+k.length).sum<=252) :
  Nt s h (qV na nb key) lo1 hi1 (la++lb) (Ta++Tb)/\qO (qV na nb key)=true/\neN (qV na nb key)/\wtN (qV na nb key) /\
  qO (Nd.nd (kc++kd) (pc++p1::pd))=true/\(∀ k∈kc++kd,inK lo hi k)/\((kc++kd).map λk=>3+k.length).sum<=252:=by
 obtain ⟨_,i1,r1,v1,q1⟩:=zo hr rfl;have i1:ps.length=ks.length+1:=i1;have r1:qE ks=true:=r1;have v1:∀ k∈ks,k≠[]/\k.length<=32:=v1;have q1:∀ k∈ps,1<=k/\k<=65535:=q1;have hkm:key∈ks:=by rw [a.ek]; simp
 have r2:=r1;rw [a.ek] at r2;obtain ⟨z1,z2,z3,z4,z5⟩:=vl _ _ _ r2;have hkc:∀ k∈kc,inK lo hi k:=λk hk'=>hk k (by rw [a.ek]; simp [hk'])
 have hkd:∀ k∈kd,inK lo hi k:=λk hk'=>hk k (by rw [a.ek]; simp [hk'])
 obtain ⟨y1,y2,y3⟩:=qah _ _ _ _ _ _ a.fl z3 (λk hk'=>(hkc k hk').1);have hin:inK lo1 hi1 key:=by
  refine ⟨?_,λe he=>?_⟩
  ·rcases y1 with e|e
   ·rw [e]; exact (hk key hkm).1
   ·exact z1 lo1 e
  ·have fr:=a.fr;cases kd with
   | nil=>exact (hk key hkm).2 e (fr.2.1.symm.trans he)
   | cons k kd=>have:=fr.1.symm.trans he; cases this; exact z2 e (by simp)
 obtain ⟨j1,j2,j3⟩:=qis a.a2 a.b2 a.a1.rt a.b1.rt hin (v1 key hkm);have hmm:∀ k∈kc++kd,k∈ks:=λk hk'=>by
  rw [a.ek]; rcases List.mem_append.1 hk' with h|h<;>simp [h]
 refine ⟨j1,j2,j3 a.ne,?_,vr ?_ (jQ _ _ z3 z4 (λi hi j hj=>zT (z1 i hi) (z2 j hj))) (λk hk'=>q1 k ?_),λk hk'=>hk k (hmm k hk'),?_⟩
 ·have o1:=Vf a.a1.sz;have o2:=Vf a.b1.sz;have hpo:qaS na+qaS nb<=254+87:=by
   rcases a.po with h|h
   ·have:=Ho h; omega
   ·have:=Ho h; omega
  have hkl:=(v1 key hkm).2;have ha2:=a.a2;have hb2:=a.b2;cases h with
  | zero =>
   obtain ⟨rfl,_,_⟩:=ha2;obtain ⟨rfl,_,_⟩:=hb2;have hpo:(la.map qJ).sum+(lb.map qJ).sum<=254+87:=hpo;show ((la++lb).map qJ).sum<=344;rw [List.map_append,List.sum_append]; omega
  | succ h =>
   obtain ⟨ka,pa,rfl,_,_⟩:=ha2;obtain ⟨kb,pb,rfl,_,_⟩:=hb2;have hpo:(ka.map λk=>3+k.length).sum+(kb.map λk=>3+k.length).sum<=254+87:=hpo;show ((ka++([key]++kb)).map λk=>3+k.length).sum<=430;simp only [List.map_append,List.sum_append,List.map_cons,List.sum_cons,List.map_nil,List.sum_nil]; omega
 ·rw [a.ep,a.ek] at i1;simp only [laI,lnI] at i1 ⊢; omega
 ·rw [a.ep];simp only [List.mem_append,lcI] at hk' ⊢;rcases hk' with h|h|h<;>simp [h]
 ·rw [a.ek,qbQ] at hw; omega
theorem Adj.one (a:Adj s h lo hi ks ps l U j na nb key p1 p2 kc kd pc pd lo1 hi1 m0 la lb m2 T0 Ta Tb T2) (hr:qO (Nd.nd ks ps)=true) (hk:∀ k∈ks,inK lo hi k) (hw:(ks.map λk=>3+k.length).sum<=252) (hnd:U.Nodup) (hsz:qW (qV na nb key)<=256) :
  Nt (zI (zI s p1 (some (zC (qV na nb key)))) p2 none) (h+1) (Nd.nd (kc++kd) (pc++p1::pd)) lo hi l (T0++((p1::(Ta++Tb))++T2)) /\
  Stp s (zI (zI s p1 (some (zC (qV na nb key)))) p2 none) U (T0++((p1::(Ta++Tb))++T2))/\(T0++((p1::(Ta++Tb))++T2)).Nodup:=by
 obtain ⟨j1,j2,j3,j4,j5,j6,j7⟩:=a.join hr hk hw;rw [a.eU] at hnd ⊢;have hout:∀ q,q≠p1->q≠p2->zI (zI s p1 (some (zC (qV na nb key)))) p2 none q=s q:=λq h1 h2=>by unfold zI; rw [if_neg h2,if_neg h1]
 have hnd':=hnd;obtain ⟨n0,n2,hp12,na',nb',nda,ndb⟩:=nd5 hnd;have d0:∀ q∈T0,q≠p1/\q≠p2:=λq hq=>⟨(n0 q hq).1,(n0 q hq).2.1⟩
 have da:∀ q∈Ta,q≠p1/\q≠p2:=λq hq=>⟨(na' q hq).1,(na' q hq).2.1⟩
 have db:=nb';have d2:∀ q∈T2,q≠p1/\q≠p2:=λq hq=>⟨(n2 q hq).1,(n2 q hq).2.1⟩
 have f0:=Zu (R':=Tr (zI (zI s p1 (some (zC (qV na nb key)))) p2 none) h) _ _ _ _ _ _ (λp lo hi l T hT ht=>xJ h p lo hi l T (λq hq=>hout q (d0 q (hT q hq)).1 (d0 q (hT q hq)).2) ht) a.fl;have f2:=XU (R':=Tr (zI (zI s p1 (some (zC (qV na nb key)))) p2 none) h) (λp lo hi l T hT ht=>xJ h p lo hi l T (λq hq=>hout q (d2 q (hT q hq)).1 (d2 q (hT q hq)).2) ht) a.fr;have f1:Tr (zI (zI s p1 (some (zC (qV na nb key)))) p2 none) h p1 lo1 hi1 (la++lb) (p1::(Ta++Tb)):=by
  refine xf.2 ⟨_,_,⟨?_,j2,hsz⟩,j3,wz h (λq hq=>?_) j1,rfl⟩
  ·unfold zI; rw [if_neg hp12,if_pos rfl]
  ·rcases List.mem_append.1 hq with hq|hq
   ·exact hout q (da q hq).1 (da q hq).2
   ·exact hout q (db q hq).1 (db q hq).2
 refine ⟨⟨_,_,rfl,j6,by rw [a.el]; exact KC _ _ _ _ _ _ f0 f1 f2⟩,⟨λq h1 h2=>?_,λq hq=>.inl ?_,λq h1 h2=>?_⟩,yI hnd' ?_ λq hq=>?_⟩
 ·refine hout q (λe=>h1 (by subst e; simp)) (λe=>h1 (by subst e; simp))
 ·simp only [List.mem_append,lcI] at hq ⊢; grind
 ·have:q=p2:=by
   simp only [List.mem_append,lcI,not_or] at h1 h2; grind
  subst this; unfold zI; rw [if_pos rfl]
 ·simp only [List.nodup_cons,List.nodup_append,List.mem_append];refine ⟨λh=>?_,nda,ndb,λx hx y hy e=>(na' x hx).2.2 (e ▸ hy)⟩;rcases h with h|h
  ·exact (da p1 h).1 rfl
  ·exact (db p1 h).1 rfl
 ·simp only [lcI,List.mem_append,not_or] at hq ⊢;rcases hq with hq|hq
  ·exact ⟨(d0 q hq).1,(n0 q hq).2.2⟩
  ·exact ⟨(d2 q hq).1,(n2 q hq).2.2⟩
theorem Adj.two (a:Adj s h lo hi ks ps l U j na nb key p1 p2 kc kd pc pd lo1 hi1 m0 la lb m2 T0 Ta Tb T2) (hr:qO (Nd.nd ks ps)=true) (hk:∀ k∈ks,inK lo hi k) (hw:(ks.map λk=>3+k.length).sum<=252) (hnd:U.Nodup) (hsz:¬ qW (qV na nb key)<=256)
  (hs:∀ q,zI (zI s p1 (some (zC (qz (qV na nb key)).1))) p2 (some (zC (qz (qV na nb key)).2.1)) q≠none->1<=q/\q<=65535) :
  ∃ U',Nt (zI (zI s p1 (some (zC (qz (qV na nb key)).1))) p2 (some (zC (qz (qV na nb key)).2.1))) (h+1) (Nd.nd (kc++(qz (qV na nb key)).2.2::kd) (pc++p1::p2::pd)) lo hi l U' /\
  qO (Nd.nd (kc++(qz (qV na nb key)).2.2::kd) (pc++p1::p2::pd))=true/\wtN (Nd.nd (kc++(qz (qV na nb key)).2.2::kd) (pc++p1::p2::pd)) /\
  Stp s (zI (zI s p1 (some (zC (qz (qV na nb key)).1))) p2 (some (zC (qz (qV na nb key)).2.1))) U U'/\U'.Nodup:=by
 obtain ⟨j1,j2,j3,j4,j5,j6,j7⟩:=a.join hr hk hw;obtain ⟨_,s2,s3,s4,s5,s6,s7,s8,s9,ca,cb,Sa,Sb,t1,t2,t3,t4⟩:=Zt j1 j2 j4 hsz;rw [a.eU] at hnd ⊢;generalize hs2:zI (zI s p1 (some (zC (qz (qV na nb key)).1))) p2 (some (zC (qz (qV na nb key)).2.1))=s' at hs ⊢;have hout:∀ q,q≠p1->q≠p2->s' q=s q:=λq h1 h2=>by rw [<- hs2]; unfold zI; rw [if_neg h2,if_neg h1]
 have hnd':=hnd;obtain ⟨n0,n2,hp12,na',nb',nda,ndb⟩:=nd5 hnd;have d0:∀ q∈T0,q≠p1/\q≠p2:=λq hq=>⟨(n0 q hq).1,(n0 q hq).2.1⟩
 have da:∀ q∈Ta,q≠p1/\q≠p2:=λq hq=>⟨(na' q hq).1,(na' q hq).2.1⟩
 have db:=nb';have d2:∀ q∈T2,q≠p1/\q≠p2:=λq hq=>⟨(n2 q hq).1,(n2 q hq).2.1⟩
 have dab:∀ q∈Sa++Sb,q≠p1/\q≠p2:=λq hq=>by
  rw [<- t4] at hq;rcases List.mem_append.1 hq with h|h
  ·exact da q h
  ·exact db q h
 have f0:=Zu (R':=Tr s' h) _ _ _ _ _ _ (λp lo hi l T hT ht=>xJ h p lo hi l T (λq hq=>hout q (d0 q (hT q hq)).1 (d0 q (hT q hq)).2) ht) a.fl;have f2:=XU (R':=Tr s' h) (λp lo hi l T hT ht=>xJ h p lo hi l T (λq hq=>hout q (d2 q (hT q hq)).1 (d2 q (hT q hq)).2) ht) a.fr;have g1:Tr s' h p1 lo1 (some (qz (qV na nb key)).2.2) ca (p1::Sa):=xf.2 ⟨_,_,⟨by rw [<- hs2]; unfold zI; rw [if_neg hp12,if_pos rfl],s2,s3⟩,s6,wz h (λq hq=>hout q (dab q (List.mem_append.2 (.inl hq))).1 (dab q (List.mem_append.2 (.inl hq))).2) t1,rfl⟩;have g2:Tr s' h p2 (qz (qV na nb key)).2.2 hi1 cb (p2::Sb):=xf.2 ⟨_,_,⟨by rw [<- hs2]; unfold zI; rw [if_pos rfl],s4,s5⟩,s7,wz h (λq hq=>hout q (dab q (List.mem_append.2 (.inr hq))).1 (dab q (List.mem_append.2 (.inr hq))).2) t2,rfl⟩;obtain ⟨w1,w2,w3,w4⟩:=KR (p0:=p1) j5 j7 j6 hs f0 f2 s8 s9 g1 g2;rw [<- t3] at w1;have hmem:∀ q,q∈T0++(((p1::Sa)++(p2::Sb))++T2)↔q∈T0++(((p1::Ta)++(p2::Tb))++T2):=λq=>by
  have:q∈Ta++Tb↔q∈Sa++Sb:=by rw [t4]
  simp only [List.mem_append,lcI] at this ⊢; grind
 refine ⟨_,by rw [a.el]; exact w1,w2,w3,⟨λq h1 h2=>?_,λq hq=>.inl ((hmem q).1 hq),λq h1 h2=>absurd ((hmem q).2 h1) h2⟩,yI hnd' ?_ λq hq=>?_⟩
 ·refine hout q (λe=>h1 (by subst e; simp)) (λe=>h1 (by subst e; simp))
 ·have hab:(Sa++Sb).Nodup:=by
   rw [<- t4,List.nodup_append];exact ⟨nda,ndb,λx hx y hy e=>(na' x hx).2.2 (e ▸ hy)⟩
  rw [List.nodup_append] at hab;simp only [List.cons_append,List.nodup_cons,List.nodup_append,List.mem_append,lcI,not_or];refine ⟨⟨λh=>(dab p1 (List.mem_append.2 (.inl h))).1 rfl,hp12,λh=>(dab p1 (List.mem_append.2 (.inr h))).1 rfl⟩,hab.1,⟨λh=>(dab p2 (List.mem_append.2 (.inr h))).2 rfl,hab.2.1⟩,λx hx y hy e=>?_⟩;rcases hy with hy|hy
  ·exact (dab x (List.mem_append.2 (.inl hx))).2 (e.trans hy)
  ·exact hab.2.2 x hx y hy e
 ·have hx:q∉Ta++Tb/\q≠p1/\q≠p2:=by
   simp only [List.mem_append,not_or] at hq ⊢;rcases hq with hq|hq
   ·exact ⟨(n0 q hq).2.2,d0 q hq⟩
   ·exact ⟨(n2 q hq).2.2,d2 q hq⟩
  rw [t4] at hx;simp only [List.mem_append,lcI,not_or] at hx ⊢;exact ⟨⟨hx.2.1,hx.1.1⟩,hx.2.2,hx.1.2⟩
end
end Go.Fx.Tryz
namespace Go.Fx.Tryz
open Go Go.Fx
section
variable {x:Wx} {m:Mem}
theorem qjY:qt [.bool false,.slice none 0 0,.slice none 0 0,.slice none 0 0] []=some [.bool false,.slice none 0 0,.slice none 0 0,.slice none 0 0]:=rfl
abbrev jG:ABlk:=qg false (.slice none 0 0) (.slice none 0 0) (.slice none 0 0)
theorem kO {n:Nd} (h:qO n=true) (hs:qW n<=256):n.Fit:=Zv h (YH hs)
set_option maxRecDepth 4000 in
theorem qfm {lo nb rb j p1 p2 left:Nat} {sp sk si:Value} {ks:List Bs} {ps:List Nat} {na nb':Nd} {key:Bs} (h:XR x m) (he:x.err=0) (hrd:x.rd+2<=1000) (hl:1<=left) (hfp:∀ b∈x.fp,b<lo) (hcp:x.o.c<lo/\x.o.p<lo) (hlo:lo<=m.next)
    (hb:(lo<=nb/\nb<m.next)/\(lo<=rb/\rb<m.next)) (hnr:nb≠rb)
    (hm:Me lo ks ps nb sp sk si m) (gr:m.get rb=some jG) (hlen:ps.length=ks.length+1) (hps:ps.length<=200)
    (hj1:ps[j]? = some p1) (hj2:ps[j+1]? = some p2) (hjk:ks[j]? = some key) (hj:j<=200) (hP1:Pn x.o.s p1 na) (hP2:Pn x.o.s p2 nb') (hne:p1≠p2) (hr:qO (qV na nb' key)=true) (hw:wtN (qV na nb' key))
    (hs:¬ qW (qV na nb' key)<=256->(if (qV na nb' key).leaf then 2<=(qV na nb' key).pairs.length else 3<=(qV na nb' key).keys.length/\(qV na nb' key).kids.length=(qV na nb' key).keys.length+1)/\qO (qz (qV na nb' key)).1=true/\qW (qz (qV na nb' key)).1<=256/\qO (qz (qV na nb' key)).2.1=true/\qW (qz (qV na nb' key)).2.1<=256) :
    W (Ky x.v (.int .i64 (j:Int)) (.int .i64 (left:Int)) (.pointer (some ⟨nb,0,none⟩)) (.pointer (some ⟨rb,0,none⟩)) m) λr m'=>Upd (rb::x.fp) m m' /\
      ((qW (qV na nb' key)<=256/\TN lo m' r (Nd.nd (ks.eraseIdx j) (ps.eraseIdx (j+1)))/\∃ c,XR { x with rd:=x.rd+2,o:={ x.o with u:=xg x.o.u p2,L:=upL x.o.L p1 (zC (qV na nb' key)) c } } m') ∨
       (¬ qW (qV na nb' key)<=256/\TN lo m' r (vd (Nd.nd (ks.eraseIdx j) (ps.eraseIdx (j+1))) j [([],p1),((qz (qV na nb' key)).2.2,p2)])/\∃ c1 c2,XR { x with rd:=x.rd+2,o:={ x.o with L:=upL (upL x.o.L p1 (zC (qz (qV na nb' key)).1) c1) p2 (zC (qz (qV na nb' key)).2.1) c2 } } m')):=by
  obtain ⟨⟨b1,b2⟩,⟨b7,b8⟩⟩:=hb;obtain ⟨hh1,hl1⟩:=hP1.here;obtain ⟨hh2,hl2⟩:=hP2.here;have hPP:=h.wr.hP;have l1:=xT hh1;have l2:=xT hh2;have nf:∀ {b:Nat},lo<=b->b∉x.fp:=λhb hm=>by have:=hfp _ hm; omega
  have subx:∀ b,b∈[x.xb]->b∈x.fp:=λb hb=>by simp at hb; simp [Wx.fp,hb]
  have mk:∀ {M M':Mem},m.next<=M.next->Me lo ks ps nb sp sk si M->Upd x.fp M M'->Me lo ks ps nb sp sk si M':=λhn h hu=>h.zL hu (by omega) ⟨nf b1,λb hb=>nf (h.k2.2 b hb).1,λb hb=>nf (h.k3.2 b hb).1⟩
  have hadd:arith .add (.int .i64 (j:Int)) (.int .i64 1)=some (.int .i64 ((j+1:Nat):Int)):=qB (by omega);obtain ⟨pk1,i1,i1'⟩:=KM hm.k3 hj1;obtain ⟨pk2,i2,i2'⟩:=KM hm.k3 hj2;obtain ⟨pkk,ik,ik'⟩:=HA hm.k2 hjk;have ub:Upd [] m (m.zu 21):=Upd.zu _ _ _;have nbp:(m.zu 21).next=m.next+21:=rfl;have hmb:=hm.qn ub b2;have hxb:=h.qn ub;have grb:=qq ub b8 gr;rw [P166_0_eq];simp only [st0,fa,qF hmb.gn (o:=0+3) rfl,i1,i1' _ hmb.k3];generalize m.zu 21=m0 at ub nbp hmb hxb grb;refine qh.2 ((wT hxb he (by omega) hl (by omega) hh1 hl1 hP1.rt hP1.sz).mono λv1 m1 ⟨t1,h1,u1⟩=>?_);have x1:=u1.next;have u1:Upd x.fp m0 m1:=u1.mono λb hb _=>subx b hb
  have hm1:=mk (by omega) hmb u1;have gr1:=(u1.same rb (by omega) (nf b7)).trans grb;simp only [st0,fa,qF hm1.gn (o:=0+3) rfl,hadd,i2,i2' m1 hm1.k3];refine qh.2 ((wT h1 he (by show x.rd+1<1000; omega) hl (by omega) hh2 hl2 hP2.rt hP2.sz).mono λv2 m2 ⟨t2,h2,u2⟩=>?_);have h2:XR { x with rd:=x.rd+2 } m2:=h2;have x2:=u2.next;have u2:Upd x.fp m1 m2:=u2.mono λb hb _=>subx b hb
  have hm2:=mk (by omega) hm1 u2;have gr2:=(u2.same rb (by omega) (nf b7)).trans gr1;have hfp0:∀ b∈x.fp,b<m0.next:=λb hb=>by have:=hfp b hb; omega
  have t12:=t1.upd u2 hfp0;obtain ⟨pa,ka,ia,rfl,a1,a2,a3⟩:=t1.ex;obtain ⟨pb,kb,ib,rfl,c1,c2,c3⟩:=t2.ex;simp only [st0];have u3:Upd [m.next+17] m2 (m2.put (m.next+17) jG):=Upd.put _ _ (by simp);have g3:(m2.put (m.next+17) jG).get (m.next+17)=some jG:=Mem.qe ..;have n3:(m2.put (m.next+17) jG).next=m2.next:=rfl;have nf17:m.next+17∉x.fp:=nf (by omega);have nf18:m.next+18∉x.fp:=nf (by omega);have hm3:=hm2.zL u3 (by omega) ⟨by simp; omega,λb hb=>by have:=(hm.k2.2 b hb).2; simp; omega,λb hb=>by have:=(hm.k3.2 b hb).2; simp; omega⟩;have gr3:=(u3.same rb (by omega) (by simp; omega)).trans gr2;generalize (m2.put (m.next+17) jG)=m3 at u3 g3 n3 hm3 gr3;have u4:Upd [m.next+18] m3 (m3.put (m.next+18) jG):=Upd.put _ _ (by simp);have g4:(m3.put (m.next+18) jG).get (m.next+18)=some jG:=Mem.qe ..;have k4:=(u4.same (m.next+17) (by omega) (by simp)).trans g3;have n4:(m3.put (m.next+18) jG).next=m3.next:=rfl;have hm4:=hm3.zL u4 (by omega) ⟨by simp; omega,λb hb=>by have:=(hm.k2.2 b hb).2; simp; omega,λb hb=>by have:=(hm.k3.2 b hb).2; simp; omega⟩;have gr4:=(u4.same rb (by omega) (by simp; omega)).trans gr3;generalize (m3.put (m.next+18) jG)=m4 at u4 g4 k4 n4 hm4 gr4;simp only [st0,qX k4 na.leaf a1.one.2 a2.one.2 a3.one.2];have u5:Upd [m.next+17] m4 (m4.put (m.next+17) (qg na.leaf pa ka ia)):=Upd.put _ _ (by simp);have g5:(m4.put (m.next+17) (qg na.leaf pa ka ia)).get (m.next+17)=_:=Mem.qe ..;have k5:=(u5.same (m.next+18) (by omega) (by simp)).trans g4;have n5:(m4.put (m.next+17) (qg na.leaf pa ka ia)).next=m4.next:=rfl;have hm5:=hm4.zL u5 (by omega) ⟨by simp; omega,λb hb=>by have:=(hm.k2.2 b hb).2; simp; omega,λb hb=>by have:=(hm.k3.2 b hb).2; simp; omega⟩;have gr5:=(u5.same rb (by omega) (by simp; omega)).trans gr4;generalize (m4.put (m.next+17) (qg na.leaf pa ka ia))=m5 at u5 g5 k5 n5 hm5 gr5;simp only [st0,qX k5 nb'.leaf c1.one.2 c2.one.2 c3.one.2];have u6:Upd [m.next+18] m5 (m5.put (m.next+18) (qg nb'.leaf pb kb ib)):=Upd.put _ _ (by simp);have k6:(m5.put (m.next+18) (qg nb'.leaf pb kb ib)).get (m.next+18)=_:=Mem.qe ..;have g6:=(u6.same (m.next+17) (by omega) (by simp)).trans g5;have n6:(m5.put (m.next+18) (qg nb'.leaf pb kb ib)).next=m5.next:=rfl;have hm6:=hm5.zL u6 (by omega) ⟨by simp; omega,λb hb=>by have:=(hm.k2.2 b hb).2; simp; omega,λb hb=>by have:=(hm.k3.2 b hb).2; simp; omega⟩;have gr6:=(u6.same rb (by omega) (by simp; omega)).trans gr5;generalize (m5.put (m.next+18) (qg nb'.leaf pb kb ib))=m6 at u6 g6 k6 n6 hm6 gr6;have u26:Upd [m.next+17,m.next+18] m2 m6:=(((u3.mono λb hb _=>by simp at hb; simp [hb]).trans (u4.mono λb hb _=>by simp at hb; simp [hb])).trans (u5.mono λb hb _=>by simp at hb; simp [hb])).trans (u6.mono λb hb _=>by simp at hb; simp [hb]);have f2:∀ b∈[m.next+17,m.next+18],b<m0.next:=λb hb=>by simp at hb; omega
  have ta6:=t12.upd u26 f2;have tb6:=(t2.low (lo':=m0.next) (by omega)).upd u26 f2;have hx6:XR { x with rd:=x.rd+2 } m6:=h2.upd u26 λb hb=>by
    have w1:b∉x.fp:=nf (by simp at hb; omega);simp only [Wx.fp,lcI,nmI,or_false,not_or] at w1 hb;exact ⟨w1.2.2,w1.1,w1.2.1,by show b≠x.o.c; omega,by show b≠x.o.p; omega⟩
  have e6:=xok hx6;rw [decide_eq_true (show ({ x with rd:=x.rd+2 }:Wx).err=0 from he)] at e6;refine jC (λr hr=>?_) ?_
  · simp only [lcI,nmI,or_false] at hr;rcases hr with rfl|rfl|rfl|rfl
    · exact okR λk _ hk=>by
        obtain rfl:k=0:=by omega
        exact ⟨_,rfl,qF hmb.gn rfl⟩
    · exact okR λk _ hk=>by
        obtain rfl:k=0:=by omega
        exact ⟨_,rfl,i1' _ hmb.k3⟩
    · exact okR λk _ hk=>by
        have:k=0∨k=1:=by omega
        rcases this with rfl|rfl
        · exact ⟨_,rfl,qF hmb.gn rfl⟩
        · exact ⟨_,rfl,qF hm1.gn rfl⟩
    · exact okR λk _ hk=>by
        have:k=0∨k=1:=by omega
        rcases this with rfl|rfl
        · exact ⟨_,rfl,i2' _ hmb.k3⟩
        · exact ⟨_,rfl,i2' _ hm1.k3⟩
  have u06:Upd x.fp m m6:=(((ub.nil'.trans u1).trans u2).then' u26 (λb hb=>.inr (by simp at hb; omega)));have uB:Upd [] m6 (m6.zu 10):=Upd.zu _ _ _;have nB:(m6.zu 10).next=m6.next+10:=rfl;have hmB:=hm6.qn uB (by omega);have gB:=qq uB (by omega) g6;have kB:=qq uB (by omega) k6;have grB:=qq uB (by omega) gr6;have taB:=ta6.qn uB;have tbB:=tb6.qn uB;have hxB:=hx6.qn uB;simp only [st0,e6,qD gB,qD kB,fa,qF hmB.gn (o:=0+2) rfl,ik,ik' _ hmB.k2];generalize m6.zu 10=m7 at uB nB hmB gB kB grB taB tbB hxB;refine qh.2 ((qfk key taB tbB (kO hP1.rt hP1.sz) (kO hP2.rt hP2.sz) (by omega)).mono λv8 m8 ⟨t8,u8⟩=>?_);have x8:=u8.next;have hm8:=hmB.qn u8 (by omega);have gr8:=qq u8 (by omega) grB;have hx8:=hxB.qn u8;have T8:=t8;obtain ⟨pj,kj,ij,rfl,j1,j2,j3⟩:=t8.ex;simp only [st0];have u9:Upd [m6.next+8] m8 (m8.put (m6.next+8) jG):=Upd.put _ _ (by simp);have g9:(m8.put (m6.next+8) jG).get (m6.next+8)=some jG:=Mem.qe ..;have n9:(m8.put (m6.next+8) jG).next=m8.next:=rfl;generalize (m8.put (m6.next+8) jG)=m9 at u9 g9 n9;simp only [st0,qX g9 (qV na nb' key).leaf j1.one.2 j2.one.2 j3.one.2];have u10:Upd [m6.next+8] m9 (m9.put (m6.next+8) (qg (qV na nb' key).leaf pj kj ij)):=Upd.put _ _ (by simp);have g10:(m9.put (m6.next+8) (qg (qV na nb' key).leaf pj kj ij)).get (m6.next+8)=_:=Mem.qe ..;have n10:(m9.put (m6.next+8) (qg (qV na nb' key).leaf pj kj ij)).next=m9.next:=rfl;generalize (m9.put (m6.next+8) (qg (qV na nb' key).leaf pj kj ij))=m10 at u10 g10 n10;have u810:Upd [m6.next+8] m8 m10:=u9.trans u10;have hm10:=hm8.zL u810 (by omega) ⟨by simp; omega,λb hb=>by have:=(hm.k2.2 b hb).2; simp; omega,λb hb=>by have:=(hm.k3.2 b hb).2; simp; omega⟩;have gr10:=(u810.same rb (by omega) (by simp; omega)).trans gr8;have T10:=T8.upd u810 (λb hb=>by simp at hb; omega);have hx10:XR { x with rd:=x.rd+2 } m10:=hx8.upd u810 λb hb=>by
    have w1:b∉x.fp:=nf (by simp at hb; omega);simp only [Wx.fp,lcI,nmI,or_false,not_or] at w1 hb;exact ⟨w1.2.2,w1.1,w1.2.1,by show b≠x.o.c; omega,by show b≠x.o.p; omega⟩
  refine jC (λr hr=>?_) ?_
  · simp only [lcI,nmI,or_false] at hr;rcases hr with rfl|rfl|rfl|rfl
    · exact okR λk _ hk=>by
        obtain rfl:k=0:=by omega
        exact ⟨_,rfl,qD gB⟩
    · exact okR λk _ hk=>by
        obtain rfl:k=0:=by omega
        exact ⟨_,rfl,qD kB⟩
    · exact okR λk _ hk=>by
        obtain rfl:k=0:=by omega
        exact ⟨_,rfl,qF hmB.gn rfl⟩
    · exact okR λk _ hk=>by
        obtain rfl:k=0:=by omega
        exact ⟨_,rfl,ik' _ hmB.k2⟩
  simp only [st0,qjY];refine jf (c:=[.bool false,.slice none 0 0,.slice none 0 0,.slice none 0 0]) rfl rfl rfl λm11 o11 u11 n11=>?_
  have hm11:=hm10.qn u11 (by omega);have gr11:=qq u11 (by omega) gr10;have g11:=qq u11 (by omega) g10;have T11:=T10.qn u11;have hx11:=hx10.qn u11;have x11:=u11.next;simp only [st0,fa,qF hm11.gn (o:=0+3) rfl,zf hm11.k3];have u011:Upd x.fp m m11:=(((u06.qu uB).qu u8).then' u810 (λb hb=>.inr (by simp at hb; omega))).qu u11;have hjl:j<ks.length:=by
    rcases Nat.lt_or_ge j ks.length with h|h
    · exact h
    · rw [List.getElem?_eq_none h] at hjk; cases hjk
  refine qdz hlen hps hj hm11 ⟨⟨by omega,by omega⟩,λb hb=>by have:=(hm.k2.2 b hb).2; omega,λb hb=>by have:=(hm.k3.2 b hb).2; omega⟩ (λm12 kv iv ho=>?_) _ 0 m11 _ _ rfl (by omega) (by
    simp only [List.take_zero,List.take_nil];exact ⟨o11,TAp.nil _,TAp.nil _,λb hb=>by simp [qc] at hb,λb hb=>by simp [qc] at hb,λb hb=>by simp [qc] at hb,n11,Upd.refl _ _⟩)
  have u12:=ho.up;have x12:=u12.next;have hm12:=hm11.zL u12 (by omega) ⟨by simp; omega,λb hb=>by have:=(hm.k2.2 b hb).2; simp; omega,λb hb=>by have:=(hm.k3.2 b hb).2; simp; omega⟩;have gr12:=(u12.same rb (by omega) (by simp; omega)).trans gr11;have g12:=(u12.same (m6.next+8) (by omega) (by simp; omega)).trans g11;have T12:TN lo m12 (kT (qV na nb' key).leaf pj kj ij) (qV na nb' key):=((T11.qkN u12 (by
    intro b hb;have h1:∀ {α:Type} {E:Enc α} {v:Value} {l:List α},RSl m7.next E m8 v l->b∈qc v->b<m10.next:=λhr hb=>by have:=(hr.2 b hb).2; omega
    simp only [List.mem_append] at hb;rcases hb with (hb|hb)|hb
    · have:=h1 j1 hb; simp; omega
    · have:=h1 j2 hb; simp; omega
    · have:=h1 j3 hb; simp; omega)).low (by omega))
  have hx12:XR { x with rd:=x.rd+2 } m12:=hx11.upd u12 λb hb=>by
    have w1:b∉x.fp:=nf (by simp at hb; omega);simp only [Wx.fp,lcI,nmI,or_false,not_or] at w1 hb;exact ⟨w1.2.2,w1.1,w1.2.1,by show b≠x.o.c; omega,by show b≠x.o.p; omega⟩
  have hkl:(ks.eraseIdx j).length=_:=List.length_eraseIdx;have hil:(ps.eraseIdx (j+1)).length=_:=List.length_eraseIdx;rw [if_pos hjl] at hkl;rw [if_pos (by omega)] at hil;refine (qdy (x:={ x with rd:=x.rd+2 }) (lo:=lo) hx12 he hfp hcp (by omega) ⟨⟨b1,by omega⟩,⟨by omega,by omega⟩,⟨by omega,by omega⟩,⟨b7,by omega⟩⟩ ⟨λb hb=>by have:=ho.bk b hb; omega,λb hb=>by have:=ho.bi b hb; omega⟩ hm12 ho.g
    ((ho.tk.rsl ho.bk).low (by omega)) ((ho.ti.rsl ho.bi).low (by omega)) g12 T12 gr12 hj1 hj2 hj hh1 hh2 hne hr hw hs ⟨by omega,by omega⟩).mono λr m' ⟨q1,q2⟩=>⟨?_,q2⟩
  exact ((u011.mono λb hb _=>lcI.2 (.inr hb)).then' u12 (λb hb=>.inr (by simp at hb; omega))).trans q1
end
end Go.Fx.Tryz
