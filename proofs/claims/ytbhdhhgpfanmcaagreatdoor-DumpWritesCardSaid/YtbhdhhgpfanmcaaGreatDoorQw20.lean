/- Parts of a proof: TreeMd, TreeRe, TreeSh, TreeDo, TreePu, DuA. Conditions: none. -/
import Derived.Test.YtbhdhhgpfanmcaaGreatDoorQw19
set_option linter.unusedSimpArgs false
set_option linter.unusedVariables false
namespace Go.Fx.Tryz
open Go Go.Fx
theorem qkc {α:Type} (a:List α) (k:α) (b:List α):(a++k::b).eraseIdx a.length=a++b:=by
 rw [List.eraseIdx_append_of_length_le (Nat.le_refl _),Nat.sub_self]; rfl
theorem qie {α:Type} (a:List α) (p q:α) (b:List α):(a++p::q::b).eraseIdx (a.length+1)=a++p::b:=by
 rw [List.eraseIdx_append_of_length_le (by omega),Nat.add_sub_cancel_left]; rfl
def qlk (x:Wx) (lo0:Nat) (m:Mem) (h:Nat) (lo:Bs) (hi:Option Bs) (l:List Pr) (U:List Nat) (r:Value) (m':Mem):Prop :=
 ∃ x' n U',XR x' m'/\Kin x x'/\x'.err=0/\x'.rd<=x.rd+3/\Fu x'.o/\TN lo0 m' r n/\qO n=true/\wtN n/\Nt x'.o.s (h+1) n lo hi l U'/\Stp x.o.s x'.o.s U U'/\U'.Nodup/\Upd x.fp m m'
section
variable {x:Wx} {m:Mem}
set_option maxRecDepth 4000 in
theorem qky {lo0 h c p left:Nat} {v:Value} {ks:List Bs} {ps:List Nat} {lo lo':Bs} {hi hi':Option Bs} {l0 l1 l2:List Pr} {U0 U1 U2:List Nat} {n:Nd} (hx:XR x m) (he:x.err=0) (hf:Fu x.o) (hrd:x.rd+3<=1000) (hl:1<=left) (hfp:∀ b∈x.fp,b<lo0) (hcp:x.o.c<lo0/\x.o.p<lo0) (hlo:lo0<=m.next)
  (ht:TN lo0 m v (Nd.nd ks ps)) (hr:qO (Nd.nd ks ps)=true) (hsz:qW (Nd.nd ks ps)<=256) (hk:∀ k∈ks,inK lo hi k) (hne:ks≠[]) (hc:c<=ks.length) (e1:ps=ps.take c++p::ps.drop (c+1))
  (h0:FL (Tr x.o.s h) lo (ks.take c) (ps.take c) lo' l0 U0) (hp:Pn x.o.s p n) (hn:Nt x.o.s h n lo' hi' l1 U1) (h2:FR (Tr x.o.s h) hi' hi (ks.drop c) (ps.drop (c+1)) l2 U2) (hnd:(U0++((p::U1)++U2)).Nodup) :
  W (Call S tab 166 [x.v,v,.int .i64 (c:Int),.int .i64 (left:Int)] m) (qlk x lo0 m h lo hi (l0++(l1++l2)) (U0++((p::U1)++U2))):=by
 obtain ⟨hh,hlk⟩:=hp.here;have hP:=hx.wr.hP;have hu20:=hx.wr.hu;have hlt:=xT hh;obtain ⟨_,i1,r1,_,_⟩:=zo hr rfl;have i1:ps.length=ks.length+1:=i1;have hfew:=Zl hr hsz;have hfew:ps.length<=ks.length+1/\ps.length<=200:=hfew;have nf:∀ {b:Nat},lo0<=b->b∉x.fp:=λhb hm=>by have:=hfp _ hm; omega
 have subx:∀ b,b∈[x.xb]->b∈x.fp:=λb hb=>by simp at hb; simp [Wx.fp,hb]
 obtain ⟨sp,sk,si,rfl,q1,q2,q3⟩:=ht.ex;have q2:RSl lo0 encS m sk ks:=q2;have q3:RSl lo0 zN m si ps:=q3;have hlf:(Nd.nd ks ps).leaf=false:=rfl;rw [hlf] at ht ⊢;have hget:ps[c]? = some p:=by
  have:=congrArg (λt:List Nat=>t[c]?) e1;rw [this,List.getElem?_append_right (by rw [ltI]; omega),ltI,Nat.min_eq_left (by omega),Nat.sub_self]; rfl
 obtain ⟨pk,i2,i2'⟩:=KM q3 hget;rw [qmm];simp only [st0,qS];have u1:Upd [] m (m.add (qg false sp sk si)):=Upd.add _ _ _;have g1:(m.add (qg false sp sk si)).get m.next=some (qg false sp sk si):=Mem.qf ..;have n1:(m.add (qg false sp sk si)).next=m.next+1:=rfl;generalize (m.add (qg false sp sk si))=m1 at u1 g1 n1;have u2:Upd [] m1 (m1.add jG):=Upd.add _ _ _;have gr2:(m1.add jG).get m1.next=some jG:=Mem.qf ..;have n2:(m1.add jG).next=m1.next+1:=rfl;have g2:=qq u2 (by omega) g1;generalize (m1.add jG)=m2 at u2 gr2 n2 g2;have u02:=u1.qu u2;have hm2:Me lo0 ks ps m.next sp sk si m2:=⟨g2,q2.qn u02,q3.qn u02⟩;have hx2:=hx.qn u02;simp only [st0,fa,qF hm2.gn (o:=0+3) rfl,i2,i2' m2 hm2.k3];refine qh.2 ((wT hx2 he (by omega) hl (by omega) hh hlk hp.rt hp.sz).mono λv3 m3 ⟨t3,h3,u3⟩=>?_);have x3:=u3.next;have u3:Upd x.fp m2 m3:=u3.mono λb hb _=>subx b hb
 have hm3:=hm2.zL u3 (by omega) ⟨nf (by omega),λb hb=>nf (q2.2 b hb).1,λb hb=>nf (q3.2 b hb).1⟩;have gr3:=(u3.same m1.next (by omega) (nf (by omega))).trans gr2;have T3:=t3;obtain ⟨pa,ka,ia,rfl,a1,a2,a3⟩:=t3.ex;simp only [st0];refine jf (c:=[.bool n.leaf,pa,ka,ia]) rfl rfl (by simp [a1.one.2,a2.one.2,a3.one.2,show (Value.bool n.leaf).oneCell'=true from rfl]) λm4 b4 u4 n4=>?_
 have hm4:=hm3.qn u4 (by omega);have gr4:=qq u4 (by omega) gr3;have hx4:=h3.qn u4;have T4:=T3.qn u4;have e4:=xok hx4;rw [decide_eq_true (show ({ x with rd:=x.rd+1 }:Wx).err=0 from he)] at e4;simp only [st0,e4,qD b4];refine qh.2 (qh.2 ((qhM T4 (kO hp.rt hp.sz)).mono λv5 m5 ⟨r5,u5⟩=>?_));subst r5;have x4:=u4.next;have x5:=u5.next;have hm5:=hm4.qn u5 (by omega);have gr5:=qq u5 (by omega) gr4;have hx5:=hx4.qn u5;have u05:Upd x.fp m m5:=((u02.nil'.trans u3).qu u4).qu u5;have hall:∀ q∈U0++((p::U1)++U2),True:=λ_ _=>trivial
 cases hpo:Qa n with
 | false =>
  have hp5:=hm5.k2.one;have hq5:=hm5.k3.one;have q1':RSl lo0 qK m5 sp []:=(((q1.qn u02).upd u3 hfp).qn u4).qn u5;simp only [st0,qD hm5.gn,qX gr5 false q1'.one.2 hp5.2 hq5.2,qD (Mem.qe m5 m1.next _)];have hpp:Upd [m1.next] m5 (m5.put m1.next (qg false sp sk si)):=Upd.put _ _ (by simp);have hT:Tr x.o.s h p lo' hi' l1 (p::U1):=xf.2 ⟨n,U1,hp,qhH hpo,hn,rfl⟩;have hb1:∀ {α:Type} {E:Enc α} {w:Value} {l:List α},RSl lo0 E m w l->∀ b∈qc w,b∉[m1.next]:=λhr b hb=>by have:=(hr.2 b hb).2; simp; omega
  refine ⟨{ x with rd:=x.rd+1 },Nd.nd ks ps,_,hx5.upd hpp λb hb=>?_,⟨rfl,rfl,rfl,rfl,rfl,rfl,rfl,rfl,rfl,rfl⟩,he,by show x.rd+1<=x.rd+3; omega,hf,⟨sp,sk,si,rfl,q1'.zL hpp (hb1 q1),hm5.k2.zL hpp (hb1 q2),hm5.k3.zL hpp (hb1 q3)⟩,hr,YH hsz,⟨ks,ps,rfl,hk,?_⟩,Stp.refl _ _,hnd,u05.then' hpp (λb hb=>.inr (by simp at hb; omega))⟩
  ·simp at hb; subst hb;have w1:m1.next∉x.fp:=nf (by omega);simp only [Wx.fp,lcI,nmI,or_false,not_or] at w1;exact ⟨w1.2.2,w1.1,w1.2.1,by show m1.next≠x.o.c; omega,by show m1.next≠x.o.p; omega⟩
  ·have:=KC _ _ _ _ _ _ h0 hT h2
   rwa [List.take_append_drop,<- e1] at this
 | true =>
  have e2:((ps.length:Int)<2)=False:=eq_false (by
   have:=List.length_pos_iff.2 hne;omega)
  obtain ⟨na,nb',key,p1,p2,kc,kd,pc,pd,lo1,hi1,m0',la,lb,m2',T0,Ta,Tb,T2,A⟩:=adj hne hc i1 e1 h0 hp hn h2 hpo;generalize hj:(if 0<c then c - 1 else c)=j at A
  have hjc:j<=c:=by rw [<- hj]; split<;>omega
  obtain ⟨f1,f2,f3,f4,f5,f6,f7⟩:=A.join hr hk (QC hsz);have hjk:ks[j]? = some key:=by rw [A.ek,<- A.jc,List.getElem?_append_right (Nat.le_refl _),Nat.sub_self]; rfl
  have hj1:ps[j]? = some p1:=by rw [A.ep,<- A.jp,List.getElem?_append_right (Nat.le_refl _),Nat.sub_self]; rfl
  have hj2:ps[j+1]? = some p2:=by rw [A.ep,<- A.jp,List.getElem?_append_right (by omega),Nat.add_sub_cancel_left]; rfl
  have hok:ks.eraseIdx j=kc++kd:=by rw [A.ek,<- A.jc]; exact qkc ..
  have hoi:ps.eraseIdx (j+1)=pc++p1::pd:=by rw [A.ep,<- A.jp]; exact qie ..
  have hp12:p1≠p2:=by
   have:=hnd;rw [A.eU] at this;exact (nd5 this).2.2.1
  have hs:¬ qW (qV na nb' key)<=256->_:=λhs=>Zt f1 f2 f4 hs
  have hh2:=A.b1.here.1;have hh1:=A.a1.here.1;have key1:W (Ky x.v (.int .i64 (j:Int)) (.int .i64 (left:Int)) (.pointer (some ⟨m.next,0,none⟩)) (.pointer (some ⟨m1.next,0,none⟩)) m5) (qlk x lo0 m h lo hi (l0++(l1++l2)) (U0++((p::U1)++U2))):=by
   refine (qfm (x:={ x with rd:=x.rd+1 }) (lo:=lo0) (na:=na) (nb':=nb') (p2:=p2) hx5 he (by show x.rd+1+2<=1000; omega) hl hfp hcp (by omega) ⟨⟨hlo,by omega⟩,⟨by omega,by omega⟩⟩ (by omega) hm5 gr5 i1 hfew.2 hj1 hj2 hjk (by omega) A.a1 A.b1 hp12 f2 f4 (λhs'=>by
    obtain ⟨s1,s2,s3,s4,s5,_⟩:=hs hs';exact ⟨s1,s2,s3,s4,s5⟩)).mono λr m' ⟨w1,w2⟩=>?_
   have w1:Upd x.fp m m':=u05.then' w1 (λb hb=>by
    rcases lcI.1 hb with rfl|hb
    ·right; omega
    ·left; exact hb)
   rw [hok,hoi] at w2;rcases w2 with ⟨z1,z2,c1,z3⟩|⟨z1,z2,c1,c2,z3⟩
   ·obtain ⟨y1,y2,y3⟩:=A.one hr hk (QC hsz) hnd z1;have es1:=Wo.vj hh1 (zC (qV na nb' key)) c1;have es2:=Wo.qaB (o:={ x.o with L:=upL x.o.L p1 (zC (qV na nb' key)) c1 }) hu20 hP hh2;rw [es1] at es2;have ff:=(hf.write hh1 (zC (qV na nb' key)) c1).drop hu20 hP hh2;refine ⟨_,_,_,z3,⟨rfl,rfl,rfl,rfl,rfl,rfl,rfl,rfl,rfl,rfl⟩,he,Nat.le_refl _,ff,z2,f5,by show ((kc++kd).map λk=>3+k.length).sum<=430; omega,?_,?_,y3,w1⟩
    ·rw [es2]; exact y1
    ·rw [es2]; exact y2
   ·have es1:=Wo.vj hh1 (zC (qz (qV na nb' key)).1) c1;have es2:=Wo.vj (o:={ x.o with L:=upL x.o.L p1 (zC (qz (qV na nb' key)).1) c1 }) hh2 (zC (qz (qV na nb' key)).2.1) c2;rw [es1] at es2;have ff:=(hf.write hh1 (zC (qz (qV na nb' key)).1) c1).write hh2 (zC (qz (qV na nb' key)).2.1) c2;have hrg:=Zb z3.wr.hP;have hrg:∀ q,Wo.s { x.o with L:=upL (upL x.o.L p1 (zC (qz (qV na nb' key)).1) c1) p2 (zC (qz (qV na nb' key)).2.1) c2 } q≠none->1<=q/\q<=65535:=hrg;rw [es2] at hrg;obtain ⟨U',y1,y2,y3,y4,y5⟩:=A.two hr hk (QC hsz) hnd z1 hrg;have hw2:vd (Nd.nd (kc++kd) (pc++p1::pd)) j [([],p1),((qz (qV na nb' key)).2.2,p2)]=Nd.nd (kc++(qz (qV na nb' key)).2.2::kd) (pc++p1::p2::pd):=by
     have hjc:=A.jc;have hjp:=A.jp;have hlen:(pc++p1::pd).length=(kc++kd).length+1:=(zo f5 rfl).2.1;rw [qiw (ks:=kc++kd) (ps:=pc++p1::pd) (by rw [laI]; omega) hlen,List.take_left' hjc,List.drop_left' hjc,List.take_left' hjp];congr 3;rw [<- List.drop_drop,List.drop_left' hjp]; rfl
    rw [hw2] at z2;refine ⟨_,_,_,z3,⟨rfl,rfl,rfl,rfl,rfl,rfl,rfl,rfl,rfl,rfl⟩,he,Nat.le_refl _,ff,z2,y2,y3,?_,?_,y5,w1⟩
    ·rw [es2]; exact y1
    ·rw [es2]; exact y4
  by_cases h0c:0<c
  ·have e5:((0:Int)<(c:Int))=True:=eq_true (by omega);have e6:arith .sub (.int .i64 (c:Int)) (.int .i64 1)=some (.int .i64 (j:Int)):=by
    rw [if_pos h0c] at hj;rw [xh (by omega) (by omega)]; congr 2; omega
   simp only [st0,fa,qF hm5.gn (o:=0+3) rfl,zf hm5.k3,e2,e5,e6];exact key1
  ·have e5:((0:Int)<(c:Int))=False:=eq_false (by omega);rw [if_neg h0c] at hj;subst hj;simp only [st0,fa,qF hm5.gn (o:=0+3) rfl,zf hm5.k3,e2,e5];exact key1
end
end Go.Fx.Tryz
namespace Go.Fx.Tryz
open Go Go.Fx
def qgM (x:Wx) (m:Mem) (N h page:Nat) (lo:Bs) (hi:Option Bs) (l:List Pr) (U:List Nat) (r:Value) (m':Mem):Prop :=
 ∃ r1 b,r=.tuple #[r1,.bool b]/\((4<=l.length/\∃ x',XR x' m'/\Kin x x'/\x'.err=8/\Upd x.fp m m') ∨
  (b=true/\∃ x' ps U',XR x' m'/\Kin x x'/\x'.err=0/\x'.rd<=x.rd+N/\Fu x'.o/\RSl m.next zQ m' r1 ps/\Pts x'.o.s (Tw x'.o.s h) h page lo hi ps l U'/\Stp x.o.s x'.o.s U U'/\U'.Nodup/\Upd x.fp m m'))
theorem qgM.from {x x1:Wx} {m m1:Mem} {N N1 h page:Nat} {lo:Bs} {hi:Option Bs} {l:List Pr} {U U1:List Nat} {r:Value} {m':Mem} (hq:qgM x1 m1 N1 h page lo hi l U1 r m') (hk:Kin x x1) (hu:Upd x.fp m m1) (hs:Stp x.o.s x1.o.s U U1) (hN:x1.rd+N1<=x.rd+N):qgM x m N h page lo hi l U r m':=by
 obtain ⟨r1,b,e,hq⟩:=hq;have hn:=hu.next;refine ⟨r1,b,e,hq.imp (λ⟨h4,x',a1,a2,a3,a4⟩=>⟨h4,x',a1,hk.trans a2,a3,by rw [hk.fp] at a4; exact hu.trans a4⟩) λ⟨hb,x',ps,U',a1,a2,a3,a4,a5,a6,a7,a8,a9,a10⟩=>⟨hb,x',ps,U',a1,hk.trans a2,a3,by omega,a5,a6.low hn,a7,hs.trans a8,a9,by rw [hk.fp] at a10; exact hu.trans a10⟩⟩
section
variable {x:Wx} {m:Mem}
theorem qca {lo0 b h page:Nat} {sp sk si:Value} {n:Nd} {lo:Bs} {hi:Option Bs} {l:List Pr} {U:List Nat} (hx:XR x m) (he:x.err=0) (hf:Fu x.o) (g:m.get b=some (qg false sp sk si)) (ht:TN lo0 m (kT false sp sk si) n) (hr:qO n=true) (hw:wtN n) (hn:Nt x.o.s h n lo hi l U) (hp:x.o.s page≠none) (hpU:page∉U) (hnd:U.Nodup) :
  W (Yz x.v (.int .i64 (page:Int)) (.pointer (some ⟨b,0,none⟩)) m) (qgM x m 0 h page lo hi l (page::U)):=by
 have e:=xok hx;rw [decide_eq_true he] at e;rw [P120_0_eq];simp only [st0,e,qD g];refine qh.2 ((QK hx he hf hp ht hr hw hn hpU hnd).mono λr4 m4 hq=>?_);simp only [st0];rcases hq with ⟨a1,x',a2,a3,a4,a5⟩|⟨x',ps,S',a1,a2,a3,a4,a5,a6,a7,a8,a9,a10⟩
 ·exact ⟨_,_,rfl,.inl ⟨qgC hn hr a1,x',a2,a3,a4,a5⟩⟩
 ·exact ⟨_,_,rfl,.inr ⟨rfl,x',ps,S',a1,a2,a3,by omega,a5,a6,(XL a7).1,a8,a9,a10⟩⟩
end
set_option maxRecDepth 4000 in
theorem qhd {key:Bs}:∀ (h:Nat) (x:Wx) (m:Mem) (page left:Nat) (lo:Bs) (hi:Option Bs) (l:List Pr) (U:List Nat),XR x m->x.err=0->x.rd+4 * (h+1)<=1000->Fu x.o->h<left->left<=40 ->
  Tr x.o.s h page lo hi l U->U.Nodup->inR lo hi key->zb l key=true->W (Call S tab 120 [x.v,.int .i64 (page:Int),.int .i64 (left:Int),str key] m) (qgM x m (4 * (h+1)) h page lo hi (xA l key) U):=by
 intro h
 induction h with
 | zero =>
  intro x m page left lo hi l U hx he hrd hf hle hl40 ht hnd hin hth;obtain ⟨n,U',hp,hn,hnt,rfl⟩:=xf.1 ht;have hnt0:n=Nd.lf l/\(∀ x∈l,inR lo hi x.1)/\U'=[]:=hnt;obtain ⟨rfl,hl,rfl⟩:=hnt0;obtain ⟨hh,hlk⟩:=hp.here;have hlt:=xT hh;have hP:=hx.wr.hP;rw [qlp];refine qh.2 ((wT hx he (by omega) (by omega) (by omega) hh hlk hp.rt hp.sz).mono λv1 m1 ⟨t1,h1,u1⟩=>?_);have x1:=u1.next;have hT:=t1;obtain ⟨sp,sk,si,rfl,q1,q2,q3⟩:=t1.ex;simp only [st0];refine jf (c:=[.bool (Nd.lf l).leaf,sp,sk,si]) rfl rfl (by simp [q1.one.2,q2.one.2,q3.one.2,show (Value.bool (Nd.lf l).leaf).oneCell'=true from rfl]) λm2 b2 u2 n2=>?_
  have h2:=h1.qn u2;have T2:=hT.qn u2;have x2:=u2.next;have e5:=xok h2;rw [decide_eq_true (show ({ x with rd:=x.rd+1 }:Wx).err=0 from he)] at e5;have hlf:(Nd.lf l).leaf=true:=rfl;rw [hlf] at b2;simp only [st0,e5,fa,qF b2 (o:=0+0) rfl,qD b2];obtain ⟨_,_,r1,v1⟩:=xN hp.rt rfl;have hrow:rowP l:=⟨r1,λp hp=>(v1 p hp).2.2⟩;obtain ⟨w1,w2,w3,w4⟩:=HM (key:=key) hrow;have hsz:2+(l.map qJ).sum<=256:=hp.sz;refine qh.2 ((XP key T2 (kO hp.rt hp.sz)).mono λv3 m3 ⟨r3,u3⟩=>?_);subst r3;have hth':zb (Nd.lf l).pairs key=true:=hth;rw [hth'];have b3:=qq u3 (by omega) b2;have x3:=u3.next;simp only [st0,xt0,xt1,qD b3];refine qh.2 ((qgu key (T2.qn u3) (kO hp.rt hp.sz) (by omega)).mono λv4 m4 ⟨⟨sp',r4,t4,k4⟩,u4⟩=>?_);subst r4;have t4:TIn qK 81 m4 sp' (xA l key):=t4;have x4:=u4.next;have T4:TN m3.next m4 (kT true sp' (.slice none 0 0) (.slice none 0 0)) (Nd.lf (xA l key)):=⟨_,_,_,rfl,t4.1.rsl k4,RSl.nil _ _ _,RSl.nil _ _ _⟩;have h4:=(h2.qn u3).qn u4;have hnt4:Nt x.o.s 0 (Nd.lf (xA l key)) lo hi (xA l key) []:=⟨rfl,λy hy=>hl y (w2 y hy),rfl⟩;have hr4:=vt w1.1 w1.2;have u04:Upd x.fp m m4:=(((u1.mono (λb hb _=>by simp at hb; simp [Wx.fp,hb])).qu u2).qu u3).qu u4;refine qh.2 ((QK h4 he hf (by rw [show ({ x with rd:=x.rd+1 }:Wx).o=x.o from rfl,hp.pg]; simp) T4 hr4 (by show ((xA l key).map qJ).sum<=344; omega) hnt4 (by simp) (by simp)).mono λr5 m5 hq=>?_);simp only [st0];rcases hq with ⟨a1,x',a2,a3,a4,a5⟩|⟨x',ps,S',a1,a2,a3,a4,a5,a6,a7,a8,a9,a10⟩
  ·exact ⟨_,_,rfl,.inl ⟨qgC hnt4 hr4 a1,x',a2,⟨a3.w,a3.pm,a3.c,a3.p,a3.P,a3.nt,a3.hd,a3.xb,a3.rest,a3.t⟩,a4,u04.trans a5⟩⟩
  ·refine ⟨_,_,rfl,.inr ⟨rfl,x',ps,S',a1,⟨a2.w,a2.pm,a2.c,a2.p,a2.P,a2.nt,a2.hd,a2.xb,a2.rest,a2.t⟩,a3,?_,a5,a6.low (by omega),(XL a7).1,a8,a9,u04.trans a10⟩⟩;rw [a4]; show x.rd+1<=x.rd+4 * (0+1); omega
 | succ h ih =>
  intro x m page left lo hi l U hx he hrd hf hle hl40 ht hnd hin hth;obtain ⟨n,U',hp,hn,hnt,rfl⟩:=xf.1 ht;obtain ⟨ks,ps,rfl,hks,hfo⟩:=hnt;have hne:ks≠[]:=by simpa [neN,Nd.nd] using hn
  obtain ⟨hh,hlk⟩:=hp.here;have hlt:=xT hh;have hP:=hx.wr.hP;have fpl:=hx.ym;obtain ⟨_,i1,r1,v1,p1⟩:=zo hp.rt rfl;have i1:ps.length=ks.length+1:=i1;have r1:qE ks=true:=r1;have p1:∀ k∈ps,1<=k/\k<=65535:=p1;have hcl:=(vE key ks r1).2.2;obtain ⟨p,lo',hi',l0,l1,l2,S0,S1,S2,e1,e2,e3,e4,e5,e6,e7,e8,e9⟩:=qbD (Qw x.o.s h) hfo r1 hks hin;subst e5 e6;have ecl:∀ y∈l2,ltB y.1 key=false/\y.1≠key:=λy hy=>⟨zU (e9 y hy),(Qn (e9 y hy)).symm⟩
  rw [yz e8 ecl] at hth;have ecut:xA (l0++(l1++l2)) key=l0++(xA l1 key++l2):=WV e8 ecl;rw [ecut];rw [qlp];refine qh.2 ((wT hx he (by omega) (by omega) (by omega) hh hlk hp.rt hp.sz).mono λv1 m1 ⟨t1,h1,u1⟩=>?_);have x1:=u1.next;have hT:=t1;obtain ⟨sp,sk,si,rfl,q1,q2,q3⟩:=t1.ex;have q3:RSl m.next zN m1 si ps:=q3;simp only [st0];refine jf (c:=[.bool (Nd.nd ks ps).leaf,sp,sk,si]) rfl rfl (by simp [q1.one.2,q2.one.2,q3.one.2,show (Value.bool (Nd.nd ks ps).leaf).oneCell'=true from rfl]) λm2 b2 u2 n2=>?_
  have h2:=h1.qn u2;have T2:=hT.qn u2;have z5:=xok h2;rw [decide_eq_true (show ({ x with rd:=x.rd+1 }:Wx).err=0 from he)] at z5;have hlf:(Nd.nd ks ps).leaf=false:=rfl;rw [hlf] at b2;simp only [st0,z5,fa,qF b2 (o:=0+0) rfl,qD b2];refine qh.2 ((Kj key T2 (kO hp.rt hp.sz)).mono λv3 m3 ⟨r3,u3⟩=>?_);subst r3;have x3:=u3.next;have h3:=h2.qn u3;have b3:=qq u3 (by omega) b2;have q33:=(q3.qn u2).qn u3;have hget:ps[zM ks key]? = some p:=by
   have:=congrArg (λt:List Nat=>t[zM ks key]?) e1;rw [this,List.getElem?_append_right (by rw [ltI]; omega),ltI,Nat.min_eq_left (by omega),Nat.sub_self]; rfl
  obtain ⟨pk,y1,y2⟩:=KM q33 hget;have y2:=y2 m3 q33;have esub:arith .sub (.int .i64 (left:Int)) (.int .i64 1)=some (.int .i64 ((left - 1:Nat):Int)):=by rw [xh (by omega) (by omega)]; congr 2; omega
  have y1':qi 1 si (.int .i64 ((zM (Nd.nd ks ps).keys key:Nat):Int))=some pk:=y1;simp only [st0,fa,qF b3 (o:=0+3) rfl,y1',y2,esub];have u03:Upd x.fp m m3:=((u1.mono (λb hb _=>by simp at hb; simp [Wx.fp,hb])).qu u2).qu u3;rw [List.nodup_cons] at hnd;obtain ⟨hpU,hndU⟩:=hnd;obtain ⟨nd1,nd2⟩:=Vj hndU;refine qh.2 ((ih { x with rd:=x.rd+1 } m3 p (left - 1) lo' hi' l1 S1 h3 he (by show x.rd+1+4 * (h+1)<=1000; omega) hf (by omega) (by omega) e3 nd1 e7 hth).mono λv4 m4 hq=>?_);obtain ⟨r1',bb,rfl,hq⟩:=hq;rcases hq with ⟨a0,x',a1,a2,a3,a4⟩|⟨rfl,x',pts,S1',a1,a2,a3,a4,a5,a6,a7,a8,a9,a10⟩
  ·have z6:=xok a1;rw [decide_eq_false (show ¬ x'.err=0 by omega),a2.v] at z6;have f1:=Qp [] page;rw [<- wB] at f1;have f2:qt [.string ⟨#[]⟩,.int .i64 0] [(0,2,.agg [.string ⟨#[]⟩,.int .i64 (page:Int)].toArray)]=some (zQ.flat [([],page)]):=by kernel_rfl
   simp only [st0,xt0,xt1,z6,f1,f2];exact ⟨_,_,rfl,.inl ⟨by simp only [laI]; omega,x',a1.qn (Upd.add _ _ _),⟨a2.w,a2.pm,a2.c,a2.p,a2.P,a2.nt,a2.hd,a2.xb,a2.rest,a2.t⟩,a3,(u03.trans a4).qeg _⟩⟩
  ·have z6:=xok a1;rw [decide_eq_true a3,a2.v] at z6;have a2':Kin x x':=⟨a2.w,a2.pm,a2.c,a2.p,a2.P,a2.nt,a2.hd,a2.xb,a2.rest,a2.t⟩;have a4:x'.rd<=x.rd+1+4 * (h+1):=a4;have a8:Stp x.o.s x'.o.s S1 S1':=a8;have a10:Upd x.fp m3 m4:=a10;have x4:=a10.next;have b4:m4.get m1.next=_:=(a10.same _ (by omega) (λhm=>by have:=fpl _ hm; omega)).trans b3;have T4:=((T2.qn u3).upd a10 (λb hb=>fpl b hb));have hkp:=Zl hp.rt hp.sz;have hu:∀ q∈page::(S0++(S1++S2)),x.o.s q≠none:=vQ x.o.s (h+1) page lo hi _ _ ht;have hkeep:∀ q∈S0++S2,x'.o.s q=x.o.s q/\q∉S1':=λq hq=>a8.zL (nd2 q hq) (hu q (by
    simp only [lcI,List.mem_append] at hq ⊢;rcases hq with h|h<;>simp [h]))
   have hpk:=a8.zL (q:=page) (λh=>hpU (by simp [h])) (hu page (by simp));have hpu':x'.o.s page≠none:=by rw [hpk.1]; exact hu page (by simp)
   have hnd':(S0++(S1'++S2)).Nodup:=yI hndU a9 (λq hq=>(hkeep q hq).2);have hpS:page∉S0++(S1'++S2):=by
    simp only [List.mem_append,not_or] at hpU ⊢;exact ⟨hpU.1,hpk.2,hpU.2.2⟩
   have hst:Stp x.o.s x'.o.s (page::(S0++(S1++S2))) (page::(S0++(S1'++S2))):=a8.ctx (T:=page::(S0++S2)) (λq=>by simp only [lcI,List.mem_append]; grind) (λq=>by simp only [lcI,List.mem_append]; grind);have hev:x.v=x'.v:=a2.v.symm;simp only [st0,xt0,xt1,z6,qD b4];have hpl:pts.length<=2:=by
    rcases a7 with ⟨rfl,_⟩|⟨k,q,la,lb,Sa,Sb,rfl,_⟩<;>simp
   refine qh.2 ((VP (k:=zM ks key) T4 (a6.low (lo':=m.next) (by omega)) hpl (by omega) hkp.1 hkp.2).mono λv5 m5 ⟨t5,u5⟩=>?_);have x5:=u5.next;have h5:=a1.qn u5;have b5:=qq u5 (by omega) b4;have u05:Upd x.fp m m5:=(u03.trans a10).qu u5;have a65:=a6.qn u5;have T5:=t5;obtain ⟨sp5,sk5,si5,rfl,g1,g2,g3⟩:=t5.ex;have hlf5:(vd (Nd.nd ks ps) (zM ks key) pts).leaf=false:=rfl;rw [hlf5] at T5 ⊢;simp only [st0,qX b5 false g1.one.2 g2.one.2 g3.one.2,zf a65];have u6:Upd [m1.next] m5 (m5.put m1.next (qg false sp5 sk5 si5)):=Upd.put _ _ (by simp);have b6:(m5.put m1.next (qg false sp5 sk5 si5)).get m1.next=_:=Mem.qe ..;have n6:(m5.put m1.next (qg false sp5 sk5 si5)).next=m5.next:=rfl;generalize (m5.put m1.next (qg false sp5 sk5 si5))=m6 at u6 b6 n6;have T6:=T5.upd u6 (λb hb=>by simp at hb; omega);have nf:∀ {b:Nat},m.next<=b->b∉x.fp:=λhb hm=>by have:=fpl _ hm; omega
   have hcc:=hx.wr.lc;have hcp:=hx.wr.lp;have kb:∀ {M M':Mem} {y:Wx},Kin x y->XR y M->Upd [m1.next] M M'->XR y M':=λky hy hu=>hy.upd hu λb hb=>by
    simp at hb; subst hb;have w1:=nf (b:=m1.next) (by omega);simp only [Wx.fp,lcI,nmI,or_false,not_or] at w1;rw [ky.xb,ky.w,ky.pm,ky.c,ky.p];exact ⟨w1.2.2,w1.1,w1.2.1,by omega,by omega⟩
   have h6:=kb a2' h5 u6;have u06:Upd x.fp m m6:=u05.then' u6 (λb hb=>.inr (by simp at hb; omega));rcases a7 with ⟨rfl,nk,Sk,c1,c2,rfl⟩|⟨k,q,la,lb,Sa,Sb,rfl,c1,c2,c3,c4,c5,rfl,c6⟩
   ·have ew:=qix e1 hcl i1;have el1:decide ((([([],p)]:List Pt).length:Int)=1)=true:=rfl;rw [ew] at T6;simp only [st0,el1,qD b6,esub];have f0:=Zu (R':=Tr x'.o.s h) _ _ _ _ _ _ (λp lo hi l T hT ht=>xJ h p lo hi l T (λq hq=>(hkeep q (List.mem_append.2 (.inl (hT q hq)))).1) ht) e2;have f2:=XU (R':=Tr x'.o.s h) (λp lo hi l T hT ht=>xJ h p lo hi l T (λq hq=>(hkeep q (List.mem_append.2 (.inr (hT q hq)))).1) ht) e4;rw [hev];have fpl':∀ b∈x.fp,b<m4.next:=λb hb=>by have:=fpl b hb; omega
    refine qh.2 ((qky (lo0:=m4.next) (h:=h) h6 a3 a5 (by omega) (by omega) (by rw [a2'.fp]; exact fpl') (by rw [a2'.c,a2'.p]; exact ⟨by omega,by omega⟩) (by omega) T6 hp.rt hp.sz hks hne hcl e1 f0 c1 c2 f2 hnd').mono λv7 m7 hq=>?_);obtain ⟨x7,n7,U7,d1,d2,d3,d4,d5,d6,d7,d8,d9,d10,d11,d12⟩:=hq;rw [a2'.fp] at d12;have x7':=d12.next;have b7:=(d12.same m1.next (by omega) (nf (by omega))).trans b6;have k7:=a2'.trans d2;have hU7:=d10.zL hpS hpu';have T7:=d6;have hn7:=d9;obtain ⟨kk7,pp7,hn7,_⟩:=hn7;obtain ⟨sp7,sk7,si7,rfl,g4,g5,g6⟩:=d6.ex;have hlf7:n7.leaf=false:=by rw [hn7]; rfl
    rw [hlf7] at T7 ⊢;simp only [st0,qX b7 false g4.one.2 g5.one.2 g6.one.2];have u8:Upd [m1.next] m7 (m7.put m1.next (qg false sp7 sk7 si7)):=Upd.put _ _ (by simp);have b8:(m7.put m1.next (qg false sp7 sk7 si7)).get m1.next=_:=Mem.qe ..;generalize (m7.put m1.next (qg false sp7 sk7 si7))=m8 at u8 b8;have T8:=T7.upd u8 (λb hb=>by simp at hb; omega);have h8:=kb k7 d1 u8;have hev7:x'.v=x7.v:=d2.v.symm;rw [hev7];have u08:Upd x.fp m m8:=(u06.trans d12).then' u8 (λb hb=>.inr (by simp at hb; omega));refine (qca h8 d3 d5 b8 T8 d7 d8 d9 (by rw [hU7.1]; exact hpu') hU7.2 d11).mono λr m' hq=>hq.from k7 u08 (hst.trans (d10.ctx (T:=[page]) (λq=>by simp only [lcI,nmI,or_false]; exact or_comm) (λq=>by simp only [lcI,nmI,or_false]; exact or_comm))) (by omega)
   ·have el2:decide ((([([],p),(k,q)]:List Pt).length:Int)=1)=false:=rfl;obtain ⟨f1,f2,f3,f4⟩:=Vq (s1:=x'.o.s) hp.rt hp.sz hks hne e1 hcl e2 e4 (λq hq=>(hkeep q hq).1) (Zb a1.wr.hP) (.inr ⟨k,q,la,lb,Sa,Sb,rfl,c1,c2,c3,c4,c5,rfl,c6⟩);simp only [st0,el2];rw [hev];refine (qca h6 a3 a5 b6 T6 f2 f3 f1 hpu' hpS hnd').mono λr m' hq=>hq.from a2' u06 hst (by omega)
end Go.Fx.Tryz
namespace Go.Fx.Tryz
open Go Go.Fx
def TrR (s:Nat->Option Bs) (root:Nat) (l:List Pr) (U:List Nat):Prop:=(root=0/\l=[]/\U=[])∨∃ h,Tr s h root [] none l U
section
variable {x:Wx} {m:Mem}
theorem qep (h:XR x m) (he:x.err≠0) (v:Value):Call S tab 90 [x.v,v] m=some (.int .i64 0,m):=by
 refine W_eq ?_;have e1:=xok h;rw [decide_eq_false he] at e1;rw [C90];simp only [st0,e1];exact ⟨trivial,trivial⟩
theorem qhG {k:Bs} {p q:Nat} (hk:k≠[]/\k.length<=32) (hp:1<=p/\p<=65535) (hq:1<=q/\q<=65535):qO (Nd.nd [k] [p,q])=true/\qW (Nd.nd [k] [p,q])<=256:=by
 refine ⟨vr rfl (by simp [qE,hk.1,hk.2]) (λj hj=>?_),?_⟩
 ·simp only [lcI,nmI,or_false] at hj;rcases hj with rfl|rfl<;>assumption
 ·show 4+(([k].map λk=>3+k.length).sum)<=256;simp; omega
theorem KY {lo h page:Nat} {vp:Value} {ps:List Pt} {l:List Pr} {U:List Nat} {R:TP} (hx:XR x m) (he:x.err=0) (hf:Fu x.o) (hfp:∀ b∈x.fp,b<lo) (hv:RSl lo zQ m vp ps) (hP:Pts x.o.s R h page [] none ps l U) (hnd:U.Nodup) :
  W (Call S tab 90 [x.v,vp] m) λr m'=>(4<=l.length/\∃ x',XR x' m'/\Kin x x'/\x'.err=8/\Upd x.fp m m') ∨
   ∃ (x':Wx) (root:Nat) (U':List Nat),r=.int .i64 (root:Int)/\XR x' m'/\Kin x x'/\x'.err=0/\x'.rd=x.rd/\Fu x'.o/\Stp x.o.s x'.o.s U U'/\U'.Nodup/\Upd x.fp m m'/\((x'.o=x.o/\root=page/\U'=U/\R page [] none l U)∨Tr x'.o.s (h+1) root [] none l U'):=by
 have hP160:=hx.wr.hP;have hu20:=hx.wr.hu;rcases hP with ⟨rfl,hR⟩|⟨k,q,la,lb,Sa,Sb,rfl,a1,a2,a3,a4,rfl,rfl,h4⟩
 ·exact zv.2 (.inr ⟨x,page,U,rfl,hx,Kin.refl x,he,rfl,hf,Stp.refl _ _,hnd,Upd.refl _ _,.inl ⟨rfl,rfl,rfl,hR⟩⟩) |>.of_eq (qjg hx he hv)
 ·have hup:x.o.s page≠none/\∃ S',Sa=page::S':=by
   obtain ⟨n,S',hp,_,_,e⟩:=xf.1 a3;exact ⟨by rw [hp.pg]; simp,S',e⟩
  have huq:x.o.s q≠none/\∃ S',Sb=q::S':=by
   obtain ⟨n,S',hp,_,_,e⟩:=xf.1 a4;exact ⟨by rw [hp.pg]; simp,S',e⟩
  obtain ⟨r1,r2⟩:=qhG (p:=page) (q:=q) a2 (Zb hP160 page hup.1) (Zb hP160 q huq.1);have sub1:∀ b,b∈[x.xb]->b∈x.fp:=λb hb=>by simp at hb; simp [Wx.fp,hb]
  refine (qjf hx he hv (λb hb=>by
   have h1:=(hv.2 b hb).1;have f1:=hfp x.o.w (by simp [Wx.fp]); have f2:=hfp x.o.pm (by simp [Wx.fp]); have f3:=hfp x.xb (by simp [Wx.fp]);exact ⟨by omega,by omega,by omega⟩) r1 r2).mono λr m' hc=>?_
  rcases hc with ⟨h8,u8⟩|⟨n,c1,c2,y1,y2,y3,rfl,h8,u8⟩
  ·exact .inl ⟨h4,_,h8,⟨rfl,rfl,rfl,rfl,rfl,rfl,rfl,rfl,rfl,rfl⟩,rfl,u8.mono λb hb _=>sub1 b hb⟩
  ·have hn0:x.o.s n=none:=qaA y3;have es1:=Wo.Wn hu20 hP160 y1 y2 y3 (qp 256) c1;have f1:=hf.take hu20 hP160 y1 y2 y3 (qp 256) c1;have hh:Wo.has { x.o with u:=xg x.o.u n,L:=upL x.o.L n (qp 256) c1 } n=true:=by
    apply Fu.some; rw [es1]; simp [zI]
   have es2:=Wo.vj hh (zC (Nd.nd [k] [page,q])) c2;have f2:=f1.write hh (zC (Nd.nd [k] [page,q])) c2;rw [es1] at es2;have hout:∀ j,j≠n->zI (zI x.o.s n (some (qp 256))) n (some (zC (Nd.nd [k] [page,q]))) j=x.o.s j:=λj hj=>by unfold zI; rw [if_neg hj,if_neg hj]
   have hnU:n∉Sa++Sb:=λhm=>by
    rcases List.mem_append.1 hm with hm|hm
    ·exact vQ _ _ _ _ _ _ _ a3 n hm hn0
    ·exact vQ _ _ _ _ _ _ _ a4 n hm hn0
   have hfr:∀ j∈Sa++Sb,zI (zI x.o.s n (some (qp 256))) n (some (zC (Nd.nd [k] [page,q]))) j=x.o.s j:=λj hj=>hout j (by rintro rfl; exact hnU hj)
   refine .inr ⟨_,n,n::(Sa++Sb),rfl,h8,Kin.o x ⟨rfl,rfl,rfl,rfl,rfl,rfl,rfl⟩,he,rfl,f2,?_,List.nodup_cons.2 ⟨hnU,hnd⟩,u8,.inr ?_⟩
   ·rw [es2];exact ⟨λj h1 h2=>hout j (λe=>h2 (by simp [e])),λj hj=>(lcI.1 hj).elim (λe=>.inr (by rw [e]; exact hn0)) .inl,λj h1 h2=>absurd (lcI.2 (.inr h1)) h2⟩
   ·rw [es2];refine xf.2 ⟨_,_,⟨by simp [zI],r1,r2⟩,by simp [neN,Nd.nd],⟨[k],[page,q],rfl,λj hj=>by simp at hj; subst hj; exact a1,la,Sa,lb,Sb,?_,?_,rfl,rfl⟩,rfl⟩
    ·exact xJ h _ _ _ _ _ (λj hj=>hfr j (List.mem_append.2 (.inl hj))) a3
    ·exact xJ h _ _ _ _ _ (λj hj=>hfr j (List.mem_append.2 (.inr hj))) a4
theorem YT {h root:Nat} {l:List Pr} {U:List Nat} (hx:XR x m) (he:x.err=0) (hf:Fu x.o) (hrd:x.rd<1000) (ht:Tw x.o.s h root [] none l U) (hnd:U.Nodup) :
  W (Call S tab 121 [x.v,.int .i64 (root:Int)] m) λr m'=>∃ (x':Wx) (root':Nat) (U':List Nat),r=.int .i64 (root':Int)/\XR x' m'/\Kin x x'/\x'.err=0/\Fu x'.o/\TrR x'.o.s root' l U'/\Stp x.o.s x'.o.s U U'/\U'.Nodup/\Upd x.fp m m':=by
 obtain ⟨n,U',hp,hn,rfl⟩:=ht;obtain ⟨hh,hlk⟩:=hp.here;have hlt:=xT hh;have hP:=hx.wr.hP;have hu20:=hx.wr.hu;have subx:∀ b,b∈[x.xb]->b∈x.fp:=λb hb=>by simp at hb; simp [Wx.fp,hb]
 have sub2:∀ b,b∈[x.o.w,x.xb]->b∈x.fp:=λb hb=>by simp only [lcI,nmI,or_false,Wx.fp] at hb ⊢; omega
 rw [List.nodup_cons] at hnd;rw [qmD];refine qh.2 ((wT (left:=40) hx he hrd (by omega) (by omega) hh hlk hp.rt hp.sz).mono λv1 m1 ⟨t1,h1,u1⟩=>?_);have x1:=u1.next;obtain ⟨sp,sk,si,rfl,q1,q2,q3⟩:=t1.ex;simp only [st0];refine jf (c:=[.bool n.leaf,sp,sk,si]) rfl rfl (by simp [q1.one.2,q2.one.2,q3.one.2,show (Value.bool n.leaf).oneCell'=true from rfl]) λm2 b2 u2 n2=>?_
 have h2:=h1.qn u2;have e2:=xok h2;rw [decide_eq_true (show ({ x with rd:=x.rd+1 }:Wx).err=0 from he)] at e2;have u02:Upd x.fp m m2:=(u1.mono λb hb _=>subx b hb).qu u2;have es:=Wo.qaB hu20 hP hh;have ff:=hf.drop hu20 hP hh;have hout:∀ j,j≠root->zI x.o.s root none j=x.o.s j:=λj hj=>by unfold zI; rw [if_neg hj]
 have hst:Stp x.o.s (zI x.o.s root none) (root::U') U':=⟨λj h1 h2=>hout j (λe=>h1 (by simp [e])),λj hj=>.inl (by simp [hj]),λj h1 h2=>by
  rcases lcI.1 h1 with rfl|h1
  ·simp [zI]
  ·exact absurd h1 h2⟩
 cases h with
 | zero =>
  obtain ⟨rfl,hl,rfl⟩:=hn;have hlf:(Nd.lf l).leaf=true:=rfl;rw [hlf] at b2;have q1':RSl m.next qK m2 sp l:=q1.qn u2;have ep:decide ((l.length:Int)=0)=l.isEmpty:=by cases l<;>simp; omega
  cases hem:l.isEmpty with
  | true =>
   rw [hem] at ep;have hl0:=List.isEmpty_iff.1 hem;simp only [st0,e2,fa,qF b2 (o:=0+0) rfl,qF b2 (o:=0+1) rfl,zf q1',ep];refine qh.2 ((qeq h2 he (by omega) hh).mono λv3 m3 ⟨r3,h3,u3⟩=>?_);simp only [st0];refine ⟨_,0,[],rfl,h3,⟨rfl,rfl,rfl,rfl,rfl,rfl,rfl,rfl,rfl,rfl⟩,he,ff,.inl ⟨rfl,hl0,rfl⟩,?_,List.nodup_nil,u02.trans (u3.mono λb hb _=>sub2 b hb)⟩;rw [es]; exact hst
  | false =>
   rw [hem] at ep;simp only [st0,e2,fa,qF b2 (o:=0+0) rfl,qF b2 (o:=0+1) rfl,zf q1',ep];refine ⟨_,root,_,rfl,h2,⟨rfl,rfl,rfl,rfl,rfl,rfl,rfl,rfl,rfl,rfl⟩,he,hf,.inr ⟨0,xf.2 ⟨_,_,hp,?_,⟨rfl,hl,rfl⟩,rfl⟩⟩,Stp.refl _ _,List.nodup_cons.2 hnd,u02⟩;simp only [neN,Nd.lf,if_true];intro e; rw [e] at hem; cases hem
 | succ h =>
  obtain ⟨ks,ps,rfl,hks,hfo⟩:=hn;have hlf:(Nd.nd ks ps).leaf=false:=rfl;rw [hlf] at b2;have q2':RSl m.next encS m2 sk ks:=q2.qn u2;have q3':RSl m.next zN m2 si ps:=q3.qn u2;have ep:decide ((ks.length:Int)=0)=ks.isEmpty:=by cases ks<;>simp; omega
  cases hem:ks.isEmpty with
  | true =>
   rw [hem] at ep;have hl0:=List.isEmpty_iff.1 hem;subst hl0;have hps:∃ p,ps=[p]:=by
    match ps,hfo with
    | [p],_=>exact ⟨p,rfl⟩
   obtain ⟨p,rfl⟩:=hps;have hfo:Tr x.o.s h p [] none l U':=hfo;simp only [st0,e2,fa,qF b2 (o:=0+0) rfl,qF b2 (o:=0+2) rfl,zf q2',ep];refine qh.2 ((qeq h2 he (by omega) hh).mono λv3 m3 ⟨r3,h3,u3⟩=>?_);have u3:Upd x.fp m2 m3:=u3.mono λb hb _=>sub2 b hb
   have b3:m3.get m1.next=_:=(u3.same _ (by omega) (λhm=>by have:=hx.ym _ hm; omega)).trans b2;have q33:=q3'.upd u3 hx.ym;obtain ⟨pk,i1,i2⟩:=KM q33 (i:=0) (p:=p) rfl;have i1:qi 1 si (.int .i64 0)=some pk:=i1;simp only [st0,fa,qF b3 (o:=0+3) rfl,i1,i2 m3 q33];refine ⟨_,p,U',rfl,h3,⟨rfl,rfl,rfl,rfl,rfl,rfl,rfl,rfl,rfl,rfl⟩,he,ff,.inr ⟨h,?_⟩,?_,hnd.2,u02.trans u3⟩
   ·rw [es];exact xJ h _ _ _ _ _ (λj hj=>hout j (by rintro rfl; exact hnd.1 hj)) hfo
   ·rw [es]; exact hst
  | false =>
   rw [hem] at ep;simp only [st0,e2,fa,qF b2 (o:=0+0) rfl,qF b2 (o:=0+2) rfl,zf q2',ep];refine ⟨_,root,_,rfl,h2,⟨rfl,rfl,rfl,rfl,rfl,rfl,rfl,rfl,rfl,rfl⟩,he,hf,.inr ⟨h+1,xf.2 ⟨_,_,hp,?_,⟨ks,ps,rfl,hks,hfo⟩,rfl⟩⟩,Stp.refl _ _,List.nodup_cons.2 hnd,u02⟩;simp only [neN,Nd.nd,Bool.false_eq_true,if_false];intro e; rw [e] at hem; cases hem
end
end Go.Fx.Tryz
namespace Go.Fx.Tryz
open Go Go.Fx
structure WI (o:Wo) (ns:List St) (m:Mem):Prop where
 wr:WR o m
 nt:TAp yq 152 m o.nt ns
 dj:∀ b∈qc o.nt,b≠o.w/\b≠o.pm/\b≠o.c/\b≠o.p
 fu:Fu o
def Wo.zE (o:Wo):List Nat:=o.w::o.pm::qc o.nt
theorem WI.upd {o:Wo} {ns:List St} {m m':Mem} {fp:List Nat} (h:WI o ns m) (hu:Upd fp m m') (hf:∀ b∈fp,b∉o.zE/\b≠o.c/\b≠o.p):WI o ns m':=by
 have k:∀ b∈fp,b≠o.w/\b≠o.pm/\b∉qc o.nt:=λb hb=>by
  have:=(hf b hb).1;simp only [Wo.zE,lcI,not_or] at this;exact this
 exact ⟨h.wr.upd hu λb hb=>⟨(k b hb).1,(k b hb).2.1,(hf b hb).2⟩,h.nt.upd hu λb hb hm=>(k b hm).2.2 hb,h.dj,h.fu⟩
theorem WI.qn {o:Wo} {ns:List St} {m m':Mem} (h:WI o ns m) (hu:Upd [] m m'):WI o ns m':=h.upd hu λb hb=>by cases hb
theorem WI.lt {o:Wo} {ns:List St} {m:Mem} (h:WI o ns m):∀ b∈o.zE,b<m.next:=λb hb=>by
 rcases lcI.1 hb with rfl|hb
 ·exact h.wr.lw
 ·rcases lcI.1 hb with rfl|hb
  ·exact h.wr.lm
  ·exact h.nt.lt b hb
structure Nx (o o':Wo) (m m':Mem):Prop where
 w:o'.w=o.w
 c:o'.c=o.c
 p:o'.p=o.p
 P:o'.P=o.P
 upd:Upd o.zE m m'
 grow:∀ b∈o'.zE,b∈o.zE∨m.next<=b
theorem Nx.of0 {o:Wo} {m m':Mem} (h:Upd [] m m'):Nx o o m m':=⟨rfl,rfl,rfl,rfl,h.nil',λb hb=>.inl hb⟩
theorem Nx.trans {o o' o'':Wo} {m m' m'':Mem} (h:Nx o o' m m') (k:Nx o' o'' m' m''):Nx o o'' m m'' :=
 ⟨k.w.trans h.w,k.c.trans h.c,k.p.trans h.p,k.P.trans h.P,h.upd.then' k.upd h.grow,λb hb=>(k.grow b hb).elim (h.grow b) λhb=>.inr (Nat.le_trans h.upd.next hb)⟩
structure Gr (ns ns':List St):Prop where
 len:ns'.length<=ns.length+1
 pre:ns <+: ns'
theorem Gr.rfl' (ns:List St):Gr ns ns:=⟨Nat.le_succ _,List.prefix_refl _⟩
theorem Gr.one (ns:List St) (s:St):Gr ns (ns++[s]):=⟨by simp,List.prefix_append ..⟩
theorem qiV (f:FuncId) (h:Nat.blt f yBase=true) (l:Array Value):kH (.func (.func f) #[] l)=some (f,[],l.toList):=by simp [kH,h]
theorem qgf (w:Nat):qt [.pointer none,.int .i64 0,.int .i64 0] [(0,1,.pointer (some ⟨w,0,none⟩))]=some [.pointer (some ⟨w,0,none⟩),.int .i64 0,.int .i64 0]:=by kernel_rfl
abbrev x0 (o:Wo) (xb:Nat):Wx:=⟨o,xb,[],142,0,0⟩
theorem XR.begin {o:Wo} {m:Mem} (h:WR o m):XR (x0 o m.next) (m.add (x0 o m.next).blk):=by
 refine ⟨h.qn (Upd.add _ _ _),Mem.qf ..,by show m.next<m.next+1; omega,?_⟩;have w1:=h.lw; have w2:=h.lm; have w3:=h.lc; have w4:=h.lp;exact ⟨by show m.next≠o.w; omega,by show m.next≠o.pm; omega,by show m.next≠o.c; omega,by show m.next≠o.p; omega⟩
theorem qiU {o:Wo} {ns:List St} {m:Mem} (h:WI o ns m) (hnl:ns.length<=90000) {root:Value} {f:FuncId} (hfy:Nat.blt f yBase=true) {caps:Array Value} {E:Prop} {Q:Value->Wo->Prop}
  (hbody:∀ (x:Wx) (m1:Mem),XR x m1->x.err=0->x.rd=0->Fu x.o->x.o.s=o.s->x.o.P=o.P->x.o.u=o.u->Upd (o.w::qc o.nt) m m1->(∀ b∈x.fp,b∈o.zE∨m.next<=b) ->
   W (Call S tab f (x.v::caps.toList) m1) λr m2=>∃ x',XR x' m2/\Kin x x'/\Upd x.fp m1 m2/\((x'.err=8/\E)∨(x'.err=0/\Fu x'.o/\Q r x'.o))) :
  W (Call S tab 88 [.pointer (some ⟨o.w,0,none⟩),root,.func (.func f) #[] caps] m) λr m'=>∃ o' ns',WI o' ns' m'/\Nx o o' m m'/\Gr ns ns' /\
   ((E/\r=.tuple #[root,.int .i64 8]/\o'.s=o.s)∨∃ v,r=.tuple #[v,.int .i64 0]/\Q v o'):=by
 have hw:=h.wr;have w1:=hw.lw; have w2:=hw.lm; have w3:=hw.lc; have w4:=hw.lp;rw [C88];simp only [st0,qgf,qS];have hxr:=XR.begin hw;have u1:Upd [] m (m.add (x0 o m.next).blk):=Upd.add _ _ _;have n1:(m.add (x0 o m.next).blk).next=m.next+1:=rfl;have eblk:(⟨.cells [.pointer (some ⟨o.w,0,none⟩),.int .i64 0,.int .i64 0] 142,false,none⟩:ABlk)=(x0 o m.next).blk:=rfl;rw [eblk];generalize (m.add (x0 o m.next).blk)=m1 at u1 n1 hxr;refine qh.2 ((qbS (hw.qn u1) (h.nt.qn u1) (by omega) h.dj).mono λr2 m2 hq=>?_);obtain ⟨rfl,pm',nt',k,r2,t2,k2,d2,g2,l2,l2',u2⟩:=hq;have x2:=u2.next;have nin:m.next∉o.w::qc o.nt:=λhm=>by
  rcases lcI.1 hm with e|e
  ·omega
  ·have:=h.nt.lt _ e; omega
 have hx2:XR (x0 { o with nt:=nt' } m.next) m2:=⟨r2,(u2.same m.next (by omega) nin).trans hxr.hx,by show m.next<m2.next; omega,hxr.ne⟩;have hs2:Wo.s { o with nt:=nt' } = o.s:=rfl;have hfu2:Fu { o with nt:=nt' }:=h.fu;have u02:Upd (o.w::qc o.nt) m m2:=u1.nil'.trans u2;have bnt:∀ b∈qc nt',b≠o.w/\b≠o.pm/\b≠o.c/\b≠o.p/\b≠m.next:=λb hb=>by
  rcases k2 b hb with e|e
  ·have:=h.nt.lt b e; exact ⟨(h.dj b e).1,(h.dj b e).2.1,(h.dj b e).2.2.1,(h.dj b e).2.2.2,by omega⟩
  ·exact ⟨by omega,by omega,by omega,by omega,by omega⟩
 simp only [st0,qiV f hfy];have hfoot:∀ b∈(x0 { o with nt:=nt' } m.next).fp,b∈o.zE∨m.next<=b:=λb hb=>by
  simp only [Wx.fp,Wo.zE,lcI,nmI,or_false] at hb ⊢;rcases hb with h|h|h
  ·simp [h]
  ·simp [h]
  ·right; omega
 refine qh.2 ((hbody (x0 { o with nt:=nt' } m.next) m2 hx2 rfl rfl hfu2 hs2 rfl rfl u02 hfoot).mono λr3 m3 hq=>?_);obtain ⟨x',a1,a2,a3,a4⟩:=hq;have x3:=a3.next;have z:=xok a1;rw [a2.v] at z;have t3:TAp yq 152 m3 nt' (ns++[{ o.st hw.hu with pm:=pm' }]):=t2.upd a3 λb hb hm=>by
  have:=bnt b hb;simp only [Wx.fp,lcI,nmI,or_false] at hm;rcases hm with e|e|e
  ·exact this.1 e
  ·exact this.2.1 e
  ·exact this.2.2.2.2 e
 have ew:x'.o.w=o.w:=a2.w;have epm:x'.o.pm=o.pm:=a2.pm;have ec:x'.o.c=o.c:=a2.c;have ep:x'.o.p=o.p:=a2.p;have eP:x'.o.P=o.P:=a2.P;have ent:x'.o.nt=nt':=a2.nt;have exb:x'.xb=m.next:=a2.xb;have u03:Upd o.zE m m3:=(u02.mono λb hb _=>by
  simp only [Wo.zE,lcI] at hb ⊢;rcases hb with h|h<;>simp [h]).then' a3 hfoot
 rcases a4 with ⟨a4,hE⟩|⟨a4,a5,a6⟩
 ·rw [decide_eq_false (show ¬ x'.err=0 by omega)] at z;have g3:m3.get pm'=some ⟨.map (esL o.L) k,false,none⟩:=(a3.same pm' l2' (λhm=>by
   simp only [Wx.fp,lcI,nmI,or_false] at hm;rcases hm with e|e|e<;>omega)).trans g2
  have hb:=qcB a1.wr (s:={ o.st hw.hu with pm:=pm' }) (by rw [ent]; exact t3) (by omega) (by rw [ent,ew]; exact λb hb=>(bnt b hb).1) g3 (by show pm'<m3.next; omega);rw [ew] at hb;simp only [st0,z];refine qh.2 (hb.mono λr4 m4 hq=>?_);obtain ⟨rfl,pm2,nt2,hnt2,r4,t4,_,l4,l4',u4⟩:=hq;obtain rfl:=hnt2 rfl;have hx4:m4.get m.next=some x'.blk:=by
   rw [u4.same m.next (by omega) (by simp; omega),<- exb]; exact a1.hx
  have le:qa (.pointer (some ⟨m.next,0+1,none⟩)) m4=some (.int .i64 (x'.err:Int)):=qm hx4 rfl;rw [a4] at le;simp only [st0,nck,fa,le];refine ⟨_,_,⟨r4,t4,λb hb=>?_,?_⟩,⟨rfl,ec,ep,eP,u03.trans (u4.mono λb hb _=>by simp at hb; simp [Wo.zE,hb]),λb hb=>?_⟩,Gr.one ..,.inl ⟨hE,rfl,?_⟩⟩
  ·have hb':b∈qc nt':=by rw [<- ent]; exact hb
   have:=bnt b hb';have:=t3.lt b hb';exact ⟨by show b≠o.w; omega,by show b≠pm2; omega,by show b≠x'.o.c; omega,by show b≠x'.o.p; omega⟩
  ·intro q;have:=h.fu q;unfold Wo.s Wo.has at this ⊢;simp only [eP];exact this
  ·simp only [Wo.zE,lcI] at hb;rcases hb with h|h|h
   ·left; simp [Wo.zE,h]
   ·right; omega
   ·rw [ent] at h;rcases k2 b h with h|h
    ·left; simp [Wo.zE,h]
    ·right; omega
  ·funext q;unfold Wo.s Wo.has;simp only [eP];rfl
 ·rw [decide_eq_true a4] at z;simp only [st0,z];refine ⟨x'.o,_,⟨a1.wr,by rw [ent]; exact t3,λb hb=>?_,a5⟩,⟨ew,ec,ep,eP,u03,λb hb=>?_⟩,Gr.one ..,.inr ⟨r3,rfl,a6⟩⟩
  ·rw [ent] at hb;have:=bnt b hb;rw [ew,epm,ec,ep]; exact ⟨this.1,this.2.1,this.2.2.1,this.2.2.2.1⟩
  ·simp only [Wo.zE,lcI,ew,epm,ent] at hb;rcases hb with h|h|h
   ·left; simp [Wo.zE,h]
   ·left; simp [Wo.zE,h]
   ·rcases k2 b h with h|h
    ·left; simp [Wo.zE,h]
    ·right; omega
end Go.Fx.Tryz
namespace Go.Fx.Tryz
open Go Go.Fx
section
variable {x:Wx} {m:Mem}
theorem qje (h:XR x m) (he:x.err=0) (hfree:∃ n,1<=n/\n<x.o.P/\jn x.o.u n=false):W (Call S tab 92 [x.v] m) λr m' =>
  ∃ (n c:Nat),1<=n/\n<x.o.P/\jn x.o.u n=false/\r=.int .i64 (n:Int)/\XR { x with o:={ x.o with u:=xg x.o.u n,L:=upL x.o.L n (qp 256) c } } m'/\Upd [x.o.w,x.o.pm,x.xb] m m':=by
 have e1:=xok h;rw [decide_eq_true he] at e1;have d0:decide ((0:Int)=0)=true:=rfl;rw [C92];simp only [st0,e1,nck,fa,(xld h).1];have hq:W (Call S tab 127 [.pointer (some ⟨x.o.w,0,none⟩)] m) λr m'=>∃ (n c:Nat),1<=n/\n<x.o.P/\jn x.o.u n=false/\r=.tuple #[.int .i64 (n:Int),.int .i64 0]/\WR { x.o with u:=xg x.o.u n,L:=upL x.o.L n (qp 256) c } m'/\Upd [x.o.w,x.o.pm] m m':=by
  rw [qlo];simp only [st0,yi h.wr,d0];refine KS h.wr (λhall=>?_) (λn m' c h1 h2 h3 h4 h5=>⟨n,c,h1,h2,h3,rfl,h4,h5⟩) _ 1 rfl (by omega) (by omega);obtain ⟨n,a,b,c⟩:=hfree;rw [hall n a b] at c; cases c
 refine qh.2 (hq.mono λr m1 hc=>?_);obtain ⟨n,c,n1,n2,n3,rfl,r1,u1⟩:=hc;have h1:=h.work r1 ⟨rfl,rfl,rfl,rfl⟩ u1 (λb hb=>by simpa using hb);obtain ⟨e2,h2,u2⟩:=h1.Xj he;have e2':Call S tab 128 [x.v,.int .i64 0] m1=_:=e2;simp only [st0,xt0,xt1,e2'];refine ⟨n,c,n1,n2,n3,rfl,h2,(u1.mono (λb hb _=>?_)).trans (u2.mono (λb hb _=>?_))⟩
 ·simp at hb ⊢; omega
 ·simp at hb; simp [hb]
end
def Kv (key val:Bs):Prop:=(key≠[]/\key.length<=32)/\val.length<=40
def VJ (o:Wo) (root:Nat) (l:List Pr):Prop:=(root=0/\∀ n,1<=n->n<o.P->jn o.u n=true)∨(root≠0/\4<=l.length)
theorem WD (key:Bs):inR [] none key:=⟨by cases key<;>simp [ltB],λh e=>by cases e⟩
theorem JE {o:Wo} {h root:Nat} {lo:Bs} {hi:Option Bs} {l:List Pr} {U:List Nat} (ht:Tr o.s h root lo hi l U):1<=root:=by
 obtain ⟨n,S',hp,_⟩:=xf.1 ht;exact (xT hp.here.1).1
theorem qiR:qt [.bool false,.slice none 0 0,.slice none 0 0,.slice none 0 0] [(0,1,.bool true)]=some [.bool true,.slice none 0 0,.slice none 0 0,.slice none 0 0]:=rfl
theorem _root_.Go.Fx.Upd.boxes {m m':Mem} {fp:List Nat} (hu:Upd fp m m') {b:Nat} {x:ABlk} (hg:m.get b=some x) (hb:b<m.next) (hn:b∉fp):m'.get b=some x:=(hu.same b hb hn).trans hg
set_option maxRecDepth 4000 in
theorem qeY {x:Wx} {m:Mem} {key val:Bs} (hkv:Kv key val) {root b1 b2 b3:Nat} {l:List Pr} {U:List Nat} (hx:XR x m) (he:x.err=0) (hrd:x.rd=0) (hf:Fu x.o) (ht:TrR x.o.s root l U) (hnd:U.Nodup) {t1 t2 t3:TypeId}
  (g1:m.get b1=some ⟨.cells [.int .i64 (root:Int)] t1,false,none⟩) (g2:m.get b2=some ⟨.cells [str key] t2,false,none⟩) (g3:m.get b3=some ⟨.cells [str val] t3,false,none⟩) (hb:(b1<m.next/\b2<m.next/\b3<m.next)/\(b2∉x.fp/\b3∉x.fp)) :
  W (Call S tab 89 [x.v,.pointer (some ⟨b1,0,none⟩),.pointer (some ⟨b2,0,none⟩),.pointer (some ⟨b3,0,none⟩)] m) λr m'=>∃ x',XR x' m'/\Kin x x'/\Upd x.fp m m'/\((x'.err=8/\VJ x.o root (xO l key val)) ∨
   (x'.err=0/\Fu x'.o/\∃ (root':Nat) (U':List Nat),r=.int .i64 (root':Int)/\TrR x'.o.s root' (xO l key val) U'/\Stp x.o.s x'.o.s U U'/\U'.Nodup)):=by
 have hP:=hx.wr.hP;have hu20:=hx.wr.hu;have l1:qa (.pointer (some ⟨b1,0,none⟩)) m=some (.int .i64 (root:Int)):=qm g1 rfl;have l2:qa (.pointer (some ⟨b2,0,none⟩)) m=some (str key):=qm g2 rfl;have l3:qa (.pointer (some ⟨b3,0,none⟩)) m=some (str val):=qm g3 rfl;rw [C89];rcases ht with ⟨rfl,rfl,rfl⟩|⟨h,ht⟩
 ·have e0:(((0:Nat):Int)=0)=True:=eq_true rfl;simp only [st0,l1,e0];have tn:∀ M:Mem,TN M.next M (kT true (.slice none 0 0) (.slice none 0 0) (.slice none 0 0)) (Nd.lf []):=λM=>⟨_,_,_,rfl,RSl.nil _ _ _,RSl.nil _ _ _,RSl.nil _ _ _⟩
  have fit0:(Nd.lf []).Fit:=⟨by simp [Nd.lf],by simp [Nd.lf],by simp [Nd.lf],by simp [Nd.lf],by simp [Nd.lf],by simp [Nd.lf]⟩;obtain ⟨w1,w2,w3,w4⟩:=JN (l:=[]) (key:=key) (val:=val) ⟨rfl,by simp⟩ hkv.1 hkv.2;have hr:=vt w1.1 w1.2;have hsz:qW (Nd.lf (xO [] key val))<=256:=by
   show 2+((xO [] key val).map qJ).sum<=256;have:(([]:List Pr).map qJ).sum=0:=rfl;omega
  by_cases hfree:∃ n,1<=n/\n<x.o.P/\jn x.o.u n=false
  ·refine qh.2 ((qje hx he hfree).mono λr1 m1 hq=>?_);obtain ⟨n,c,y1,y2,y3,rfl,h1,u1⟩:=hq;have x1:=u1.next;have l2':qa (.pointer (some ⟨b2,0,none⟩)) m1=some (str key):=qm (u1.boxes g2 hb.1.2.1 hb.2.1) rfl;have l3':qa (.pointer (some ⟨b3,0,none⟩)) m1=some (str val):=qm (u1.boxes g3 hb.1.2.2 hb.2.2) rfl;simp only [st0,qiR,l2',l3'];refine qh.2 ((Ww key val (tn m1) fit0 (Nat.le_refl _)).mono λv2 m2 ⟨t2',u2⟩=>?_);have t2':TN m1.next m2 v2 (Nd.lf (xO [] key val)):=t2';have h2:=h1.qn u2;have es1:=Wo.Wn hu20 hP y1 y2 y3 (qp 256) c;have f1:=hf.take hu20 hP y1 y2 y3 (qp 256) c;have hh:Wo.has { x.o with u:=xg x.o.u n,L:=upL x.o.L n (qp 256) c } n=true:=by
    apply Fu.some; rw [es1]; simp [zI]
   refine qh.2 ((wY h2 he (by omega) t2' hh hr hsz).mono λv3 m3 ⟨r3,⟨c2,h3⟩,u3⟩=>?_);simp only [st0];have es2:=Wo.vj hh (zC (Nd.lf (xO [] key val))) c2;have f2:=f1.write hh (zC (Nd.lf (xO [] key val))) c2;rw [es1] at es2;refine ⟨_,h3,Kin.o x ⟨rfl,rfl,rfl,rfl,rfl,rfl,rfl⟩,(u1.qu u2).trans (u3.mono λb hb _=>lcI.2 (.inr hb)),.inr ⟨he,f2,n,[n],rfl,.inr ⟨0,?_⟩,?_,by simp⟩⟩
   ·rw [es2];exact xf.2 ⟨_,[],⟨by simp [zI],hr,hsz⟩,by simpa [neN,Nd.lf] using w4,⟨rfl,λy hy=>WD _,rfl⟩,rfl⟩
   ·rw [es2];exact ⟨λj h1 h2=>by simp at h2; unfold zI; rw [if_neg h2,if_neg h2],λj hj=>by simp at hj; subst hj; exact .inr (qaA y3),λj hj=>by simp at hj⟩
  ·have hall:∀ n,1<=n->n<x.o.P->jn x.o.u n=true:=λn a b=>by
    cases hc:jn x.o.u n with
    | true=>rfl
    | false=>exact absurd ⟨n,a,b,hc⟩ hfree
   refine qh.2 ((qeo hx he).mono λr1 m1 hq=>?_);rcases hq with ⟨rfl,h1,u1⟩|⟨n,c,y1,y2,y3,rfl,h1,u1⟩
   ·have x1:=u1.next;have sub1:∀ b,b∈[x.xb]->b∈x.fp:=λb hb=>by simp at hb; simp [Wx.fp,hb]
    have u1:Upd x.fp m m1:=u1.mono λb hb _=>sub1 b hb
    have l2':qa (.pointer (some ⟨b2,0,none⟩)) m1=some (str key):=qm (u1.boxes g2 hb.1.2.1 hb.2.1) rfl;have l3':qa (.pointer (some ⟨b3,0,none⟩)) m1=some (str val):=qm (u1.boxes g3 hb.1.2.2 hb.2.2) rfl;simp only [st0,qiR,l2',l3'];refine qh.2 ((Ww key val (tn m1) fit0 (Nat.le_refl _)).mono λv2 m2 ⟨t2',u2⟩=>?_);have t2':TN m1.next m2 v2 (Nd.lf (xO [] key val)):=t2';have h2:=h1.qn u2;refine qh.2 ((XC h2 (by show (8:Nat)≠0; omega) (.int .i64 0) t2' hr hsz).mono λv3 m3 ⟨_,u3⟩=>?_);simp only [st0];exact ⟨_,h2.qn u3,⟨rfl,rfl,rfl,rfl,rfl,rfl,rfl,rfl,rfl,rfl⟩,(u1.qu u2).qu u3,.inl ⟨rfl,.inl ⟨rfl,hall⟩⟩⟩
   ·rw [hall n y1 y2] at y3; cases y3
 ·have hpos:=JE ht;have hlow:=(Kq hP ht hnd).1;have e0:((root:Int)=0)=False:=eq_false (by omega);simp only [st0,l1,l2,l3,e0];refine qh.2 ((qhe hkv.1 hkv.2 h x m root 40 [] none l U hx he (by omega) hf (by omega) (by omega) ht hnd (WD key)).mono λr1 m1 hq=>?_);rcases hq with ⟨h4,x',a1,a2,a3,a4⟩|⟨x',ps,U',a1,a2,a3,a4,a5,a6,a7,a8,a9,a10⟩
  ·have z:=qep a1 (by omega) r1;rw [a2.v] at z;simp only [st0,z];exact ⟨x',a1,a2,a4,.inl ⟨a3,.inr ⟨by omega,h4⟩⟩⟩
  ·have z:=KY a1 a3 a5 (by rw [a2.fp]; exact hx.ym) a6 a7 a9;rw [a2.v] at z;refine qh.2 (z.mono λr2 m2 hq=>?_);simp only [st0];rcases hq with ⟨h4,x'',b1',b2',b3',b4⟩|⟨x'',root',U'',rfl,b1',b2',b3',b4,b5,b6,b7,b8,b9⟩
   ·exact ⟨x'',b1',a2.trans b2',a10.trans (by rw [a2.fp] at b4; exact b4),.inl ⟨b3',.inr ⟨by omega,h4⟩⟩⟩
   ·refine ⟨x'',b1',a2.trans b2',a10.trans (by rw [a2.fp] at b8; exact b8),.inr ⟨b3',b5,root',U'',rfl,.inr ?_,a8.trans b6,b7⟩⟩;rcases b9 with ⟨d1,rfl,rfl,d4⟩|d
    ·rw [d1]; exact ⟨h,d4⟩
    ·exact ⟨h+1,d⟩
theorem Wo.qcr {o:Wo} {ns:List St} {m:Mem} (h:WI o ns m) {b:Nat} (hb:m.next<=b):b∉o.zE:=λhm=>by have:=h.lt b hm; omega
theorem qhm {o:Wo} {ns:List St} {m:Mem} (h:WI o ns m) (hnl:ns.length<=90000) {root:Nat} {l:List Pr} {U:List Nat} (ht:TrR o.s root l U) (hnd:U.Nodup) (key val:Bs) :
    W (Call S tab 51 [.pointer (some ⟨o.w,0,none⟩),.int .i64 (root:Int),str key,str val] m) λr m'=>∃ o' ns',WI o' ns' m'/\Nx o o' m m'/\Gr ns ns' /\
      ((¬ Kv key val/\r=.tuple #[.int .i64 (root:Int),.int .i64 1]/\o'=o)∨(Kv key val/\VJ o root (xO l key val)/\r=.tuple #[.int .i64 (root:Int),.int .i64 8]/\o'.s=o.s) ∨
       (Kv key val/\∃ (root':Nat) (U':List Nat),r=.tuple #[.int .i64 (root':Int),.int .i64 0]/\TrR o'.s root' (xO l key val) U'/\Stp o.s o'.s U U'/\U'.Nodup)):=by
  rw [C51];have u1:Upd [] m (m.add ⟨.cells [.int .i64 (root:Int)] 3,false,none⟩):=Upd.add _ _ _;have g1:(m.add ⟨.cells [.int .i64 (root:Int)] 3,false,none⟩).get m.next=some ⟨.cells [.int .i64 (root:Int)] 3,false,none⟩:=Mem.qf ..;have n1:(m.add ⟨.cells [.int .i64 (root:Int)] 3,false,none⟩).next=m.next+1:=rfl;simp only [st0,VD,VC];generalize (m.add ⟨.cells [.int .i64 (root:Int)] 3,false,none⟩)=m1 at u1 g1 n1;have u2:Upd [] m1 (m1.add ⟨.cells [str key] 9,false,none⟩):=Upd.add _ _ _;have k2:(m1.add ⟨.cells [str key] 9,false,none⟩).get m1.next=some ⟨.cells [str key] 9,false,none⟩:=Mem.qf ..;have n2:(m1.add ⟨.cells [str key] 9,false,none⟩).next=m1.next+1:=rfl;have g2:=qq u2 (by omega) g1;generalize (m1.add ⟨.cells [str key] 9,false,none⟩)=m2 at u2 k2 n2 g2;have u3:Upd [] m2 (m2.add ⟨.cells [str val] 9,false,none⟩):=Upd.add _ _ _;have j3:(m2.add ⟨.cells [str val] 9,false,none⟩).get m2.next=some ⟨.cells [str val] 9,false,none⟩:=Mem.qf ..;have n3:(m2.add ⟨.cells [str val] 9,false,none⟩).next=m2.next+1:=rfl;have g3:=qq u3 (by omega) g2;have k3:=qq u3 (by omega) k2;generalize (m2.add ⟨.cells [str val] 9,false,none⟩)=m3 at u3 j3 n3 g3 k3;have u03:Upd [] m m3:=(u1.qu u2).qu u3;have h3:=h.qn u03;have lr:qa (.pointer (some ⟨m.next,0,none⟩)) m3=some (.int .i64 (root:Int)):=qm g3 rfl;have lk:qa (.pointer (some ⟨m1.next,0,none⟩)) m3=some (str key):=qm k3 rfl;have lv:qa (.pointer (some ⟨m2.next,0,none⟩)) m3=some (str val):=qm j3 rfl;have eq0:arith .eql (str key) (.string ⟨#[]⟩)=some (.bool (decide (key=[]))):=jJ key [];have bad:¬ Kv key val->W (some (.tuple #[.int .i64 (root:Int),.int .i64 1],m3):O) λr m'=>∃ o' ns',WI o' ns' m'/\Nx o o' m m'/\Gr ns ns' /\
      ((¬ Kv key val/\r=.tuple #[.int .i64 (root:Int),.int .i64 1]/\o'=o)∨(Kv key val/\VJ o root (xO l key val)/\r=.tuple #[.int .i64 (root:Int),.int .i64 8]/\o'.s=o.s) ∨
       (Kv key val/\∃ (root':Nat) (U':List Nat),r=.tuple #[.int .i64 (root':Int),.int .i64 0]/\TrR o'.s root' (xO l key val) U'/\Stp o.s o'.s U U'/\U'.Nodup)) :=
    λhn=>zv.2 ⟨o,ns,h3,Nx.of0 u03,Gr.rfl' _,.inl ⟨hn,rfl,rfl⟩⟩
  by_cases c1:key=[]
  · have e1:decide (key=[])=true:=decide_eq_true c1;have:=bad (λhk=>hk.1.1 c1);simp only [st0] at this;simp only [st0,lk,eq0,e1,lr];exact this
  have e1:decide (key=[])=false:=decide_eq_false c1;by_cases c2:key.length<=32
  · have e2:((32:Int)<(key.length:Int))=False:=eq_false (by omega);by_cases c3:val.length<=40
    · have e3:((40:Int)<(val.length:Int))=False:=eq_false (by omega);have hkv:Kv key val:=⟨⟨c1,c2⟩,c3⟩;simp only [st0,lk,eq0,e1,qZ,e2,lv,e3,lr];refine qh.2 ((qiU (f:=89) h3 hnl (by rfl) (E:=VJ o root (xO l key val)) (Q:=λr o'=>∃ (root':Nat) (U':List Nat),r=.int .i64 (root':Int)/\TrR o'.s root' (xO l key val) U'/\Stp o.s o'.s U U'/\U'.Nodup) (λx mb hx he hrd hf hs hPx hu hub hfp=>?_)).mono λr m' hq=>?_)
      · have nfoot:∀ b,m.next<=b->b<m3.next->b∉o.w::qc o.nt/\b∉x.fp:=λb h1 h2=>by
          have hn:b∉o.zE:=Wo.qcr h h1;refine ⟨λhm=>hn ?_,λhm=>(hfp b hm).elim hn (λh=>by omega)⟩;simp only [Wo.zE,lcI] at hm ⊢;rcases hm with h|h<;>simp [h]
        have hbn:=hub.next;refine (qeY hkv hx he hrd hf (by rw [hs]; exact ht) hnd (hub.boxes g3 (by omega) (nfoot _ (by omega) (by omega)).1) (hub.boxes k3 (by omega) (nfoot _ (by omega) (by omega)).1) (hub.boxes j3 (by omega) (nfoot _ (by omega) (by omega)).1) ⟨⟨by omega,by omega,by omega⟩,(nfoot _ (by omega) (by omega)).2,(nfoot _ (by omega) (by omega)).2⟩).mono λr m' hq=>?_
        obtain ⟨x',a1,a2,a3,a4⟩:=hq;refine ⟨x',a1,a2,a3,a4.imp (λ⟨z1,z2⟩=>⟨z1,?_⟩) λ⟨z1,z2,root',U',z3,z4,z5,z6⟩=>⟨z1,z2,root',U',z3,z4,by rw [<- hs]; exact z5,z6⟩⟩;unfold VJ at z2 ⊢;rw [hPx,hu] at z2;exact z2
      · obtain ⟨o',ns',b1,b2,b3,b4⟩:=hq;have nx:Nx o o' m m':=(Nx.of0 u03).trans b2;rcases b4 with ⟨d1,rfl,d3⟩|⟨v,rfl,root',U',rfl,d3,d4,d5⟩
        · simp only [st0,xt0,xt1];exact ⟨o',ns',b1,nx,b3,.inr (.inl ⟨hkv,d1,trivial,d3⟩)⟩
        · simp only [st0,xt0,xt1];exact ⟨o',ns',b1,nx,b3,.inr (.inr ⟨hkv,root',U',rfl,d3,d4,d5⟩)⟩
    · have e3:((40:Int)<(val.length:Int))=True:=eq_true (by omega);have:=bad (λhk=>c3 hk.2);simp only [st0] at this;simp only [st0,lk,eq0,e1,qZ,e2,lv,e3,lr];exact this
  · have e2:((32:Int)<(key.length:Int))=True:=eq_true (by omega);have:=bad (λhk=>c2 hk.1.2);simp only [st0] at this;simp only [st0,lk,eq0,e1,qZ,e2,lr];exact this
end Go.Fx.Tryz
namespace Go.Fx.Tryz
open Go Go.Fx
abbrev Tb:=Bs × List Pr
def kY (t:Tb):Bs:=zD t.1++(xI t.2.length++(t.2.map xR).flatten)
def ZT (T:List Tb):Bs:=UInt8.ofNat T.length::(T.map kY).flatten
def zP (s:Bs):Bool:=decide (s≠[])&&decide (s.length<=8)&&s.all λc=>(decide (97<=c.toNat)&&decide (c.toNat<=122))||decide (c.toNat=95)
structure Valid (T:List Tb):Prop where
 len:T.length<=12
 right:∀ t∈T,zP t.1=true
 rise:T.Pairwise λa b=>ltB a.1 b.1=true
 row:∀ t∈T,rowP t.2
 few:∀ t∈T,t.2.length<=65535
theorem we {s:Bs} (h:zP s=true):s≠[]/\s.length<=8:=by
 simp only [zP,baI,decide_eq_true_eq] at h;exact h.1
def rdS:Bs->Option (Bs × Bs)
 | []=>none
 | c::r=>if c.toNat<=r.length then some (r.take c.toNat,r.drop c.toNat) else none
def rd2:Bs->Option (Nat × Bs)
 | a::b::r=>some (a.toNat * 256+b.toNat,r)
 | _=>none
def wQ:Nat->Bs->Bs->Option (List Pr × Bs)
 | 0,_,rest=>some ([],rest)
 | n+1,key,rest=>(rdS rest).bind λq=>(rdS q.2).bind λw=>if ltB key q.1&&(decide (q.1.length<=32)&&decide (w.1.length<=40)) then (wQ n q.1 w.2).map λp=>((q.1,w.1)::p.1,p.2) else none
def wv:Nat->Bs->Bs->Option (List Tb × Bs)
 | 0,_,rest=>some ([],rest)
 | n+1,last,rest=>(rdS rest).bind λq=>(rd2 q.2).bind λc=>if ltB last q.1&&zP q.1 then (wQ c.1 [] c.2).bind λl=>(wv n q.1 l.2).map λp=>((q.1,l.1)::p.1,p.2) else none
def KO:Bs->Option (List Tb)
 | []=>none
 | n::r=>if n.toNat<=12 then (match wv n.toNat [] r with|some (T,[])=>some T|_=>none) else none
theorem qiC (c:UInt8):UInt8.ofNat c.toNat=c:=by simp
theorem yE {b s r:Bs} (h:rdS b=some (s,r)):s.length<=255/\b=zD s++r:=by
 cases b with
 | nil=>cases h
 | cons c b =>
  simp only [rdS] at h;split at h
  ·rename_i hc;simp only [sjI,pjI] at h;obtain ⟨rfl,rfl⟩:=h;have hl:(b.take c.toNat).length=c.toNat:=by rw [ltI]; omega
   have:=c.toNat_lt;refine ⟨by omega,?_⟩;unfold zD;rw [hl,qiC,List.cons_append,List.take_append_drop]
  ·cases h
theorem XJ {b r:Bs} {n:Nat} (h:rd2 b=some (n,r)):n<=65535/\b=xI n++r:=by
 match b,h with
 | a::c::b,h =>
  simp only [rd2,sjI,pjI] at h;obtain ⟨rfl,rfl⟩:=h;have h1:=a.toNat_lt; have h2:=c.toNat_lt;refine ⟨by omega,?_⟩;unfold xI;have e1:(a.toNat * 256+c.toNat) / 256=a.toNat:=by omega
  have e2:UInt8.ofNat (a.toNat * 256+c.toNat)=c:=UInt8.toNat_inj.1 (by simp [UInt8.toNat_ofNat']);rw [e1,e2,qiC]; rfl
theorem qfc (p:Pr) (r:Bs):xR p++r=zD p.1++(zD p.2++r):=by unfold xR; rw [aaI]
theorem Ki:∀ (n:Nat) (key b r:Bs) (l:List Pr),wQ n key b=some (l,r)->l.length=n/\b=(l.map xR).flatten++r/\rowP l/\∀ p∈l,ltB key p.1=true
 | 0,key,b,r,l,h=>by
  simp only [wQ,sjI,pjI] at h;obtain ⟨rfl,rfl⟩:=h;exact ⟨rfl,rfl,⟨rfl,by simp⟩,by simp⟩
 | n+1,key,b,r,l,h=>by
  simp only [wQ,bsI] at h;obtain ⟨⟨k,b1⟩,h1,⟨v,b2⟩,h2,h⟩:=h;split at h
  ·rename_i hc;simp only [baI,decide_eq_true_eq] at hc;simp only [msI] at h;obtain ⟨⟨l',r'⟩,h3,h4⟩:=h;cases h4
   obtain ⟨i1,i2,i3,i4⟩:=Ki n k b2 _ l' h3;obtain ⟨j1,j2⟩:=yE h1;obtain ⟨k1,k2⟩:=yE h2;have hk0:k≠[]:=λe=>by
    have:=hc.1; rw [e] at this;have:=yJ.1 this; exact List.not_lt_nil _ this
   refine ⟨by simp [i1],?_,⟨?_,?_⟩,?_⟩
   ·rw [List.map_cons,List.flatten_cons,aaI,qfc,<- i2,<- k2,<- j2]
   ·rw [List.map_cons];exact kR ⟨hk0,hc.2.1⟩ i3.1 λj hj=>by
     obtain ⟨q,hq,rfl⟩:=List.mem_map.1 hj;exact i4 q hq
   ·intro q hq;rcases lcI.1 hq with rfl|hq
    ·exact hc.2.2
    ·exact i3.2 q hq
   ·intro q hq;rcases lcI.1 hq with rfl|hq
    ·exact hc.1
    ·exact zT hc.1 (i4 q hq)
  ·cases h
theorem qhv (t:Tb) (r:Bs):kY t++r=zD t.1++(xI t.2.length++((t.2.map xR).flatten++r)):=by unfold kY; simp only [aaI]
theorem Vz:∀ (n:Nat) (last b r:Bs) (T:List Tb),wv n last b=some (T,r)->T.length=n/\b=(T.map kY).flatten++r/\(∀ t∈T,zP t.1=true/\rowP t.2/\t.2.length<=65535/\ltB last t.1=true)/\T.Pairwise λa b=>ltB a.1 b.1=true
 | 0,last,b,r,T,h=>by
  simp only [wv,sjI,pjI] at h;obtain ⟨rfl,rfl⟩:=h;exact ⟨rfl,rfl,by simp,.nil⟩
 | n+1,last,b,r,T,h=>by
  simp only [wv,bsI] at h;obtain ⟨⟨k,b1⟩,h1,⟨c,b2⟩,h2,h⟩:=h;split at h
  ·rename_i hc;simp only [baI] at hc;simp only [bsI,msI] at h;obtain ⟨⟨l,b3⟩,h3,⟨T',r'⟩,h4,h5⟩:=h;cases h5
   obtain ⟨i1,i2,i3,i4⟩:=Ki _ _ _ _ _ h3;obtain ⟨j1,j2⟩:=yE h1;obtain ⟨k1,k2⟩:=XJ h2;obtain ⟨m1,m2,m3,m4⟩:=Vz n k b3 _ T' h4;refine ⟨by simp [m1],?_,?_,List.pairwise_cons.2 ⟨λt ht=>(m3 t ht).2.2.2,m4⟩⟩
   ·rw [List.map_cons,List.flatten_cons,aaI,qhv,<- m2];simp only [];rw [i1,<- i2,<- k2,<- j2]
   ·intro t ht;rcases lcI.1 ht with rfl|ht
    ·exact ⟨hc.2,i3,by simp only [i1]; exact k1,hc.1⟩
    ·obtain ⟨a,b,c,d⟩:=m3 t ht;exact ⟨a,b,c,zT hc.1 d⟩
  ·cases h
end Go.Fx.Tryz
