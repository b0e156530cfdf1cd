/- Parts of a proof: TreeZ, TreeMa, TreeMb. Conditions: none. -/
import Derived.Test.YtnngjdfadfblmaaGreatDoorQd21
namespace Go.Fx.Tryz
open Go Go.Fx
set_option linter.unusedSimpArgs false
set_option linter.unusedVariables false
theorem nodup_ctx {A B B' C:List Nat} (h:(A++(B++C)).Nodup) (hB:B'.Nodup) (hd:∀ q∈A++C,q∉B'):(A++(B'++C)).Nodup:=by
 rw [List.nodup_append,List.nodup_append] at h ⊢
 obtain ⟨h1,⟨_,h2,_⟩,h3⟩:=h
 refine ⟨h1,⟨hB,h2,fun a ha b hb e=>?_⟩,fun a ha b hb e=>?_⟩
 ·subst e; exact hd a (List.mem_append.2 (.inr hb)) ha
 ·subst e
  rcases List.mem_append.1 hb with hb|hb
  ·exact hd a (List.mem_append.2 (.inl ha)) hb
  ·exact h3 a ha a (List.mem_append.2 (.inr hb)) rfl
theorem nodup_out {A B C:List Nat} (h:(A++(B++C)).Nodup):B.Nodup∧∀ q∈A++C,q∉B:=by
 rw [List.nodup_append,List.nodup_append] at h
 obtain ⟨h1,⟨h4,h2,h5⟩,h3⟩:=h
 refine ⟨h4,fun q hq hB=>?_⟩
 rcases List.mem_append.1 hq with hq|hq
 ·exact h3 q hq q (List.mem_append.2 (.inl hB)) rfl
 ·exact h5 q hB q hq rfl
theorem sz_inner {ks:List Bs} {ps:List Nat} (h:sizeN (Nd.nd ks ps)≤256):(ks.map fun k=>3+k.length).sum≤252:=by
 have:4+(ks.map fun k=>3+k.length).sum≤256:=h
 omega
theorem sz_wt {n:Nd} (h:sizeN n≤256):wtN n:=by
 unfold sizeN at h; unfold wtN
 cases hl:n.leaf with
 | true=>rw [hl,if_pos rfl] at h; rw [if_pos rfl]; omega
 | false=>rw [hl,if_neg (by simp)] at h; rw [if_neg (by simp)]; omega
theorem ins_inner {s s1:Nat→Option Bs} {h c p:Nat} {lo lo':Bs} {hi hi':Option Bs} {ks:List Bs} {ps:List Nat} {l0 l1 l2:List Pr} {S0 S1 S2:List Nat} {pts:List Pt} (hr:rightN (Nd.nd ks ps)=true) (hsz:sizeN (Nd.nd ks ps)≤256) (hk:∀ k∈ks,inK lo hi k) (hne:ks≠[])
  (e1:ps=ps.take c++p::ps.drop (c+1)) (hc:c≤ks.length) (e2:FL (Tr s h) lo (ks.take c) (ps.take c) lo' l0 S0) (e4:FR (Tr s h) hi' hi (ks.drop c) (ps.drop (c+1)) l2 S2) (hkeep:∀ q∈S0++S2,s1 q=s q) (hs:∀ q,s1 q≠none→1≤q∧q≤65535) (hP:Pts s1 (Tr s1 h) h p lo' hi' pts l1 S1) :
  Nt s1 (h+1) (withN (Nd.nd ks ps) c pts) lo hi (l0++(l1++l2)) (S0++(S1++S2))∧rightN (withN (Nd.nd ks ps) c pts)=true∧wtN (withN (Nd.nd ks ps) c pts)∧neN (withN (Nd.nd ks ps) c pts):=by
 have i1:ps.length=ks.length+1:=(right_inner hr rfl).2.1
 have f0:=FL_mono (R':=Tr s1 h) _ _ _ _ _ _ (fun p lo hi l T hT ht=>Tr_frame h p lo hi l T (fun q hq=>hkeep q (List.mem_append.2 (.inl (hT q hq)))) ht) e2
 have f2:=FR_mono (R':=Tr s1 h) (fun p lo hi l T hT ht=>Tr_frame h p lo hi l T (fun q hq=>hkeep q (List.mem_append.2 (.inr (hT q hq)))) ht) e4
 have ek:ks=ks.take c++ks.drop c:=(List.take_append_drop _ _).symm
 rcases hP with ⟨rfl,hT⟩|⟨k,q,la,lb,Sa,Sb,rfl,a1,a2,a3,a4,rfl,rfl,_⟩
 ·rw [with1 e1 hc i1]
  refine ⟨⟨ks,ps,rfl,hk,?_⟩,hr,sz_wt hsz,by simpa [neN,Nd.nd] using hne⟩
  have:=Fo_of _ _ _ _ _ _ f0 hT f2
  rwa [List.take_append_drop,← e1] at this
 ·rw [with2 hc i1]
  exact two_inner (p0:=p) (by rw [List.take_append_drop,← e1]; exact hr) (by rw [List.take_append_drop]; exact sz_inner hsz) (by rw [List.take_append_drop]; exact hk) hs f0 f2 a1 a2 a3 a4
def InsQ (x:Wx) (m:Mem) (N h page:Nat) (lo:Bs) (hi:Option Bs) (l:List Pr) (U:List Nat) (r:Value) (m':Mem):Prop :=
 (4≤l.length∧∃ x',XR x' m'∧Kin x x'∧x'.err=8∧Upd x.fp m m') ∨
 ∃ x' ps U',XR x' m'∧Kin x x'∧x'.err=0∧x'.rd≤x.rd+N∧Fu x'.o∧RSl m.next encPt m' r ps∧Pts x'.o.s (Tr x'.o.s h) h page lo hi ps l U'∧Stp x.o.s x'.o.s U U'∧U'.Nodup∧Upd x.fp m m'
theorem Pn.here {o:Wo} {p:Nat} {n:Nd} (h:Pn o.s p n):o.has p=true∧lkL o.L p=some (encN n):=Wo.s_has h.pg
theorem has_rng {o:Wo} (hP:o.P≤160):∀ q,o.s q≠none→1≤q∧q≤65535:=fun q hq=>by
 have:=has_lt (Fu.some hq); omega
theorem few_kids {n:Nd} (h:rightN n=true) (hs:sizeN n≤256):n.kids.length≤n.keys.length+1∧n.kids.length≤200:=by
 have:=size_few h hs
 cases hl:n.leaf with
 | true=>have:=(right_leaf h hl).2.1; rw [this]; simp
 | false=>have:=(right_inner h hl).2.1; omega
theorem put_pts {s:Nat→Option Bs} {n:Nd} {g page:Nat} {lo:Bs} {hi:Option Bs} {ps:List Pt} {l:List Pr} {U:List Nat} (h:Pts s (fun p lo hi l S=>∃ S0,Pn s p n∧Nt s g n lo hi l S0∧S=p::S0) g page lo hi ps l U) :
  Pts s (Tw s g) g page lo hi ps l U∧(neN n→Pts s (Tr s g) g page lo hi ps l U):=by
 rcases h with ⟨e,S0,h1,h2,h3⟩|h
 ·exact ⟨.inl ⟨e,n,S0,h1,h2,h3⟩,fun hn=>.inl ⟨e,Tr_iff.2 ⟨n,S0,h1,hn,h2,h3⟩⟩⟩
 ·exact ⟨.inr h,fun _=>.inr h⟩
set_option maxRecDepth 4000 in
theorem xinsert {key val:Bs} (hk:key≠[]∧key.length≤32) (hv:val.length≤40):∀ (h:Nat) (x:Wx) (m:Mem) (page left:Nat) (lo:Bs) (hi:Option Bs) (l:List Pr) (U:List Nat),XR x m→x.err=0→x.rd+h<1000→Fu x.o→h<left→left≤40 →
  Tr x.o.s h page lo hi l U→U.Nodup→inR lo hi key→W (Call S tab 72 [x.v,.int .i64 (page:Int),.int .i64 (left:Int),str key,str val] m) (InsQ x m (h+1) h page lo hi (putN l key val) U):=by
 intro h
 induction h with
 | zero =>
  intro x m page left lo hi l U hx he hrd hf hle hl40 ht hnd hin
  obtain ⟨n,U',hp,hn,hnt,rfl⟩:=Tr_iff.1 ht
  have hnt0:n=Nd.lf l∧(∀ x∈l,inR lo hi x.1)∧U'=[]:=hnt
  obtain ⟨rfl,hl,rfl⟩:=hnt0
  obtain ⟨hh,hlk⟩:=hp.here
  have hlt:=has_lt hh
  have hP:=hx.wr.hP
  have fpl:=hx.fp_lt
  rw [C72]
  refine W_bind.2 ((xread hx he (by omega) (by omega) (by omega) hh hlk hp.rt hp.sz).mono fun v1 m1 ⟨t1,h1,u1⟩=>?_)
  have x1:=u1.next
  have hT:=t1
  obtain ⟨sp,sk,si,rfl,q1,q2,q3⟩:=t1.ex
  simp -implicitDefEqProofs only [st0,newVal,reduceIte]
  refine W_box (c:=[.bool (Nd.lf l).leaf,sp,sk,si]) rfl rfl (by simp [q1.one.2,q2.one.2,q3.one.2,show (Value.bool (Nd.lf l).leaf).oneCell'=true from rfl]) fun m2 b2 u2 n2=>?_
  have h2:=h1.upd0 u2
  have T2:=hT.upd0 u2
  have e5:=xok h2
  rw [decide_eq_true (show ({ x with rd:=x.rd+1 }:Wx).err=0 from he)] at e5
  have hlf:(Nd.lf l).leaf=true:=rfl
  rw [hlf] at b2
  simp -implicitDefEqProofs only [st0,newVal,reduceIte,e5,fa,ndload b2 (o:=0+0) rfl,nodeB_any b2]
  obtain ⟨_,_,r1,v1⟩:=right_leaf hp.rt rfl
  have hrow:rowP l:=⟨r1,fun p hp=>(v1 p hp).2.2⟩
  obtain ⟨w1,w2,w3,w4⟩:=putN_row hrow hk hv
  have hsz:2+(l.map weighP).sum≤256:=hp.sz
  refine W_bind.2 ((nput_ok key val T2 (wt_fit hp.rt (sz_wt hp.sz)) (by omega)).mono fun v3 m3 ⟨t3,u3⟩=>?_)
  have t3:TN m2.next m3 v3 (Nd.lf (putN l key val)):=t3
  have x3:=u3.next
  have h3:=h2.upd0 u3
  have hnt3:Nt x.o.s 0 (Nd.lf (putN l key val)) lo hi (putN l key val) []:=⟨rfl,fun y hy=>by
   rcases w2 y hy with hy|rfl
   ·exact hl y hy
   ·exact hin,rfl⟩
  have hr3:=rightN_lf w1.1 w1.2
  have u03:Upd x.fp m m3:=((u1.mono (fun b hb _=>by simp at hb; simp [Wx.fp,hb])).then0 u2).then0 u3
  refine W_bind.2 ((put_tree h3 he hf (by rw [show ({ x with rd:=x.rd+1 }:Wx).o=x.o from rfl,hp.pg]; simp) t3 hr3 (by show ((putN l key val).map weighP).sum≤344; omega) hnt3 (by simp) (by simp)).mono fun r4 m4 hq=>?_)
  simp -implicitDefEqProofs only [st0,newVal,reduceIte]
  rcases hq with ⟨a1,x',a2,a3,a4,a5⟩|⟨x',ps,S',a1,a2,a3,a4,a5,a6,a7,a8,a9,a10⟩
  ·exact .inl ⟨big4 hnt3 hr3 a1,x',a2,⟨a3.w,a3.pm,a3.c,a3.p,a3.P,a3.nt,a3.hd,a3.xb,a3.rest,a3.t⟩,a4,u03.trans a5⟩
  ·exact .inr ⟨x',ps,S',a1,⟨a2.w,a2.pm,a2.c,a2.p,a2.P,a2.nt,a2.hd,a2.xb,a2.rest,a2.t⟩,a3,by rw [a4]; exact Nat.le_refl _,a5,a6.low (by omega),(put_pts a7).2 (by simpa [neN,Nd.lf] using w4),a8,a9,u03.trans a10⟩
 | succ h ih =>
  intro x m page left lo hi l U hx he hrd hf hle hl40 ht hnd hin
  obtain ⟨n,U',hp,hn,hnt,rfl⟩:=Tr_iff.1 ht
  obtain ⟨ks,ps,rfl,hks,hfo⟩:=hnt
  have hne:ks≠[]:=by simpa [neN,Nd.nd] using hn
  obtain ⟨hh,hlk⟩:=hp.here
  have hlt:=has_lt hh
  have hP:=hx.wr.hP
  have fpl:=hx.fp_lt
  obtain ⟨_,i1,r1,v1,p1⟩:=right_inner hp.rt rfl
  have i1:ps.length=ks.length+1:=i1
  have r1:risingK ks=true:=r1
  have p1:∀ k∈ps,1≤k∧k≤65535:=p1
  have hcl:=(child_spec key ks r1).2.2
  obtain ⟨p,lo',hi',l0,l1,l2,S0,S1,S2,e1,e2,e3,e4,e5,e6,e7,e8,e9⟩:=Fo_key (Tr_rng x.o.s h) hfo r1 hks hin
  subst e5 e6
  rw [C72]
  refine W_bind.2 ((xread hx he (by omega) (by omega) (by omega) hh hlk hp.rt hp.sz).mono fun v1 m1 ⟨t1,h1,u1⟩=>?_)
  have x1:=u1.next
  have hT:=t1
  obtain ⟨sp,sk,si,rfl,q1,q2,q3⟩:=t1.ex
  have q3:RSl m.next encK m1 si ps:=q3
  simp -implicitDefEqProofs only [st0,newVal,reduceIte]
  refine W_box (c:=[.bool (Nd.nd ks ps).leaf,sp,sk,si]) rfl rfl (by simp [q1.one.2,q2.one.2,q3.one.2,show (Value.bool (Nd.nd ks ps).leaf).oneCell'=true from rfl]) fun m2 b2 u2 n2=>?_
  have h2:=h1.upd0 u2
  have T2:=hT.upd0 u2
  have z5:=xok h2
  rw [decide_eq_true (show ({ x with rd:=x.rd+1 }:Wx).err=0 from he)] at z5
  have hlf:(Nd.nd ks ps).leaf=false:=rfl
  rw [hlf] at b2
  simp -implicitDefEqProofs only [st0,newVal,reduceIte,z5,fa,ndload b2 (o:=0+0) rfl,nodeB_any b2]
  refine W_bind.2 ((child_ok key T2 (wt_fit hp.rt (sz_wt hp.sz))).mono fun v3 m3 ⟨r3,u3⟩=>?_)
  subst r3
  have x3:=u3.next
  have h3:=h2.upd0 u3
  have b3:=keepg u3 (by omega) b2
  have q33:=(q3.upd0 u2).upd0 u3
  have hclt:childN ks key<ps.length:=by omega
  have hget:ps[childN ks key]? = some p:=by
   have:=congrArg (fun t:List Nat=>t[childN ks key]?) e1
   rw [this,List.getElem?_append_right (by rw [List.length_take]; omega),List.length_take,Nat.min_eq_left (by omega),Nat.sub_self]; rfl
  obtain ⟨pk,y1,_,y2⟩:=q33.1.index .i64 hget
  rw [encK_size] at y1
  have y2:=y2 (.int .i64 (p:Int)) rfl
  have esub:arith .sub (.int .i64 (left:Int)) (.int .i64 1)=some (.int .i64 ((left - 1:Nat):Int)):=by rw [i64_sub (by omega) (by omega)]; congr 2; omega
  have y1':runIndexS 1 si (.int .i64 ((childN (Nd.nd ks ps).keys key:Nat):Int))=some pk:=y1
  simp -implicitDefEqProofs only [st0,newVal,reduceIte,fa,ndload b3 (o:=0+3) rfl,y1',y2,esub]
  have u03:Upd x.fp m m3:=((u1.mono (fun b hb _=>by simp at hb; simp [Wx.fp,hb])).then0 u2).then0 u3
  rw [List.nodup_cons] at hnd
  obtain ⟨hpU,hndU⟩:=hnd
  obtain ⟨nd1,nd2⟩:=nodup_out hndU
  refine W_bind.2 ((ih { x with rd:=x.rd+1 } m3 p (left - 1) lo' hi' l1 S1 h3 he (by show x.rd+1+h<1000; omega) hf (by omega) (by omega) e3 nd1 e7).mono fun v4 m4 hq=>?_)
  have eput:putN (l0++(l1++l2)) key val=l0++(putN l1 key val++l2):=put_mid e8 (fun y hy=>⟨ltB_asymm (e9 y hy),(ltB_ne (e9 y hy)).symm⟩)
  rw [eput]
  rcases hq with ⟨a0,x',a1,a2,a3,a4⟩|⟨x',pts,S1',a1,a2,a3,a4,a5,a6,a7,a8,a9,a10⟩
  ·have z6:=xok a1
   rw [decide_eq_false (show ¬ x'.err=0 by omega),a2.v] at z6
   simp -implicitDefEqProofs only [st0,newVal,reduceIte,z6]
   exact .inl ⟨by simp only [List.length_append]; omega,x',a1,⟨a2.w,a2.pm,a2.c,a2.p,a2.P,a2.nt,a2.hd,a2.xb,a2.rest,a2.t⟩,a3,u03.trans a4⟩
  ·have z6:=xok a1
   rw [decide_eq_true a3,a2.v] at z6
   have a2':Kin x x':=⟨a2.w,a2.pm,a2.c,a2.p,a2.P,a2.nt,a2.hd,a2.xb,a2.rest,a2.t⟩
   have a8:Stp x.o.s x'.o.s S1 S1':=a8
   have a10:Upd x.fp m3 m4:=a10
   have x4:=a10.next
   have b4:m4.get m1.next=_:=(a10.same _ (by omega) (fun hm=>by have:=fpl _ hm; omega)).trans b3
   have T4:=((T2.upd0 u3).upd a10 (fun b hb=>fpl b hb))
   have hkp:=few_kids hp.rt hp.sz
   have hu:∀ q∈page::(S0++(S1++S2)),x.o.s q≠none:=Tr_used x.o.s (h+1) page lo hi _ _ ht
   have hkeep:∀ q∈S0++S2,x'.o.s q=x.o.s q∧q∉S1':=fun q hq=>a8.keep (nd2 q hq) (hu q (by
    simp only [List.mem_cons,List.mem_append] at hq ⊢
    rcases hq with h|h<;>simp [h]))
   have hpk:=a8.keep (q:=page) (fun h=>hpU (by simp [h])) (hu page (by simp))
   obtain ⟨f1,f2,f3,f4⟩:=ins_inner (s1:=x'.o.s) hp.rt hp.sz hks hne e1 hcl e2 e4 (fun q hq=>(hkeep q hq).1) (has_rng a1.wr.hP) a7
   simp -implicitDefEqProofs only [st0,newVal,reduceIte,z6,nodeB_any b4]
   have hpl:pts.length≤2:=by
    rcases a7 with ⟨rfl,_⟩|⟨k,q,la,lb,Sa,Sb,rfl,_⟩<;>simp
   refine W_bind.2 ((with_ok (k:=childN ks key) T4 (a6.low (lo':=m.next) (by omega)) hpl (by omega) hkp.1 hkp.2).mono fun v5 m5 ⟨t5,u5⟩=>?_)
   have x5:=u5.next
   have h5:=a1.upd0 u5
   have hev:x.v=x'.v:=a2.v.symm
   rw [hev]
   have u05:Upd x.fp m m5:=(u03.trans a10).then0 u5
   have hnd':(S0++(S1'++S2)).Nodup:=nodup_ctx hndU a9 (fun q hq=>(hkeep q hq).2)
   have hpS:page∉S0++(S1'++S2):=by
    simp only [List.mem_append,not_or] at hpU ⊢
    exact ⟨hpU.1,hpk.2,hpU.2.2⟩
   refine W_bind.2 ((put_tree h5 a3 a5 (by rw [hpk.1]; exact hu page (by simp)) t5 f2 f3 f1 hpS hnd').mono fun r6 m6 hq=>?_)
   simp -implicitDefEqProofs only [st0,newVal,reduceIte]
   have hst:Stp x.o.s x'.o.s (page::(S0++(S1++S2))) (page::(S0++(S1'++S2))):=a8.ctx (T:=page::(S0++S2)) (fun q=>by simp only [List.mem_cons,List.mem_append]; grind) (fun q=>by simp only [List.mem_cons,List.mem_append]; grind)
   rcases hq with ⟨d1,x'',d2,d3,d4,d5⟩|⟨x'',ps',S',d1,d2,d3,d4,d5,d6,d7,d8,d9,d10⟩
   ·exact .inl ⟨big4 f1 f2 d1,x'',d2,a2'.trans d3,d4,by rw [a2'.fp] at d5; exact u05.trans d5⟩
   ·refine .inr ⟨x'',ps',S',d1,a2'.trans d2,d3,?_,d5,d6.low (by omega),(put_pts d7).2 f4,hst.trans d8,d9,by rw [a2'.fp] at d10; exact u05.trans d10⟩
    have a4:x'.rd≤x.rd+1+(h+1):=a4
    omega
end Go.Fx.Tryz
namespace Go.Fx.Tryz
open Go Go.Fx
set_option linter.unusedSimpArgs false
set_option linter.unusedVariables false
theorem er_succ {α:Type} (l:List α) (j:Nat) {i:Nat} (h:i<l.length):(l.take (i+1)).eraseIdx j=(l.take i).eraseIdx j++(if i=j then [] else [l[i]]):=by
 have hl:(l.take i).length=i:=by rw [List.length_take]; omega
 rw [List.take_succ_eq_append_getElem h]
 rcases Nat.lt_trichotomy i j with h1|h1|h1
 ·rw [List.eraseIdx_append_of_length_le (by omega),if_neg (by omega),List.eraseIdx_of_length_le (l:=l.take i) (by omega),List.eraseIdx_of_length_le (by simp; omega)]
 ·subst h1
  rw [List.eraseIdx_append_of_length_le (by omega),if_pos rfl,List.eraseIdx_of_length_le (l:=l.take i) (by omega),hl,Nat.sub_self]; rfl
 ·rw [List.eraseIdx_append_of_lt_length (by omega),if_neg (by omega)]
theorem _root_.Go.Fx.TN.keepO {lo:Nat} {m m':Mem} {fp:List Nat} {b:Bool} {sp sk si:Value} {n:Nd} (h:TN lo m (nodeV b sp sk si) n) (hu:Upd fp m m') (hf:∀ c∈(blkOf sp++blkOf sk)++blkOf si,c∉fp):TN lo m' (nodeV b sp sk si) n:=by
 obtain ⟨tp,tk,ti,e,h1,h2,h3⟩:=h.ex
 injection e with e
 injection e with e
 injection e with e1 e
 injection e with e2 e
 injection e with e3 e
 injection e with e4 e
 injection e1 with e1
 subst e1 e2 e3 e4
 exact ⟨_,_,_,rfl,h1.keep hu (fun c hc=>hf c (by simp [hc])),h2.keep hu (fun c hc=>hf c (by simp [hc])),h3.keep hu (fun c hc=>hf c (by simp [hc]))⟩
structure Me (lo:Nat) (ks:List Bs) (ps:List Nat) (nb:Nat) (sp sk si:Value) (m:Mem):Prop where
 gn:m.get nb=some (nodeB false sp sk si)
 k2:RSl lo encS m sk ks
 k3:RSl lo encK m si ps
theorem Me.keep {lo:Nat} {ks:List Bs} {ps:List Nat} {nb:Nat} {sp sk si:Value} {m m':Mem} (h:Me lo ks ps nb sp sk si m) {fp:List Nat} (hu:Upd fp m m') (hl:nb<m.next) (hf:nb∉fp∧(∀ b∈blkOf sk,b∉fp)∧∀ b∈blkOf si,b∉fp):Me lo ks ps nb sp sk si m' :=
 ⟨(hu.same _ hl hf.1).trans h.gn,h.k2.keep hu hf.2.1,h.k3.keep hu hf.2.2⟩
theorem Me.upd0 {lo:Nat} {ks:List Bs} {ps:List Nat} {nb:Nat} {sp sk si:Value} {m m':Mem} (h:Me lo ks ps nb sp sk si m) (hu:Upd [] m m') (hl:nb<m.next):Me lo ks ps nb sp sk si m' :=
 h.keep hu hl ⟨by simp,fun _ _=>by simp,fun _ _=>by simp⟩
theorem idxK {lo:Nat} {m:Mem} {si:Value} {ps:List Nat} (h:RSl lo encK m si ps) {i p:Nat} (hi:ps[i]? = some p):∃ pk,runIndexS 1 si (.int .i64 (i:Int))=some pk∧∀ M,RSl lo encK M si ps→runLoad1 pk M=some (.int .i64 (p:Int)):=by
 obtain ⟨b,off,h1,h2⟩:=h.1.at .i64 hi
 rw [encK_size] at h1
 refine ⟨_,h1,fun M hM=>?_⟩
 have:=(h2 M hM.1).2 0 (.int .i64 (p:Int)) rfl
 rwa [Nat.add_zero] at this
theorem idxS {lo:Nat} {m:Mem} {sk:Value} {ks:List Bs} (h:RSl lo encS m sk ks) {i:Nat} {k:Bs} (hi:ks[i]? = some k):∃ pk,runIndexS 1 sk (.int .i64 (i:Int))=some pk∧∀ M,RSl lo encS M sk ks→runLoad1 pk M=some (str k):=by
 obtain ⟨b,off,h1,h2⟩:=h.1.at .i64 hi
 rw [encS_size] at h1
 refine ⟨_,h1,fun M hM=>?_⟩
 have:=(h2 M hM.1).2 0 (str k) rfl
 rwa [Nat.add_zero] at this
theorem mend_loop {lo nb ob j:Nat} {ks:List Bs} {ps:List Nat} {sp sk si x0 x8 x12:Value} {m0:Mem} {Q:Value→Mem→Prop} (hl:ps.length=ks.length+1) (hps:ps.length≤200) (hj:j≤200) (hm:Me lo ks ps nb sp sk si m0)
  (hb:(nb<m0.next∧nb≠ob)∧(∀ b∈blkOf sk,b≠ob)∧∀ b∈blkOf si,b≠ob)
  (hQ:∀ m kv iv,Ou m0 ob m kv iv (ks.eraseIdx j) (ps.eraseIdx (j+1))→W (P106_3 x0 (.int .i64 (j:Int)) (.pointer (some ⟨nb,0,none⟩)) x8 x12 (.pointer (some ⟨ob,0,none⟩)) m) Q) :
  ∀ (d i:Nat) (m:Mem) (kv iv:Value),ps.length - i=d→i≤ps.length→Ou m0 ob m kv iv ((ks.take (i - 1)).eraseIdx j) ((ps.take i).eraseIdx (j+1)) →
  W (P106_1 x0 (.int .i64 (j:Int)) (.pointer (some ⟨nb,0,none⟩)) x8 x12 (.pointer (some ⟨ob,0,none⟩)) si (.int .i64 (ps.length:Int)) (.int .i64 (i:Int)) m) Q:=by
 intro d
 induction d with
 | zero =>
  intro i m kv iv hd hi h
  obtain rfl:i=ps.length:=by omega
  rw [P106_1_eq]
  simp -implicitDefEqProofs only [st0,newVal,reduceIte,Int.lt_irrefl]
  rw [List.take_of_length_le (by omega),List.take_of_length_le (by omega)] at h
  exact hQ m kv iv h
 | succ d ih =>
  intro i m kv iv hd hi h
  have hlt:i<ps.length:=by omega
  have he:Me lo ks ps nb sp sk si m:=hm.keep h.up hb.1.1 ⟨by simp; exact hb.1.2,fun b hb'=>by simp; exact hb.2.1 b hb',fun b hb'=>by simp; exact hb.2.2 b hb'⟩
  have e1:((i:Int)<(ps.length:Int))=True:=eq_true (by omega)
  obtain ⟨p,h1,h2⟩:=idxK he.k3 (getI hlt)
  have h2:=h2 m he.k3
  have hs:=er_succ ps (j+1) hlt
  have hadd:arith .add (.int .i64 (j:Int)) (.int .i64 1)=some (.int .i64 ((j+1:Nat):Int)):=i64_succ (by omega)
  have hok:((ks.take (i - 1)).eraseIdx j).length≤400:=by
   have:=List.length_eraseIdx_le (ks.take (i - 1)) j
   rw [List.length_take] at this; omega
  have hoi:((ps.take i).eraseIdx (j+1)).length≤400:=by
   have:=List.length_eraseIdx_le (ps.take i) (j+1)
   rw [List.length_take] at this; omega
  rw [P106_1_eq]
  by_cases hij:i=j+1
  ·have e2:((i:Int)=((j+1:Nat):Int))=True:=eq_true (by omega)
   simp -implicitDefEqProofs only [st0,newVal,reduceIte,e1,h1,h2,hadd,e2,i64_succ (i:=i) (by omega)]
   refine ih (i+1) m kv iv (by omega) hlt ?_
   rw [hs,if_pos hij,List.append_nil]
   have hk:=er_succ ks j (i:=i - 1) (by omega)
   rw [if_pos (by omega),List.append_nil,show i - 1+1=i+1 - 1 by omega] at hk
   rw [hk]; exact h
  ·have e2:((i:Int)=((j+1:Nat):Int))=False:=eq_false (by omega)
   rw [if_neg hij] at hs
   have tail:∀ {M:Mem} {kv iv:Value},Ou m0 ob M kv iv ((ks.take (i+1 - 1)).eraseIdx j) ((ps.take i).eraseIdx (j+1)) →
     W (P106_2 x0 (.int .i64 (j:Int)) (.pointer (some ⟨nb,0,none⟩)) x8 x12 (.pointer (some ⟨ob,0,none⟩)) (.int .i64 (ps[i]:Int)) si (.int .i64 (ps.length:Int)) (.int .i64 (i:Int)) M) Q:=by
    intro M kv iv ho
    rw [P106_2_eq]
    simp -implicitDefEqProofs only [st0,newVal,reduceIte,fa,ho.ld.2,fillK]
    refine app_new (E:=encK) [ps[i]] (by decide) ho.ti (by simp only [List.length_cons,List.length_nil]; omega) fun v2 m2 q1 q2 q3=>?_
    obtain ⟨g2,o2⟩:=ho.addI q1 q2 q3
    simp -implicitDefEqProofs only [st0,newVal,reduceIte,fa,nodeB_si g2 q1.one,i64_succ (i:=i) (by omega)]
    refine ih (i+1) _ kv v2 (by omega) hlt ?_
    rw [hs]; exact o2
   by_cases h0:i=0
   ·have e3:((0:Int)<(i:Int))=False:=eq_false (by omega)
    simp -implicitDefEqProofs only [st0,newVal,reduceIte,e1,h1,h2,hadd,e2,e3]
    refine tail (kv:=kv) (iv:=iv) ?_
    subst h0
    exact h
   ·have e3:((0:Int)<(i:Int))=True:=eq_true (by omega)
    have hlk:i - 1<ks.length:=by omega
    obtain ⟨pk,y1,y2⟩:=idxS he.k2 (getI hlk)
    have y2:=y2 m he.k2
    have e4:arith .sub (.int .i64 (i:Int)) (.int .i64 1)=some (.int .i64 ((i - 1:Nat):Int)):=by rw [i64_sub (by omega) (by omega)]; congr 2; omega
    have hk:=er_succ ks j hlk
    rw [if_neg (by omega),show i - 1+1=i+1 - 1 by omega] at hk
    simp -implicitDefEqProofs only [st0,newVal,reduceIte,e1,h1,h2,hadd,e2,e3,fa,h.ld.1,ndload he.gn (o:=0+2) rfl,e4,y1,y2,fillS]
    refine app_new (E:=encS) [ks[i - 1]] (by decide) h.tk (by simp only [List.length_cons,List.length_nil]; omega) fun v2 m2 q1 q2 q3=>?_
    obtain ⟨g2,o2⟩:=h.addK q1 q2 q3
    simp -implicitDefEqProofs only [st0,newVal,reduceIte,fa,nodeB_sk g2 q1.one]
    refine chkN (fun r hr=>?_) (tail (by rw [hk]; exact o2))
    simp only [List.mem_cons,List.not_mem_nil,or_false] at hr
    rcases hr with rfl|rfl|rfl
    ·exact okR fun k _ hk=>by
      have:k=0∨k=1:=by omega
      rcases this with rfl|rfl
      ·exact ⟨_,rfl,h.ld.1⟩
      ·exact ⟨_,rfl,(h.upd0 (Upd.add _ _ _)).ld.1⟩
    ·exact okR fun k _ hk=>by
      obtain rfl:k=0:=by omega
      exact ⟨_,rfl,ndload he.gn rfl⟩
    ·exact okR fun k _ hk=>by
      obtain rfl:k=0:=by omega
      exact ⟨_,rfl,y2⟩
section
variable {x:Wx} {m:Mem}
theorem fillPt2 (a:Bs) (p:Nat) (b:Bs) (q:Nat):afill [.string ⟨#[]⟩,.int .i64 0,.string ⟨#[]⟩,.int .i64 0] [(0,2,.agg [str a,.int .i64 (p:Int)].toArray),(2,2,.agg [str b,.int .i64 (q:Int)].toArray)]=some (encPt.flat [(a,p),(b,q)]):=by kernel_rfl
set_option maxRecDepth 4000 in
theorem mend_tail {lo nb ob bb rb j p1 p2:Nat} {sp sk si kv iv bp bk bi:Value} {ks:List Bs} {ps:List Nat} {ok:List Bs} {oi:List Nat} {n:Nd} (h:XR x m) (he:x.err=0) (hfp:∀ b∈x.fp,b<lo) (hcp:x.o.c<lo∧x.o.p<lo) (hlo:lo≤m.next)
    (hb:(lo≤nb∧nb<m.next)∧(lo≤ob∧ob<m.next)∧(lo≤bb∧bb<m.next)∧(lo≤rb∧rb<m.next)) (hrk:(∀ b∈blkOf kv,b≠rb)∧∀ b∈blkOf iv,b≠rb)
    (hm:Me lo ks ps nb sp sk si m) (go:m.get ob=some (nodeB false (.slice none 0 0) kv iv)) (tk:RSl lo encS m kv ok) (ti:RSl lo encK m iv oi)
    (gb:m.get bb=some (nodeB n.leaf bp bk bi)) (tb:TN lo m (nodeV n.leaf bp bk bi) n) (gr:m.get rb=some (nodeB false (.slice none 0 0) (.slice none 0 0) (.slice none 0 0)))
    (hj1:ps[j]? = some p1) (hj2:ps[j+1]? = some p2) (hj:j≤200) (hh1:x.o.has p1=true) (hh2:x.o.has p2=true) (hne:p1≠p2) (hr:rightN n=true) (hw:wtN n)
    (hs:¬ sizeN n≤256→(if n.leaf then 2≤n.pairs.length else 3≤n.keys.length∧n.kids.length=n.keys.length+1)∧rightN (splitN n).1=true∧sizeN (splitN n).1≤256∧rightN (splitN n).2.1=true∧sizeN (splitN n).2.1≤256)
    (hol:oi.length≤ok.length+1∧oi.length≤200) :
    W (P106_3 x.v (.int .i64 (j:Int)) (.pointer (some ⟨nb,0,none⟩)) (.pointer (some ⟨rb,0,none⟩)) (.pointer (some ⟨bb,0,none⟩)) (.pointer (some ⟨ob,0,none⟩)) m) fun r m'=>Upd (rb::x.fp) m m' ∧
      ((sizeN n≤256∧TN lo m' r (Nd.nd ok oi)∧∃ c,XR { x with o:={ x.o with u:=turnU x.o.u p2,L:=upL x.o.L p1 (encN n) c } } m') ∨
       (¬ sizeN n≤256∧TN lo m' r (withN (Nd.nd ok oi) j [([],p1),((splitN n).2.2,p2)])∧∃ c1 c2,XR { x with o:={ x.o with L:=upL (upL x.o.L p1 (encN (splitN n).1) c1) p2 (encN (splitN n).2.1) c2 } } m')):=by
  obtain ⟨⟨b1,b2⟩,⟨b3,b4⟩,⟨b5,b6⟩,⟨b7,b8⟩⟩:=hb
  have hP:=h.wr.hP
  have l1:=has_lt hh1
  have l2:=has_lt hh2
  have nf:∀ {b:Nat},lo≤b→b∉x.fp:=fun hb hm=>by have:=hfp _ hm; omega
  have sub1:∀ b,b∈[x.o.pm,x.xb]→b∈x.fp:=fun b hb=>List.mem_cons.2 (.inr hb)
  have sub2:∀ b,b∈[x.o.w,x.xb]→b∈x.fp:=fun b hb=>by simp only [List.mem_cons,List.not_mem_nil,or_false,Wx.fp] at hb ⊢; omega
  have subr:∀ b,b∈x.fp→b∈rb::x.fp:=fun b hb=>List.mem_cons.2 (.inr hb)
  have mk:∀ {M M':Mem},m.next≤M.next→Me lo ks ps nb sp sk si M→Upd x.fp M M'→Me lo ks ps nb sp sk si M':=fun hn h hu=>h.keep hu (by omega) ⟨nf b1,fun b hb=>nf (h.k2.2 b hb).1,fun b hb=>nf (h.k3.2 b hb).1⟩
  have hadd:arith .add (.int .i64 (j:Int)) (.int .i64 1)=some (.int .i64 ((j+1:Nat):Int)):=i64_succ (by omega)
  obtain ⟨pk1,i1,i1'⟩:=idxK hm.k3 hj1
  obtain ⟨pk2,i2,i2'⟩:=idxK hm.k3 hj2
  rw [P106_3_eq]
  simp -implicitDefEqProofs only [st0,newVal,reduceIte,nodeB_any gb]
  refine W_bind.2 ((size_ok tb (wt_fit hr hw)).mono fun v1 m1 ⟨r1,u1⟩=>?_)
  subst r1
  have x1:=u1.next
  have h1:=h.upd0 u1
  have hm1:=hm.upd0 u1 b2
  have go1:=keepg u1 b4 go
  have gb1:=keepg u1 b6 gb
  have gr1:=keepg u1 b8 gr
  have tb1:=tb.upd0 u1
  have tk1:=tk.upd0 u1
  have ti1:=ti.upd0 u1
  by_cases hsz:sizeN n≤256
  · have e1:(((sizeN n:Nat):Int)≤256)=True:=eq_true (by omega)
    simp -implicitDefEqProofs only [st0,newVal,reduceIte,e1,fa,ndload hm1.gn (o:=0+3) rfl,i1,i1' m1 hm1.k3,nodeB_any gb1]
    refine W_bind.2 ((xwrite h1 he (by omega) tb1 hh1 hr hsz).mono fun v2 m2 ⟨r2,⟨c,h2⟩,u2⟩=>?_)
    have x2:=u2.next
    have u2:Upd x.fp m1 m2:=u2.mono fun b hb _=>sub1 b hb
    have hm2:=mk x1 hm1 u2
    have go2:=(u2.same ob (by omega) (nf b3)).trans go1
    have gr2:=(u2.same rb (by omega) (nf b7)).trans gr1
    simp -implicitDefEqProofs only [st0,newVal,reduceIte,fa,ndload hm2.gn (o:=0+3) rfl,hadd,i2,i2' m2 hm2.k3]
    refine W_bind.2 ((xdrop h2 he (by omega) (by show Wo.has x.o p2=true; exact hh2)).mono fun v3 m3 ⟨r3,h3,u3⟩=>?_)
    have x3:=u3.next
    have u3:Upd x.fp m2 m3:=u3.mono fun b hb _=>sub2 b hb
    have go3:=(u3.same ob (by omega) (nf b3)).trans go2
    have gr3:=(u3.same rb (by omega) (nf b7)).trans gr2
    have tk3:=(tk1.upd u2 hfp).upd u3 hfp
    have ti3:=(ti1.upd u2 hfp).upd u3 hfp
    simp -implicitDefEqProofs only [st0,newVal,reduceIte,nodeB_any go3,nodeB_all gr3 false (sp':=.slice none 0 0) (sk':=kv) (si':=iv) rfl tk3.one.2 ti3.one.2,nodeB_any (Mem.get_put_self m3 rb _)]
    have hp:Upd [rb] m3 (m3.put rb (nodeB false (.slice none 0 0) kv iv)):=Upd.put _ _ (by simp)
    refine ⟨(((u1.nil'.trans (u2.mono fun b hb _=>subr b hb)).trans (u3.mono fun b hb _=>subr b hb))).trans (hp.mono fun b hb _=>by simp at hb; simp [hb]),.inl ⟨hsz,⟨_,_,_,rfl,RSl.nil _ _ _,tk3.keep hp (fun b hb=>by simp; exact hrk.1 b hb),ti3.keep hp (fun b hb=>by simp; exact hrk.2 b hb)⟩,c,?_⟩⟩
    refine h3.upd hp fun b hb=>?_
    simp at hb; subst hb
    have w1:=nf b7
    have fw:=h.wr.lw; have fc:=h.wr.lc; have fpp:=h.wr.lp
    simp only [Wx.fp,List.mem_cons,List.not_mem_nil,or_false,not_or] at w1
    refine ⟨w1.2.2,w1.1,w1.2.1,?_,?_⟩
    · show b≠x.o.c
      omega
    · show b≠x.o.p
      omega
  · obtain ⟨s1,s2,s3,s4,s5⟩:=hs hsz
    have e1:(((sizeN n:Nat):Int)≤256)=False:=eq_false (by omega)
    simp -implicitDefEqProofs only [st0,newVal,reduceIte,e1,nodeB_any gb1]
    refine W_bind.2 ((nsplit_ok tb1 (wt_fit hr hw) s1).mono fun v2 m2 ⟨⟨va,vb,r2,ta,tb'⟩,u2⟩=>?_)
    subst r2
    have x2:=u2.next
    obtain ⟨pa,ka,ia,rfl,a1,a2,a3⟩:=ta.ex
    obtain ⟨pb,kb,ib,rfl,c1,c2,c3⟩:=tb'.ex
    simp -implicitDefEqProofs only [st0,newVal,reduceIte,(ex3 _ _ _).1,(ex3 _ _ _).2.1,(ex3 _ _ _).2.2]
    have u4:Upd [] m2 (m2.add (nodeB false (.slice none 0 0) (.slice none 0 0) (.slice none 0 0))):=Upd.add _ _ _
    have g4:(m2.add (nodeB false (.slice none 0 0) (.slice none 0 0) (.slice none 0 0))).get m2.next=some (nodeB false (.slice none 0 0) (.slice none 0 0) (.slice none 0 0)):=Mem.get_add_self ..
    have n4:(m2.add (nodeB false (.slice none 0 0) (.slice none 0 0) (.slice none 0 0))).next=m2.next+1:=rfl
    generalize (m2.add (nodeB false (.slice none 0 0) (.slice none 0 0) (.slice none 0 0)))=m4 at u4 g4 n4
    have u5:Upd [] m4 (m4.add (nodeB false (.slice none 0 0) (.slice none 0 0) (.slice none 0 0))):=Upd.add _ _ _
    have k5:(m4.add (nodeB false (.slice none 0 0) (.slice none 0 0) (.slice none 0 0))).get m4.next=some (nodeB false (.slice none 0 0) (.slice none 0 0) (.slice none 0 0)):=Mem.get_add_self ..
    have n5:(m4.add (nodeB false (.slice none 0 0) (.slice none 0 0) (.slice none 0 0))).next=m4.next+1:=rfl
    have g5:=keepg u5 (by omega) g4
    generalize (m4.add (nodeB false (.slice none 0 0) (.slice none 0 0) (.slice none 0 0)))=m5 at u5 k5 n5 g5
    simp -implicitDefEqProofs only [st0,newVal,reduceIte,nodeB_all g5 _ a1.one.2 a2.one.2 a3.one.2]
    have u6:Upd [m2.next] m5 (m5.put m2.next (nodeB (splitN n).1.leaf pa ka ia)):=Upd.put _ _ (by simp)
    have g6:(m5.put m2.next (nodeB (splitN n).1.leaf pa ka ia)).get m2.next=_:=Mem.get_put_self ..
    have k6:(m5.put m2.next (nodeB (splitN n).1.leaf pa ka ia)).get m4.next=_:=(Mem.get_put_other m5 _ (by omega)).trans k5
    generalize (m5.put m2.next (nodeB (splitN n).1.leaf pa ka ia))=m6 at u6 g6 k6
    simp -implicitDefEqProofs only [st0,newVal,reduceIte,nodeB_all k6 _ c1.one.2 c2.one.2 c3.one.2]
    have u7:Upd [m4.next] m6 (m6.put m4.next (nodeB (splitN n).2.1.leaf pb kb ib)):=Upd.put _ _ (by simp)
    have k7:(m6.put m4.next (nodeB (splitN n).2.1.leaf pb kb ib)).get m4.next=_:=Mem.get_put_self ..
    have g7:(m6.put m4.next (nodeB (splitN n).2.1.leaf pb kb ib)).get m2.next=_:=(Mem.get_put_other m6 _ (by omega)).trans g6
    generalize (m6.put m4.next (nodeB (splitN n).2.1.leaf pb kb ib))=m7 at u7 g7 k7
    have x6:=u6.next
    have x7:=u7.next
    have u27:Upd [] m2 m7:=(((u4.then0 u5).then' u6 (fun b hb=>.inr (by simp at hb; omega))).then' u7 (fun b hb=>.inr (by simp at hb; omega)))
    have ta7:=ta.upd0 u27
    have tb7:=tb'.upd0 u27
    have u17:=u2.then0 u27
    have h7:=h1.upd0 u17
    have hm7:=hm1.upd0 u17 (by omega)
    have go7:=keepg u17 (by omega) go1
    have gr7:=keepg u17 (by omega) gr1
    have tk7:=tk1.upd0 u17
    have ti7:=ti1.upd0 u17
    have nf2:∀ {b:Nat},m1.next≤b→b∉x.fp:=fun hb=>nf (by omega)
    have hfp1:∀ b∈x.fp,b<m1.next:=fun b hb=>by have:=hfp b hb; omega
    simp -implicitDefEqProofs only [st0,newVal,reduceIte,fa,ndload hm7.gn (o:=0+3) rfl,i1,i1' m7 hm7.k3,nodeB_any g7]
    refine W_bind.2 ((xwrite h7 he (by omega) ta7 hh1 s2 s3).mono fun v8 m8 ⟨_,⟨d1,h8⟩,u8⟩=>?_)
    have x8:=u8.next
    have u8:Upd x.fp m7 m8:=u8.mono fun b hb _=>sub1 b hb
    have hm8:=mk (by omega) hm7 u8
    have go8:=(u8.same ob (by omega) (nf b3)).trans go7
    have gr8:=(u8.same rb (by omega) (nf b7)).trans gr7
    have k8:=(u8.same m4.next (by omega) (nf (by omega))).trans k7
    simp -implicitDefEqProofs only [st0,newVal,reduceIte,fa,ndload hm8.gn (o:=0+3) rfl,hadd,i2,i2' m8 hm8.k3,nodeB_any k8]
    refine W_bind.2 ((xwrite h8 he (by omega) (tb7.upd u8 hfp1) (by show Wo.has x.o p2=true; exact hh2) s4 s5).mono fun v9 m9 ⟨_,⟨d2,h9⟩,u9⟩=>?_)
    have x9:=u9.next
    have u9:Upd x.fp m8 m9:=u9.mono fun b hb _=>sub1 b hb
    have hm9:=mk (by omega) hm8 u9
    have go9:=(u9.same ob (by omega) (nf b3)).trans go8
    have gr9:=(u9.same rb (by omega) (nf b7)).trans gr8
    have tk9:=(tk7.upd u8 hfp).upd u9 hfp
    have ti9:=(ti7.upd u8 hfp).upd u9 hfp
    have f1:=fillPt [] p1
    rw [← str_nil] at f1
    have f2:=fillPt (splitN n).2.2 p2
    have f3:=fillPt2 [] p1 (splitN n).2.2 p2
    rw [← str_nil] at f3
    simp -implicitDefEqProofs only [st0,newVal,reduceIte,nodeB_any go9,fa,ndload hm9.gn (o:=0+3) rfl,i1,i1' m9 hm9.k3,f1,hadd,i2,i2' m9 hm9.k3,f2,f3]
    have ua:Upd [] m9 (m9.add ⟨.cells (encPt.flat [(([]:Bs),p1),((splitN n).2.2,p2)]) 180,false,none⟩):=Upd.add _ _ _
    have na:(m9.add ⟨.cells (encPt.flat [(([]:Bs),p1),((splitN n).2.2,p2)]) 180,false,none⟩).next=m9.next+1:=rfl
    have tf:TAp encPt 180 (m9.add ⟨.cells (encPt.flat [(([]:Bs),p1),((splitN n).2.2,p2)]) 180,false,none⟩) (.slice (some ⟨m9.next,0,none⟩) [(([]:Bs),p1),((splitN n).2.2,p2)].length [(([]:Bs),p1),((splitN n).2.2,p2)].length) [([],p1),((splitN n).2.2,p2)]:=TAp.fresh m9 _
    have hqm:m9.next<(m9.add ⟨.cells (encPt.flat [(([]:Bs),p1),((splitN n).2.2,p2)]) 180,false,none⟩).next:=by omega
    generalize (m9.add ⟨.cells (encPt.flat [(([]:Bs),p1),((splitN n).2.2,p2)]) 180,false,none⟩)=m10 at ua na tf
    have go10:=keepg ua (by omega) go9
    have tv:TN lo m10 (nodeV false (.slice none 0 0) kv iv) (Nd.nd ok oi):=⟨_,_,_,rfl,RSl.nil _ _ _,tk9.upd0 ua,ti9.upd0 ua⟩
    refine W_bind.2 ((with_ok (k:=j) tv (tf.rsl (fun b hb=>by simp [blkOf] at hb; omega)) (Nat.le_refl 2) (by omega) hol.1 hol.2).mono fun v11 m11 ⟨t11,u11⟩=>?_)
    have x11:=u11.next
    have hT:=t11
    obtain ⟨wp,wk,wi,rfl,d3,d4,d5⟩:=t11.ex
    have gr11:=keepg (ua.then0 u11) (by omega) gr9
    have hlf:(withN (Nd.nd ok oi) j [([],p1),((splitN n).2.2,p2)]).leaf=false:=rfl
    rw [hlf] at hT
    rw [hlf]
    simp -implicitDefEqProofs only [st0,newVal,reduceIte,nodeB_all gr11 false d3.one.2 d4.one.2 d5.one.2,nodeB_any (Mem.get_put_self m11 rb _)]
    have hp:Upd [rb] m11 (m11.put rb (nodeB false wp wk wi)):=Upd.put _ _ (by simp)
    refine chkN (fun r hr=>?_) (W_some.2 ⟨?_,.inr ⟨hsz,((hT.upd hp (fun b hb=>by simp at hb; omega)).low (by omega)),d1,d2,?_⟩⟩)
    · simp only [List.mem_cons,List.not_mem_nil,or_false] at hr
      rcases hr with rfl|rfl|rfl|rfl|rfl
      · exact okR fun k _ hk=>by
          have:k=0∨k=1:=by omega
          rcases this with rfl|rfl
          · exact ⟨_,rfl,nodeB_any go9⟩
          · exact ⟨_,rfl,nodeB_any go10⟩
      · exact okR fun k _ hk=>by
          obtain rfl:k=0:=by omega
          exact ⟨_,rfl,ndload hm9.gn rfl⟩
      · exact okR fun k _ hk=>by
          obtain rfl:k=0:=by omega
          exact ⟨_,rfl,i1' m9 hm9.k3⟩
      · exact okR fun k _ hk=>by
          obtain rfl:k=0:=by omega
          exact ⟨_,rfl,ndload hm9.gn rfl⟩
      · exact okR fun k _ hk=>by
          obtain rfl:k=0:=by omega
          exact ⟨_,rfl,i2' m9 hm9.k3⟩
    · have u19:Upd x.fp m1 m9:=(u17.nil'.trans u8).trans u9
      exact ((((u1.nil' (fp:=x.fp)).trans u19).then0 (ua.then0 u11)).mono fun b hb _=>subr b hb).trans (hp.mono fun b hb _=>by simp at hb; simp [hb])
    · refine ((h9.upd0 ua).upd0 u11).upd hp fun b hb=>?_
      simp at hb; subst hb
      have w1:=nf b7
      simp only [Wx.fp,List.mem_cons,List.not_mem_nil,or_false,not_or] at w1
      refine ⟨w1.2.2,w1.1,w1.2.1,?_,?_⟩
      · show b≠x.o.c
        omega
      · show b≠x.o.p
        omega
end
end Go.Fx.Tryz
namespace Go.Fx.Tryz
open Go Go.Fx
set_option linter.unusedSimpArgs false
set_option linter.unusedVariables false
def ownW (n:Nd):Nat:=if n.leaf then (n.pairs.map weighP).sum else (n.keys.map fun k=>3+k.length).sum
theorem ownW_size {n:Nd} (h:sizeN n≤256):ownW n≤254∧(n.leaf=false→ownW n≤252):=by
 unfold sizeN at h; unfold ownW
 cases hl:n.leaf with
 | true=>rw [hl,if_pos rfl] at h; rw [if_pos rfl]; exact ⟨by omega,fun h=>by cases h⟩
 | false=>rw [hl,if_neg (by simp)] at h; rw [if_neg (by simp)]; exact ⟨by omega,fun _=>by omega⟩
theorem poor_own {n:Nd} (h:poorN n=true):ownW n≤87:=by
 unfold poorN sizeN at h
 unfold ownW
 cases hl:n.leaf with
 | true =>
  simp only [hl,if_true,Bool.or_eq_true,decide_eq_true_eq,Bool.true_and,Bool.not_true,Bool.false_and,Bool.false_eq_true,or_false] at h ⊢
  rcases h with h|h
  ·omega
  ·rw [List.isEmpty_iff.1 h]; simp
 | false =>
  simp only [hl,Bool.false_eq_true,if_false,Bool.or_eq_true,decide_eq_true_eq,Bool.false_and,Bool.not_false,Bool.true_and,false_or] at h ⊢
  rcases h with (h|h)|h
  ·omega
  ·cases h
  ·rw [List.isEmpty_iff.1 h]; simp
theorem rich_ne {n:Nd} (h:poorN n=false):neN n:=by
 unfold poorN at h
 unfold neN
 cases hl:n.leaf with
 | true =>
  rw [hl] at h
  simp only [Bool.or_eq_false_iff,Bool.true_and] at h
  rw [if_pos rfl]
  intro e; rw [e] at h; simp at h
 | false =>
  rw [hl] at h
  simp only [Bool.or_eq_false_iff,Bool.not_false,Bool.true_and] at h
  rw [if_neg (by simp)]
  intro e; rw [e] at h; simp at h
structure Adj (s:Nat→Option Bs) (h:Nat) (lo:Bs) (hi:Option Bs) (ks:List Bs) (ps:List Nat) (l:List Pr) (U:List Nat) (j:Nat) (na nb:Nd) (key:Bs) (p1 p2:Nat) (kc kd:List Bs) (pc pd:List Nat) (lo1:Bs) (hi1:Option Bs) (m0 la lb m2:List Pr) (T0 Ta Tb T2:List Nat):Prop where
 ek:ks=kc++key::kd
 ep:ps=pc++p1::p2::pd
 jc:kc.length=j
 jp:pc.length=j
 fl:FL (Tr s h) lo kc pc lo1 m0 T0
 a1:Pn s p1 na
 a2:Nt s h na lo1 (some key) la Ta
 b1:Pn s p2 nb
 b2:Nt s h nb key hi1 lb Tb
 fr:FR (Tr s h) hi1 hi kd pd m2 T2
 ne:neN na∨neN nb
 po:poorN na=true∨poorN nb=true
 el:l=m0++((la++lb)++m2)
 eU:U=T0++(((p1::Ta)++(p2::Tb))++T2)
theorem adj {s:Nat→Option Bs} {h c p:Nat} {lo lo':Bs} {hi hi':Option Bs} {ks:List Bs} {ps:List Nat} {l0 l1 l2:List Pr} {U0 U1 U2:List Nat} {n:Nd} (hne:ks≠[]) (hc:c≤ks.length) (hl:ps.length=ks.length+1) (e1:ps=ps.take c++p::ps.drop (c+1))
  (h0:FL (Tr s h) lo (ks.take c) (ps.take c) lo' l0 U0) (hp:Pn s p n) (hn:Nt s h n lo' hi' l1 U1) (h2:FR (Tr s h) hi' hi (ks.drop c) (ps.drop (c+1)) l2 U2) (hpo:poorN n=true) :
  ∃ na nb key p1 p2 kc kd pc pd lo1 hi1 m0 la lb m2 T0 Ta Tb T2,Adj s h lo hi ks ps (l0++(l1++l2)) (U0++((p::U1)++U2)) (if 0<c then c - 1 else c) na nb key p1 p2 kc kd pc pd lo1 hi1 m0 la lb m2 T0 Ta Tb T2:=by
 by_cases h0c:0<c
 ·rw [if_pos h0c]
  have q1:c - 1<ks.length:=by omega
  have q2:c - 1<ps.length:=by omega
  have t1:ks.take c=ks.take (c - 1)++[ks[c - 1]]:=by rw [← List.take_succ_eq_append_getElem q1]; congr 1; omega
  have t2:ps.take c=ps.take (c - 1)++[ps[c - 1]]:=by rw [← List.take_succ_eq_append_getElem q2]; congr 1; omega
  rw [t1,t2] at h0
  obtain ⟨rfl,lo1,m1,m2,T1,T2,f1,f2,rfl,rfl⟩:=FL_last _ _ _ _ _ _ h0
  obtain ⟨na,Ta,g1,g2,g3,rfl⟩:=Tr_iff.1 f2
  refine ⟨na,n,ks[c - 1],ps[c - 1],p,ks.take (c - 1),ks.drop c,ps.take (c - 1),ps.drop (c+1),lo1,hi',m1,m2,l1,l2,T1,Ta,U1,U2,?_,?_,by rw [List.length_take]; omega,by rw [List.length_take]; omega,f1,g1,g3,hp,hn,h2,.inl g2,.inr hpo,by simp,by simp⟩
  ·rw [← List.singleton_append,← List.append_assoc,← t1,List.take_append_drop]
  ·have:ps.take (c - 1)++ps[c - 1]::p::ps.drop (c+1)=ps.take c++p::ps.drop (c+1):=by rw [t2,List.append_assoc]; rfl
   rw [this,← e1]
 ·obtain rfl:c=0:=by omega
  rw [if_neg h0c]
  cases ks with
  | nil=>exact absurd rfl hne
  | cons key kd =>
   obtain ⟨e1',e2',e3'⟩:lo'=lo∧l0=[]∧U0=[]:=h0
   subst e1' e2' e3'
   obtain ⟨e4',h2⟩:hi'=some key∧Fo (Tr s h) key hi kd (ps.drop 1) l2 U2:=h2
   subst e4'
   obtain ⟨p2,lo2,hi1,m0,lb,m2,T0,Tb,T2,x1,x2,x3,x4,rfl,rfl⟩:=Fo_at 0 kd (ps.drop 1) key l2 U2 h2 (Nat.zero_le _)
   obtain ⟨rfl,rfl,rfl⟩:lo2=key∧m0=[]∧T0=[]:=x2
   obtain ⟨nb,Tb',g1,g2,g3,rfl⟩:=Tr_iff.1 x3
   refine ⟨n,nb,lo2,p,p2,[],kd,[],(ps.drop 1).drop 1,lo',hi1,[],l1,lb,m2,[],U1,Tb',T2,rfl,?_,rfl,rfl,⟨rfl,rfl,rfl⟩,hp,hn,g1,g3,x4,.inr g2,.inl hpo,by simp,by simp⟩
   rw [e1]
   simp only [List.take_zero,List.nil_append,Nat.zero_add,List.cons.injEq,true_and]
   have:ps.drop 1=p2::(ps.drop 1).drop 1:=x1
   simpa using this
theorem nd5 {T0 Ta Tb T2:List Nat} {p1 p2:Nat} (h:(T0++(((p1::Ta)++(p2::Tb))++T2)).Nodup) :
  (∀ q∈T0,q≠p1∧q≠p2∧q∉Ta∧q∉Tb)∧(∀ q∈T2,q≠p1∧q≠p2∧q∉Ta∧q∉Tb)∧p1≠p2∧(∀ q∈Ta,q≠p1∧q≠p2∧q∉Tb)∧(∀ q∈Tb,q≠p1∧q≠p2)∧Ta.Nodup∧Tb.Nodup:=by
 simp only [List.nodup_append,List.nodup_cons,List.mem_append,List.mem_cons] at h
 grind
section
variable {s:Nat→Option Bs} {h:Nat} {lo:Bs} {hi:Option Bs} {ks:List Bs} {ps:List Nat} {l:List Pr} {U:List Nat} {j:Nat} {na nb:Nd} {key:Bs} {p1 p2:Nat} {kc kd:List Bs} {pc pd:List Nat} {lo1:Bs} {hi1:Option Bs} {m0 la lb m2:List Pr} {T0 Ta Tb T2:List Nat}
theorem Adj.join (a:Adj s h lo hi ks ps l U j na nb key p1 p2 kc kd pc pd lo1 hi1 m0 la lb m2 T0 Ta Tb T2) (hr:rightN (Nd.nd ks ps)=true) (hk:∀ k∈ks,inK lo hi k) (hw:(ks.map fun k=>3+k.length).sum≤252) :
  Nt s h (joinN na nb key) lo1 hi1 (la++lb) (Ta++Tb)∧rightN (joinN na nb key)=true∧neN (joinN na nb key)∧wtN (joinN na nb key) ∧
  rightN (Nd.nd (kc++kd) (pc++p1::pd))=true∧(∀ k∈kc++kd,inK lo hi k)∧((kc++kd).map fun k=>3+k.length).sum≤252:=by
 obtain ⟨_,i1,r1,v1,q1⟩:=right_inner hr rfl
 have i1:ps.length=ks.length+1:=i1
 have r1:risingK ks=true:=r1
 have v1:∀ k∈ks,k≠[]∧k.length≤32:=v1
 have q1:∀ k∈ps,1≤k∧k≤65535:=q1
 have hkm:key∈ks:=by rw [a.ek]; simp
 have r2:=r1
 rw [a.ek] at r2
 obtain ⟨z1,z2,z3,z4,z5⟩:=rising_split _ _ _ r2
 have hkc:∀ k∈kc,inK lo hi k:=fun k hk'=>hk k (by rw [a.ek]; simp [hk'])
 have hkd:∀ k∈kd,inK lo hi k:=fun k hk'=>hk k (by rw [a.ek]; simp [hk'])
 obtain ⟨y1,y2,y3⟩:=FL_lo _ _ _ _ _ _ a.fl z3 (fun k hk'=>(hkc k hk').1)
 have hin:inK lo1 hi1 key:=by
  refine ⟨?_,fun e he=>?_⟩
  ·rcases y1 with e|e
   ·rw [e]; exact (hk key hkm).1
   ·exact z1 lo1 e
  ·have fr:=a.fr
   cases kd with
   | nil=>exact (hk key hkm).2 e (fr.2.1.symm.trans he)
   | cons k kd=>have:=fr.1.symm.trans he; cases this; exact z2 e (by simp)
 obtain ⟨j1,j2,j3⟩:=Nt_join a.a2 a.b2 a.a1.rt a.b1.rt hin (v1 key hkm)
 have hmm:∀ k∈kc++kd,k∈ks:=fun k hk'=>by
  rw [a.ek]; rcases List.mem_append.1 hk' with h|h<;>simp [h]
 refine ⟨j1,j2,j3 a.ne,?_,rightN_nd ?_ (rising_join _ _ z3 z4 (fun i hi j hj=>ltB_trans (z1 i hi) (z2 j hj))) (fun k hk'=>q1 k ?_),fun k hk'=>hk k (hmm k hk'),?_⟩
 ·have o1:=ownW_size a.a1.sz
  have o2:=ownW_size a.b1.sz
  have hpo:ownW na+ownW nb≤254+87:=by
   rcases a.po with h|h
   ·have:=poor_own h; omega
   ·have:=poor_own h; omega
  have hkl:=(v1 key hkm).2
  have ha2:=a.a2
  have hb2:=a.b2
  cases h with
  | zero =>
   obtain ⟨rfl,_,_⟩:=ha2
   obtain ⟨rfl,_,_⟩:=hb2
   have hpo:(la.map weighP).sum+(lb.map weighP).sum≤254+87:=hpo
   show ((la++lb).map weighP).sum≤344
   rw [List.map_append,List.sum_append]; omega
  | succ h =>
   obtain ⟨ka,pa,rfl,_,_⟩:=ha2
   obtain ⟨kb,pb,rfl,_,_⟩:=hb2
   have hpo:(ka.map fun k=>3+k.length).sum+(kb.map fun k=>3+k.length).sum≤254+87:=hpo
   show ((ka++([key]++kb)).map fun k=>3+k.length).sum≤430
   simp only [List.map_append,List.sum_append,List.map_cons,List.sum_cons,List.map_nil,List.sum_nil]; omega
 ·rw [a.ep,a.ek] at i1
  simp only [List.length_append,List.length_cons] at i1 ⊢; omega
 ·rw [a.ep]
  simp only [List.mem_append,List.mem_cons] at hk' ⊢
  rcases hk' with h|h|h<;>simp [h]
 ·rw [a.ek,sum_mid] at hw; omega
theorem Adj.one (a:Adj s h lo hi ks ps l U j na nb key p1 p2 kc kd pc pd lo1 hi1 m0 la lb m2 T0 Ta Tb T2) (hr:rightN (Nd.nd ks ps)=true) (hk:∀ k∈ks,inK lo hi k) (hw:(ks.map fun k=>3+k.length).sum≤252) (hnd:U.Nodup) (hsz:sizeN (joinN na nb key)≤256) :
  Nt (setS (setS s p1 (some (encN (joinN na nb key)))) p2 none) (h+1) (Nd.nd (kc++kd) (pc++p1::pd)) lo hi l (T0++((p1::(Ta++Tb))++T2)) ∧
  Stp s (setS (setS s p1 (some (encN (joinN na nb key)))) p2 none) U (T0++((p1::(Ta++Tb))++T2))∧(T0++((p1::(Ta++Tb))++T2)).Nodup:=by
 obtain ⟨j1,j2,j3,j4,j5,j6,j7⟩:=a.join hr hk hw
 rw [a.eU] at hnd ⊢
 have hout:∀ q,q≠p1→q≠p2→setS (setS s p1 (some (encN (joinN na nb key)))) p2 none q=s q:=fun q h1 h2=>by unfold setS; rw [if_neg h2,if_neg h1]
 have hnd':=hnd
 obtain ⟨n0,n2,hp12,na',nb',nda,ndb⟩:=nd5 hnd
 have d0:∀ q∈T0,q≠p1∧q≠p2:=fun q hq=>⟨(n0 q hq).1,(n0 q hq).2.1⟩
 have da:∀ q∈Ta,q≠p1∧q≠p2:=fun q hq=>⟨(na' q hq).1,(na' q hq).2.1⟩
 have db:=nb'
 have d2:∀ q∈T2,q≠p1∧q≠p2:=fun q hq=>⟨(n2 q hq).1,(n2 q hq).2.1⟩
 have f0:=FL_mono (R':=Tr (setS (setS s p1 (some (encN (joinN na nb key)))) p2 none) h) _ _ _ _ _ _ (fun p lo hi l T hT ht=>Tr_frame h p lo hi l T (fun q hq=>hout q (d0 q (hT q hq)).1 (d0 q (hT q hq)).2) ht) a.fl
 have f2:=FR_mono (R':=Tr (setS (setS s p1 (some (encN (joinN na nb key)))) p2 none) h) (fun p lo hi l T hT ht=>Tr_frame h p lo hi l T (fun q hq=>hout q (d2 q (hT q hq)).1 (d2 q (hT q hq)).2) ht) a.fr
 have f1:Tr (setS (setS s p1 (some (encN (joinN na nb key)))) p2 none) h p1 lo1 hi1 (la++lb) (p1::(Ta++Tb)):=by
  refine Tr_iff.2 ⟨_,_,⟨?_,j2,hsz⟩,j3,Nt_frame h (fun q hq=>?_) j1,rfl⟩
  ·unfold setS; rw [if_neg hp12,if_pos rfl]
  ·rcases List.mem_append.1 hq with hq|hq
   ·exact hout q (da q hq).1 (da q hq).2
   ·exact hout q (db q hq).1 (db q hq).2
 refine ⟨⟨_,_,rfl,j6,by rw [a.el]; exact Fo_of _ _ _ _ _ _ f0 f1 f2⟩,⟨fun q h1 h2=>?_,fun q hq=>.inl ?_,fun q h1 h2=>?_⟩,nodup_ctx hnd' ?_ fun q hq=>?_⟩
 ·refine hout q (fun e=>h1 (by subst e; simp)) (fun e=>h1 (by subst e; simp))
 ·simp only [List.mem_append,List.mem_cons] at hq ⊢; grind
 ·have:q=p2:=by
   simp only [List.mem_append,List.mem_cons,not_or] at h1 h2; grind
  subst this; unfold setS; rw [if_pos rfl]
 ·simp only [List.nodup_cons,List.nodup_append,List.mem_append]
  refine ⟨fun h=>?_,nda,ndb,fun x hx y hy e=>(na' x hx).2.2 (e ▸ hy)⟩
  rcases h with h|h
  ·exact (da p1 h).1 rfl
  ·exact (db p1 h).1 rfl
 ·simp only [List.mem_cons,List.mem_append,not_or] at hq ⊢
  rcases hq with hq|hq
  ·exact ⟨(d0 q hq).1,(n0 q hq).2.2⟩
  ·exact ⟨(d2 q hq).1,(n2 q hq).2.2⟩
theorem Adj.two (a:Adj s h lo hi ks ps l U j na nb key p1 p2 kc kd pc pd lo1 hi1 m0 la lb m2 T0 Ta Tb T2) (hr:rightN (Nd.nd ks ps)=true) (hk:∀ k∈ks,inK lo hi k) (hw:(ks.map fun k=>3+k.length).sum≤252) (hnd:U.Nodup) (hsz:¬ sizeN (joinN na nb key)≤256)
  (hs:∀ q,setS (setS s p1 (some (encN (splitN (joinN na nb key)).1))) p2 (some (encN (splitN (joinN na nb key)).2.1)) q≠none→1≤q∧q≤65535) :
  ∃ U',Nt (setS (setS s p1 (some (encN (splitN (joinN na nb key)).1))) p2 (some (encN (splitN (joinN na nb key)).2.1))) (h+1) (Nd.nd (kc++(splitN (joinN na nb key)).2.2::kd) (pc++p1::p2::pd)) lo hi l U' ∧
  rightN (Nd.nd (kc++(splitN (joinN na nb key)).2.2::kd) (pc++p1::p2::pd))=true∧wtN (Nd.nd (kc++(splitN (joinN na nb key)).2.2::kd) (pc++p1::p2::pd)) ∧
  Stp s (setS (setS s p1 (some (encN (splitN (joinN na nb key)).1))) p2 (some (encN (splitN (joinN na nb key)).2.1))) U U'∧U'.Nodup:=by
 obtain ⟨j1,j2,j3,j4,j5,j6,j7⟩:=a.join hr hk hw
 obtain ⟨_,s2,s3,s4,s5,s6,s7,s8,s9,ca,cb,Sa,Sb,t1,t2,t3,t4⟩:=Nt_split j1 j2 j4 hsz
 rw [a.eU] at hnd ⊢
 generalize hs2:setS (setS s p1 (some (encN (splitN (joinN na nb key)).1))) p2 (some (encN (splitN (joinN na nb key)).2.1))=s' at hs ⊢
 have hout:∀ q,q≠p1→q≠p2→s' q=s q:=fun q h1 h2=>by rw [← hs2]; unfold setS; rw [if_neg h2,if_neg h1]
 have hnd':=hnd
 obtain ⟨n0,n2,hp12,na',nb',nda,ndb⟩:=nd5 hnd
 have d0:∀ q∈T0,q≠p1∧q≠p2:=fun q hq=>⟨(n0 q hq).1,(n0 q hq).2.1⟩
 have da:∀ q∈Ta,q≠p1∧q≠p2:=fun q hq=>⟨(na' q hq).1,(na' q hq).2.1⟩
 have db:=nb'
 have d2:∀ q∈T2,q≠p1∧q≠p2:=fun q hq=>⟨(n2 q hq).1,(n2 q hq).2.1⟩
 have dab:∀ q∈Sa++Sb,q≠p1∧q≠p2:=fun q hq=>by
  rw [← t4] at hq
  rcases List.mem_append.1 hq with h|h
  ·exact da q h
  ·exact db q h
 have f0:=FL_mono (R':=Tr s' h) _ _ _ _ _ _ (fun p lo hi l T hT ht=>Tr_frame h p lo hi l T (fun q hq=>hout q (d0 q (hT q hq)).1 (d0 q (hT q hq)).2) ht) a.fl
 have f2:=FR_mono (R':=Tr s' h) (fun p lo hi l T hT ht=>Tr_frame h p lo hi l T (fun q hq=>hout q (d2 q (hT q hq)).1 (d2 q (hT q hq)).2) ht) a.fr
 have g1:Tr s' h p1 lo1 (some (splitN (joinN na nb key)).2.2) ca (p1::Sa):=Tr_iff.2 ⟨_,_,⟨by rw [← hs2]; unfold setS; rw [if_neg hp12,if_pos rfl],s2,s3⟩,s6,Nt_frame h (fun q hq=>hout q (dab q (List.mem_append.2 (.inl hq))).1 (dab q (List.mem_append.2 (.inl hq))).2) t1,rfl⟩
 have g2:Tr s' h p2 (splitN (joinN na nb key)).2.2 hi1 cb (p2::Sb):=Tr_iff.2 ⟨_,_,⟨by rw [← hs2]; unfold setS; rw [if_pos rfl],s4,s5⟩,s7,Nt_frame h (fun q hq=>hout q (dab q (List.mem_append.2 (.inr hq))).1 (dab q (List.mem_append.2 (.inr hq))).2) t2,rfl⟩
 obtain ⟨w1,w2,w3,w4⟩:=two_inner (p0:=p1) j5 j7 j6 hs f0 f2 s8 s9 g1 g2
 rw [← t3] at w1
 have hmem:∀ q,q∈T0++(((p1::Sa)++(p2::Sb))++T2)↔q∈T0++(((p1::Ta)++(p2::Tb))++T2):=fun q=>by
  have:q∈Ta++Tb↔q∈Sa++Sb:=by rw [t4]
  simp only [List.mem_append,List.mem_cons] at this ⊢; grind
 refine ⟨_,by rw [a.el]; exact w1,w2,w3,⟨fun q h1 h2=>?_,fun q hq=>.inl ((hmem q).1 hq),fun q h1 h2=>absurd ((hmem q).2 h1) h2⟩,nodup_ctx hnd' ?_ fun q hq=>?_⟩
 ·refine hout q (fun e=>h1 (by subst e; simp)) (fun e=>h1 (by subst e; simp))
 ·have hab:(Sa++Sb).Nodup:=by
   rw [← t4,List.nodup_append]
   exact ⟨nda,ndb,fun x hx y hy e=>(na' x hx).2.2 (e ▸ hy)⟩
  rw [List.nodup_append] at hab
  simp only [List.cons_append,List.nodup_cons,List.nodup_append,List.mem_append,List.mem_cons,not_or]
  refine ⟨⟨fun h=>(dab p1 (List.mem_append.2 (.inl h))).1 rfl,hp12,fun h=>(dab p1 (List.mem_append.2 (.inr h))).1 rfl⟩,hab.1,⟨fun h=>(dab p2 (List.mem_append.2 (.inr h))).2 rfl,hab.2.1⟩,fun x hx y hy e=>?_⟩
  rcases hy with hy|hy
  ·exact (dab x (List.mem_append.2 (.inl hx))).2 (e.trans hy)
  ·exact hab.2.2 x hx y hy e
 ·have hx:q∉Ta++Tb∧q≠p1∧q≠p2:=by
   simp only [List.mem_append,not_or] at hq ⊢
   rcases hq with hq|hq
   ·exact ⟨(n0 q hq).2.2,d0 q hq⟩
   ·exact ⟨(n2 q hq).2.2,d2 q hq⟩
  rw [t4] at hx
  simp only [List.mem_append,List.mem_cons,not_or] at hx ⊢
  exact ⟨⟨hx.2.1,hx.1.1⟩,hx.2.2,hx.1.2⟩
end
end Go.Fx.Tryz
