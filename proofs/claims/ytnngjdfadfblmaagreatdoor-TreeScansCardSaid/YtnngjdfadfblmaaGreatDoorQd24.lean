/- Parts of a proof: TreeSo, TreeFr, TreeFs. Conditions: none. -/
import Derived.Test.YtnngjdfadfblmaaGreatDoorQd23
set_option linter.unusedSimpArgs false
set_option linter.unusedVariables false
namespace Go.Fx.Tryz
open Go Go.Fx
theorem qbu {a b:Bool} {p q r p' q' r':Value} (h:jQ a p q r=jQ b p' q' r'):a=b∧p=p'∧q=q'∧r=r':=by
 injection h with e
 injection e with e
 injection e with e1 e
 injection e with e2 e
 injection e with e3 e
 injection e with e4 e
 injection e1 with e1
 exact ⟨e1,e2,e3,e4⟩
set_option maxRecDepth 4000 in
theorem qbB {x:Wx} (he:x.err=0) {mb h level r d:Nat} {M:List (Nat × Nat)} {m:Mem} {page:Nat} {lo:Bs} {hi:Option Bs} {l:List Pr} {U:List Nat} (hs:SR x mb r d M m) (hh:Yx hi) (hrd:r+U.length≤1000) (hl1:1≤level) (hl40:level+(h+1)≤40) (hd:d=0∨d=level+(h+1)) (hM:∀ q∈U,q∉M.map (·.1)) (hnd:U.Nodup) (ht:Tr x.o.s (h+1) page lo hi l U)
  (IH:∀ (r d:Nat) (M:List (Nat × Nat)) (m:Mem) (page:Nat) (lo:Bs) (hi:Option Bs) (l:List Pr) (U:List Nat),SR x mb r d M m→Yx hi→r+U.length≤1000→(d=0∨d=level+(h+1))→(∀ q∈U,q∉M.map (·.1))→U.Nodup→Tr x.o.s h page lo hi l U→W (Call S tab 36 [x.v,.int .i64 (page:Int),.int .i64 ((level+1:Nat):Int),str lo,str (hiS hi)] m) (LkQ x mb r (level+(h+1)) M m U)) :
  W (Call S tab 36 [x.v,.int .i64 (page:Int),.int .i64 (level:Int),str lo,str (hiS hi)] m) (LkQ x mb r (level+(h+1)) M m U):=by
 have e41:arith .sub (.int .i64 41) (.int .i64 (level:Int))=some (.int .i64 ((41 - level:Nat):Int)):=by
  rw [zP (by omega) (by omega)]; congr 2; omega
 have e01:arith .add (.int .i64 0) (.int .i64 1)=some (.int .i64 1):=rfl
 obtain ⟨n,U',hp,hn,hnt,rfl⟩:=zN.1 ht
 obtain ⟨ks,ps,rfl,hks,hfo⟩:=hnt
 have hne:ks≠[]:=by simpa [neN,Nd.nd] using hn
 obtain ⟨hh',hlk⟩:=hp.here
 have hlt:=xu hh'
 have hP:x.o.P≤160:=hs.xr.wr.hP
 have hfew:=vT hp.rt hp.sz
 have hfew:ps.length≤ks.length+1∧ps.length≤200:=hfew
 obtain ⟨hp0,i1,r1,v1,p1⟩:=ze hp.rt rfl
 have i1:ps.length=ks.length+1:=i1
 have v1:∀ k∈ks,k≠[]∧k.length≤32:=v1
 simp only [List.length_cons] at hrd
 rw [List.nodup_cons] at hnd
 obtain ⟨n1',n2',n3',n4',n5'⟩:=hs.ne
 have hpM:=hM page (by simp)
 rw [C36]
 simp -implicitDefEqProofs only [st0,qc,reduceIte,nck,fa,e41]
 refine qn.2 ((vu hs.xr he (by show r<1000; omega) (show 1≤41 - level by omega) (by omega) hh' hlk hp.rt hp.sz).mono fun v1 m1 ⟨t1,h1,u1⟩=>?_)
 have h1:XR (Xs x mb (r+1) d) m1:=h1
 have u1:Upd [x.xb] m m1:=u1
 have x1:=u1.next
 obtain ⟨c,lom,gm⟩:=hs.mp
 have gm1:=(u1.same mb hs.lt (by simpa using n1')).trans gm
 have hs1:SR x mb (r+1) d M m1:=⟨h1,⟨c,lom,gm1⟩,Nat.lt_of_lt_of_le hs.lt x1,hs.ne⟩
 obtain ⟨sp,sk,si,rfl,q1,q2,q3⟩:=t1.ex
 have q1:RSl m.next qI m1 sp []:=q1
 have q2:RSl m.next zk m1 sk ks:=q2
 have q3:RSl m.next zI m1 si ps:=q3
 simp -implicitDefEqProofs only [st0,qc,reduceIte]
 refine xQ (c:=[.bool (Nd.nd ks ps).leaf,sp,sk,si]) rfl rfl (by simp [q1.one.2,q2.one.2,q3.one.2,show (Value.bool (Nd.nd ks ps).leaf).oneCell'=true from rfl]) fun m2 b2 u2 n2=>?_
 have hs2:=hs1.qt u2
 have x2:=u2.next
 have gm2:=qx u2 hs1.lt gm1
 have hmem:page∈(M++[(page,c)]).map (·.1):=by simp
 simp -implicitDefEqProofs only [st0,qc,reduceIte,nck,fa,hs2.ld.1,qcZ gm2 hpM,e01,qhH gm2 hpM]
 have u3:Upd [mb] m2 (m2.put mb ⟨.map (esC (M++[(page,c)])) (c+1),false,lom⟩):=Upd.put _ _ (by simp)
 have gm3:(m2.put mb ⟨.map (esC (M++[(page,c)])) (c+1),false,lom⟩).get mb=some ⟨.map (esC (M++[(page,c)])) (c+1),false,lom⟩:=Mem.qj ..
 have n3:(m2.put mb ⟨.map (esC (M++[(page,c)])) (c+1),false,lom⟩).next=m2.next:=rfl
 generalize (m2.put mb ⟨.map (esC (M++[(page,c)])) (c+1),false,lom⟩)=m3 at u3 gm3 n3
 have hs3:SR x mb (r+1) d (M++[(page,c)]) m3:=⟨hs2.xr.upd u3 fun b hb=>by simp at hb; subst hb; exact ⟨n1',n2',n3',n4',n5'⟩,⟨_,lom,gm3⟩,by rw [n3]; exact hs2.lt,hs.ne⟩
 have hlm:=hs1.lt
 have hml:=hs.lt
 have b3:=(u3.same m1.next (by omega) (by simp; omega)).trans b2
 have lowm:∀ b∈[mb],b<m.next:=fun b hb=>by simp at hb; omega
 have q13:RSl m.next qI m3 sp []:=(q1.qt u2).upd u3 lowm
 have q23:RSl m.next zk m3 sk ks:=(q2.qt u2).upd u3 lowm
 have q33:RSl m.next zI m3 si ps:=(q3.qt u2).upd u3 lowm
 have hlf:(Nd.nd ks ps).leaf=false:=rfl
 rw [hlf] at b3
 have hxm:x.xb<m.next:=hs.xr.lx
 have ez:((0:Int)<((([]:List Pr).length:Nat):Int))=False:=eq_false (by simp)
 simp -implicitDefEqProofs only [st0,qc,reduceIte,hs3.ok he,nck,fa,hs3.ld.1,qcY gm3 hmem,Int.lt_irrefl,qG b3 (o:=0+2) rfl,qG b3 (o:=0+1) rfl,qS q13]
 rw [P36_0_eq]
 simp -implicitDefEqProofs only [st0,qc,reduceIte,ez]
 rw [P36_1_eq]
 simp -implicitDefEqProofs only [st0,qc,reduceIte,qS q23]
 refine JV (K:=ks) (lo0:=m.next) (m0:=m3) (by omega) (fun k hk=>(hks k hk).r) hh hxm (fun m5 hs5 u5=>?_) _ 0 m3 rfl (Nat.zero_le _) q23 hs3 (Upd.refl _ _)
 have x5:=u5.next
 have b5:=(u5.same m1.next (by omega) (by simp; omega)).trans b3
 have lowx:∀ b∈[x.xb],b<m.next:=fun b hb=>by simp at hb; omega
 have q25:=q23.upd u5 lowx
 have q35:=q33.upd u5 lowx
 have el:decide (((ks.length:Nat):Int)=0)=false:=decide_eq_false (by have:=List.length_pos_iff.2 hne; omega)
 rw [P36_3_eq]
 obtain ⟨hs6,u6⟩:=hs5.put (r':=r+1) (d':=d)
 have b6:=(u6.same m1.next (by omega) (by simp; omega)).trans b5
 have q26:=q25.upd u6 lowx
 have q36:=q35.upd u6 lowx
 have n6:(m5.put x.xb (Xs x mb (r+1) d).blk).next=m5.next:=rfl
 simp -implicitDefEqProofs only [st0,qc,reduceIte,nck,fa,hs5.ld.2.2,qS q25,el,hs5.qfn,qG b6 (o:=0+0) rfl,qG b6 (o:=0+3) rfl,qS q36]
 have u06:Upd [x.xb,mb] m (m5.put x.xb (Xs x mb (r+1) d).blk):=by
  have s1:∀ b,b∈[x.xb]→b∈[x.xb,mb]:=fun b hb=>by simp at hb; simp [hb]
  exact ((((u1.mono fun b hb _=>s1 b hb).qE u2).trans (u3.mono fun b hb _=>by simp at hb; simp [hb])).trans (u5.mono fun b hb _=>s1 b hb)).trans (u6.mono fun b hb _=>s1 b hb)
 generalize (m5.put x.xb (Xs x mb (r+1) d).blk)=m6 at hs6 u06 b6 q26 q36 n6
 refine (qbD he (lo0:=m.next) (h:=h) (by omega) hfew.2 i1 (fun k hk=>(v1 k hk).1) hh (D:=level+(h+1)) IH ⟨by omega,hxm,hml⟩ ps 0 (r+1) d (M++[(page,c)]) m6 ks lo l U' rfl rfl (Nat.zero_le _) (.inr hfo) (fun h=>by omega) (fun _=>rfl) hs6 (by omega) hd (fun e=>by rw [e] at i1; simp at i1) (fun q hq hm=>?_) hnd.2 (by omega) b6 q26 q36).mono fun v2 m7 ⟨w1,w2,M',w3,w4,w5⟩=>⟨w1,u06.trans w2,M',?_,?_,fun q=>?_⟩
 ·simp only [List.map_append,List.map_cons,List.map_nil,List.mem_append,List.mem_cons,List.not_mem_nil,or_false] at hm
  rcases hm with h3|h3
  ·exact hM q (by simp [hq]) h3
  ·exact hnd.1 (h3 ▸ hq)
 ·rw [List.length_cons,show r+(U'.length+1)=r+1+U'.length by omega]; exact w3
 ·rw [w4]; simp; omega
 ·rw [w5 q]; simp [or_assoc]
set_option maxRecDepth 4000 in
theorem look_ok {x:Wx} (he:x.err=0) {mb:Nat}:∀ (h level r d:Nat) (M:List (Nat × Nat)) (m:Mem) (page:Nat) (lo:Bs) (hi:Option Bs) (l:List Pr) (U:List Nat),SR x mb r d M m→Yx hi→r+U.length≤1000→1≤level→level+h≤40→(d=0∨d=level+h)→(∀ q∈U,q∉M.map (·.1))→U.Nodup→Tr x.o.s h page lo hi l U →
  W (Call S tab 36 [x.v,.int .i64 (page:Int),.int .i64 (level:Int),str lo,str (hiS hi)] m) (LkQ x mb r (level+h) M m U):=by
 intro h
 induction h with
 | succ h ih =>
  intro level r d M m page lo hi l U hs hh hrd hl1 hl40 hd hM hnd ht
  exact qbB he hs hh hrd hl1 hl40 hd hM hnd ht fun r d M m page lo hi l U hs hh hrd hd hM hnd ht=>by
   have:=ih (level+1) r d M m page lo hi l U hs hh hrd (by omega) (by omega) (by rw [show level+1+h=level+(h+1) by omega]; exact hd) hM hnd ht
   rwa [show level+1+h=level+(h+1) by omega] at this
 | zero =>
 have e41:∀ level:Nat,level≤40→arith .sub (.int .i64 41) (.int .i64 (level:Int))=some (.int .i64 ((41 - level:Nat):Int)):=fun level hl=>by
  rw [zP (by omega) (by omega)]; congr 2; omega
 have e01:arith .add (.int .i64 0) (.int .i64 1)=some (.int .i64 1):=rfl
 ·intro level r d M m page lo hi l U hs hh hrd hl1 hl40 hd hM hnd ht
  obtain ⟨n,U',hp,hn,hnt,rfl⟩:=zN.1 ht
  have hnt0:n=Nd.lf l∧(∀ x∈l,inR lo hi x.1)∧U'=[]:=hnt
  obtain ⟨rfl,hl,rfl⟩:=hnt0
  have hl0:l≠[]:=by simpa [neN,Nd.lf] using hn
  obtain ⟨hh',hlk⟩:=hp.here
  have hlt:=xu hh'
  have hP:x.o.P≤160:=hs.xr.wr.hP
  have hfew:l.length≤127:=(vd hp.rt hp.sz).1
  simp only [List.length_cons,List.length_nil] at hrd
  obtain ⟨n1',n2',n3',n4',n5'⟩:=hs.ne
  have hpM:=hM page (by simp)
  rw [C36]
  simp -implicitDefEqProofs only [st0,qc,reduceIte,nck,fa,e41 level (by omega)]
  refine qn.2 ((qct hs.xr he (by show r<1000; omega) (show 1≤41 - level by omega) (by omega) hh' hlk hp.rt hp.sz).mono fun v1 m1 ⟨t1,h1,u1,xl⟩=>?_)
  have h1:XR (Xs x mb (r+1) d) m1:=h1
  have u1:Upd [x.xb] m m1:=u1
  have x1:=u1.next
  obtain ⟨c,lom,gm⟩:=hs.mp
  have gm1:=(u1.same mb hs.lt (by simpa using n1')).trans gm
  have hs1:SR x mb (r+1) d M m1:=⟨h1,⟨c,lom,gm1⟩,Nat.lt_of_lt_of_le hs.lt x1,hs.ne⟩
  obtain ⟨sp',xl⟩:=xl rfl
  obtain ⟨sp,sk,si,hv,q1,q2,q3⟩:=t1.ex
  subst hv
  obtain ⟨_,rfl,rfl,rfl⟩:=qbu xl
  have q1:RSl m.next qI m1 sp l:=q1
  simp -implicitDefEqProofs only [st0,qc,reduceIte]
  refine xQ (c:=[.bool (Nd.lf l).leaf,sp,.slice none 0 0,.slice none 0 0]) rfl rfl (by simp [q1.one.2,show (Value.bool (Nd.lf l).leaf).oneCell'=true from rfl,show (Value.slice none 0 0).oneCell'=true from rfl]) fun m2 b2 u2 n2=>?_
  have hs2:=hs1.qt u2
  have q12:=q1.qt u2
  have x2:=u2.next
  have gm2:=qx u2 hs1.lt gm1
  have hmem:page∈(M++[(page,c)]).map (·.1):=by simp
  simp -implicitDefEqProofs only [st0,qc,reduceIte,nck,fa,hs2.ld.1,qcZ gm2 hpM,e01,qhH gm2 hpM]
  have u3:Upd [mb] m2 (m2.put mb ⟨.map (esC (M++[(page,c)])) (c+1),false,lom⟩):=Upd.put _ _ (by simp)
  have gm3:(m2.put mb ⟨.map (esC (M++[(page,c)])) (c+1),false,lom⟩).get mb=some ⟨.map (esC (M++[(page,c)])) (c+1),false,lom⟩:=Mem.qj ..
  have n3:(m2.put mb ⟨.map (esC (M++[(page,c)])) (c+1),false,lom⟩).next=m2.next:=rfl
  generalize (m2.put mb ⟨.map (esC (M++[(page,c)])) (c+1),false,lom⟩)=m3 at u3 gm3 n3
  have hs3:SR x mb (r+1) d (M++[(page,c)]) m3:=⟨hs2.xr.upd u3 fun b hb=>by simp at hb; subst hb; exact ⟨n1',n2',n3',n4',n5'⟩,⟨_,lom,gm3⟩,by rw [n3]; exact hs2.lt,hs.ne⟩
  have hlm:=hs1.lt
  have b3:=(u3.same m1.next (by omega) (by simp; omega)).trans b2
  have q13:RSl m.next qI m3 sp l:=q12.upd u3 fun b hb=>by simp at hb; have:=hs.lt; omega
  have hlf:(Nd.lf l).leaf=true:=rfl
  rw [hlf] at b3
  simp -implicitDefEqProofs only [st0,qc,reduceIte,hs3.ok he,nck,fa,hs3.ld.1,qcY gm3 hmem,Int.lt_irrefl,qG b3 (o:=0+2) rfl,qG b3 (o:=0+1) rfl,qS q13]
  refine qbC (by omega) (fun c hc=>(q13.2 c hc).2) (fun m4 v hv hvb u4=>?_) _ 0 m3 _ rfl (Nat.zero_le _) q13 (TAp.nil _) (fun c hc=>by simp [qg] at hc) (Upd.refl _ _)
  have x4:=u4.next
  have hs4:=hs3.qt u4
  have b4:=qx u4 (by omega) b3
  have hvr:RSl m3.next zk m4 v (l.map (·.1)):=hv.rsl hvb
  have hxm:x.xb<m.next:=hs.xr.lx
  rw [P36_1_eq]
  simp -implicitDefEqProofs only [st0,qc,reduceIte,qS hvr]
  refine JV (K:=l.map (·.1)) (lo0:=m3.next) (m0:=m4) (by simpa using by omega) (fun k hk=>by obtain ⟨y,hy,rfl⟩:=List.mem_map.1 hk; exact hl y hy) hh (by omega) (fun m5 hs5 u5=>?_) _ 0 m4 rfl (Nat.zero_le _) hvr hs4 (Upd.refl _ _)
  have x5:=u5.next
  have b5:=(u5.same m1.next (by omega) (by simp; omega)).trans b4
  have hvr5:RSl m3.next zk m5 v (l.map (·.1)):=hvr.upd u5 fun b hb=>by simp at hb; omega
  have el:decide ((((l.map (·.1)).length:Nat):Int)=0)=false:=decide_eq_false (by have:=List.length_pos_iff.2 hl0; simp; omega)
  rw [P36_3_eq]
  obtain ⟨hs6,u6⟩:=hs5.put (r':=r+1) (d':=d)
  have b6:=(u6.same m1.next (by omega) (by simp; omega)).trans b5
  simp -implicitDefEqProofs only [st0,qc,reduceIte,nck,fa,hs5.ld.2.2,qS hvr5,el,hs5.qfn,qG b6 (o:=0+0) rfl,hs6.ld.2.1]
  have u06:Upd [x.xb,mb] m (m5.put x.xb (Xs x mb (r+1) d).blk):=by
   have s1:∀ b,b∈[x.xb]→b∈[x.xb,mb]:=fun b hb=>by simp at hb; simp [hb]
   exact (((((u1.mono fun b hb _=>s1 b hb).qE u2).trans (u3.mono fun b hb _=>by simp at hb; simp [hb])).qE u4).trans (u5.mono fun b hb _=>s1 b hb)).trans (u6.mono fun b hb _=>s1 b hb)
  generalize (m5.put x.xb (Xs x mb (r+1) d).blk)=m6 at hs6 u06 b6
  have fin:∀ m7,SR x mb (r+1) level (M++[(page,c)]) m7→Upd [x.xb] m6 m7→W (qaG x.v (.int .i64 (level:Int)) m7) (LkQ x mb r (level+0) M m [page]):=fun m7 hs7 u7=>by
   rw [P36_4_eq]
   obtain ⟨hs8,u8⟩:=hs7.put (r':=r+1) (d':=level)
   have ed:decide ((level:Int)=(level:Int))=true:=decide_eq_true rfl
   simp -implicitDefEqProofs only [st0,qc,reduceIte,nck,fa,hs7.ld.2.2,hs7.ld.2.1,ed,hs7.qfn]
   refine ⟨rfl,(u06.trans (u7.mono fun b hb _=>by simp at hb; simp [hb])).trans (u8.mono fun b hb _=>by simp at hb; simp [hb]),_,hs8,by simp,fun q=>by simp⟩
  rcases hd with rfl|hd
  ·have ed:decide (((0:Nat):Int)=0)=true:=rfl
   obtain ⟨hs7,u7⟩:=hs6.put (r':=r+1) (d':=level)
   simp -implicitDefEqProofs only [st0,qc,reduceIte,ed,nck,fa,hs6.deep level]
   exact fin _ hs7 u7
  ·have hd':d=level:=hd
   have ed:decide ((d:Int)=0)=false:=decide_eq_false (by omega)
   simp -implicitDefEqProofs only [st0,qc,reduceIte,ed]
   exact fin m6 (hd' ▸ hs6) (Upd.refl _ _)
theorem qhk (w mb:Nat):qz [.pointer none,.int .i64 0,.int .i64 0,.map none,.int .i64 0,.bool false] [(0,3,.agg [.pointer (some ⟨w,0,none⟩),.int .i64 0,.int .i64 0].toArray),(3,1,.map (some mb))]=some [.pointer (some ⟨w,0,none⟩),.int .i64 0,.int .i64 0,.map (some mb),.int .i64 0,.bool false]:=by kernel_rfl
theorem Xu {o:Wo} {m:Mem} (h:WR o m) {root:Nat} {l:List Pr} {U:List Nat} (ht:TrR o.s root l U) (hnd:U.Nodup) :
  W (Call S tab 15 [.pointer (some ⟨o.w,0,none⟩),.int .i64 (root:Int)] m) fun r m'=>∃ dep:Nat,r=.tuple #[.int .i64 (U.length:Int),.int .i64 (dep:Int),.bool true]∧Upd [] m m'∧((dep=0∧l=[]∧U=[])∨(1≤dep∧dep≤8∧2 ^ (dep - 1)≤l.length∧U.length+1≤2 * l.length∧1≤U.length)):=by
 rw [C15]
 rcases ht with ⟨rfl,rfl,rfl⟩|⟨g,ht⟩
 ·have e0:(((0:Nat):Int)=0)=True:=eq_true rfl
  simp -implicitDefEqProofs only [st0,qc,reduceIte,e0]
  exact ⟨0,rfl,Upd.refl _ _,.inl ⟨rfl,trivial,trivial⟩⟩
 ·have hpos:=vL ht
  have hlow:=wu h.hP ht hnd
  have hcnt:=Ji o.s g root [] none l U ht
  have e0:((root:Int)=0)=False:=eq_false (by omega)
  have w1:=h.lw; have w2:=h.lm; have w3:=h.lc; have w4:=h.lp
  have f1:=WV o.w
  simp -implicitDefEqProofs only [st0,qc,reduceIte,e0,WV,zK,qhk,qR]
  have u1:Upd [] m (m.add ⟨.map [] 0,false,none⟩):=Upd.add _ _ _
  have g1:(m.add ⟨.map [] 0,false,none⟩).get m.next=some ⟨.map [] 0,false,none⟩:=Mem.qk ..
  have n1:(m.add ⟨.map [] 0,false,none⟩).next=m.next+1:=rfl
  generalize (m.add ⟨.map [] 0,false,none⟩)=m1 at u1 g1 n1
  let y:Wx:=⟨o,m1.next,[],87,0,0⟩
  have eblk:(⟨.cells [.pointer (some ⟨o.w,0,none⟩),.int .i64 0,.int .i64 0,.map (some m.next),.int .i64 0,.bool false] 87,false,none⟩:ABlk)=(Xs y m.next 0 0).blk:=rfl
  rw [eblk]
  have u2:Upd [] m1 (m1.add (Xs y m.next 0 0).blk):=Upd.add _ _ _
  have g2:(m1.add (Xs y m.next 0 0).blk).get m1.next=some (Xs y m.next 0 0).blk:=Mem.qk ..
  have n2:(m1.add (Xs y m.next 0 0).blk).next=m1.next+1:=rfl
  have k2:=qx u2 (by omega) g1
  have hs:SR y m.next 0 0 [] (m1.add (Xs y m.next 0 0).blk):=⟨⟨(h.qt u1).qt u2,g2,by show m1.next<_; omega,⟨by show m1.next≠o.w; omega,by show m1.next≠o.pm; omega,by show m1.next≠o.c; omega,by show m1.next≠o.p; omega⟩⟩,⟨0,none,k2⟩,by omega,⟨by show m.next≠m1.next; omega,by show m.next≠o.w; omega,by show m.next≠o.pm; omega,by show m.next≠o.c; omega,by show m.next≠o.p; omega⟩⟩
  generalize (m1.add (Xs y m.next 0 0).blk)=m2 at u2 n2 hs
  have:=look_ok (x:=y) rfl g 1 0 0 [] m2 root [] none l U hs (fun e he=>by cases he) (by omega) (Nat.le_refl _) (by omega) (.inl rfl) (fun q hq=>by simp) hnd ht
  refine qn.2 (this.mono fun v3 m3 ⟨_,u3,M',s3,c3,_⟩=>?_)
  obtain ⟨c,lom,g3⟩:=s3.mp
  have hl:wZ (.map (some m.next)) m3=some (.int .i64 (U.length:Int)):=by
   have:m3.xO m.next=some (esC M',c):=by simp [Mem.xO,g3]
   simp only [wZ,this,Option.map_some]
   congr 3
   simp [esC,c3]
  have ld:=s3.ld
  have ld3:qb (.pointer (some ⟨m1.next,0+3,none⟩)) m3=some (.map (some m.next)):=ld.1
  have ld4:qb (.pointer (some ⟨m1.next,0+4,none⟩)) m3=some (.int .i64 ((1+g:Nat):Int)):=ld.2.1
  have ld5:qb (.pointer (some ⟨m1.next,0+5,none⟩)) m3=some (.bool false):=ld.2.2
  simp -implicitDefEqProofs only [st0,qc,reduceIte,nck,fa,ld5,ld3,hl,ld4]
  refine ⟨1+g,rfl,(u1.qE u2).then' u3 (fun b hb=>.inr ?_),.inr ⟨by omega,by omega,?_,hcnt.2.2,by have:=Nat.two_pow_pos g; omega⟩⟩
  ·have:y.xb=m1.next:=rfl
   simp [this] at hb; omega
  ·rw [Nat.add_sub_cancel_left]; exact hcnt.1
end Go.Fx.Tryz
namespace Go.Fx.Tryz
open Go Go.Fx
abbrev z64:List Value:=je.flat (qs 64)
theorem qfV:([.int .u8 0,.int .u8 0,.int .u8 0,.int .u8 0,.int .u8 0,.int .u8 0,.int .u8 0,.int .u8 0,.int .u8 0,.int .u8 0,.int .u8 0,.int .u8 0,.int .u8 0,.int .u8 0,.int .u8 0,.int .u8 0,.int .u8 0,.int .u8 0,.int .u8 0,.int .u8 0,.int .u8 0,.int .u8 0,.int .u8 0,.int .u8 0,.int .u8 0,.int .u8 0,.int .u8 0,.int .u8 0,.int .u8 0,.int .u8 0,.int .u8 0,.int .u8 0,.int .u8 0,.int .u8 0,.int .u8 0,.int .u8 0,.int .u8 0,.int .u8 0,.int .u8 0,.int .u8 0,.int .u8 0,.int .u8 0,.int .u8 0,.int .u8 0,.int .u8 0,.int .u8 0,.int .u8 0,.int .u8 0,.int .u8 0,.int .u8 0,.int .u8 0,.int .u8 0,.int .u8 0,.int .u8 0,.int .u8 0,.int .u8 0,.int .u8 0,.int .u8 0,.int .u8 0,.int .u8 0,.int .u8 0,.int .u8 0,.int .u8 0,.int .u8 0]:List Value)=z64:=by kernel_rfl
def JA:Enc Unit:=⟨64,fun _=>z64,fun _=>by kernel_rfl,fun _=>by kernel_rfl⟩
theorem qbZ:JA.size=64:=rfl
theorem qca (n:Nat):JA.flat (List.replicate n ())=(List.replicate n z64).flatten:=by simp [Enc.flat,JA]
theorem slA {m:Mem} {b n off:Nat} {c:List Value} {e:TypeId} (hk:m.get b=some ⟨.cells c e,false,none⟩):xY n 1 (.pointer (some ⟨b,off,none⟩)) none none m=some (.slice (some ⟨b,off,none⟩) n n):=by
 have:m.known b=.exact:=by simp [Mem.known,hk]
 simp [xY,jL,zx,xB,this]
structure Dv (d sb um N:Nat) (m:Mem):Prop where
 hd:∃ a b,m.get d=some ⟨.cells [.slice (some ⟨sb,0,none⟩) N N,.map (some um),a,b] 161,false,none⟩
 hs:m.get sb=some ⟨.cells (JA.flat (List.replicate N ())) 232,false,none⟩
 hu:m.get um=some ⟨.map [] 0,false,none⟩
 lt:d<m.next∧sb<m.next∧um<m.next
theorem Dv.upd {d sb um N:Nat} {m m':Mem} {fp:List Nat} (h:Dv d sb um N m) (hu:Upd fp m m') (hf:∀ b∈fp,b≠d∧b≠sb∧b≠um):Dv d sb um N m':=by
 obtain ⟨a,b,hd⟩:=h.hd
 have hn:=hu.next
 obtain ⟨l1,l2,l3⟩:=h.lt
 exact ⟨⟨a,b,(hu.same d l1 fun hm=>(hf _ hm).1 rfl).trans hd⟩,(hu.same sb l2 fun hm=>(hf _ hm).2.1 rfl).trans h.hs,(hu.same um l3 fun hm=>(hf _ hm).2.2 rfl).trans h.hu,by omega,by omega,by omega⟩
theorem Dv.qt {d sb um N:Nat} {m m':Mem} (h:Dv d sb um N m) (hu:Upd [] m m'):Dv d sb um N m':=h.upd hu fun b hb=>by cases hb
theorem Dv.tap {d sb um N:Nat} {m:Mem} (h:Dv d sb um N m):TAp JA 232 m (.slice (some ⟨sb,0,none⟩) N N) (List.replicate N ()) :=
 .inr ⟨sb,N,[],none,by simp,h.lt.2.1,by rw [List.append_nil]; exact h.hs,.inl rfl,by simp,by simp⟩
theorem WZ {d sb um N i:Nat} {m:Mem} (h:Dv d sb um N m) (hi:i<N):W (Call S tab 92 [.pointer (some ⟨d,0,none⟩),.int .i64 (i:Int)] m) fun r m'=>r=str (qs 64)∧Upd [] m m':=by
 obtain ⟨a,b,hd⟩:=h.hd
 have e1:((i:Int)<0)=False:=eq_false (by omega)
 have e2:((N:Int)≤(i:Int))=False:=eq_false (by omega)
 have l0:qb (.pointer (some ⟨d,0+0,none⟩)) m=some (.slice (some ⟨sb,0,none⟩) N N):=qu hd rfl
 have l1:qb (.pointer (some ⟨d,0+1,none⟩)) m=some (.map (some um)):=qu hd rfl
 have el:qf (.slice (some ⟨sb,0,none⟩) N N)=some (.int .i64 (N:Int)):=rfl
 have lk:∀ z,zG .int z true (.map (some um)) (.int .i64 (i:Int)) m=some (.tuple #[z,.bool false]):=fun z=>by
  have:m.xO um=some ([],0):=by simp [Mem.xO,h.hu]
  simp only [zG,this,Option.bind_some]; rfl
 rw [C92]
 have u1:Upd [] m (m.add ⟨.cells z64 232,false,none⟩):=Upd.add _ _ _
 have g1:(m.add ⟨.cells z64 232,false,none⟩).get m.next=some ⟨.cells z64 232,false,none⟩:=Mem.qk ..
 have n1:(m.add ⟨.cells z64 232,false,none⟩).next=m.next+1:=rfl
 simp -implicitDefEqProofs only [st0,qc,reduceIte,yT,e1,nck,fa,l0,el,e2,l1,lk,qfV,xt0,xt1]
 generalize (m.add ⟨.cells z64 232,false,none⟩)=m1 at u1 g1 n1
 have hz:z64.length=64:=by kernel_rfl
 have ha:z64.all (·.oneCell')=true:=by kernel_rfl
 have st:∀ M:Mem,M.get m.next=some ⟨.cells z64 232,false,none⟩→qi 64 (.pointer (some ⟨m.next,0,none⟩)) (.agg z64.toArray) M=some (M.put m.next ⟨.cells z64 232,false,none⟩):=fun M g=>by
  have:=vv (v:=.agg z64.toArray) g hz (by simpa [Value.cells] using hz) (by simpa [Value.cells] using ha)
  simpa [Value.cells] using this
 have h2:Dv d sb um N (m1.put m.next ⟨.cells z64 232,false,none⟩):=(h.qt u1).upd (fp:=[m.next]) (Upd.put _ _ (by simp)) fun b hb=>by
  simp at hb; have:=h.lt; omega
 have g2:(m1.put m.next ⟨.cells z64 232,false,none⟩).get m.next=_:=Mem.qj ..
 have u2:Upd [] m (m1.put m.next ⟨.cells z64 232,false,none⟩):=u1.jP _ (.inr (Nat.le_refl _))
 simp -implicitDefEqProofs only [st0,qc,reduceIte,st m1 g1]
 have n2:(m1.put m.next ⟨.cells z64 232,false,none⟩).next=m1.next:=rfl
 generalize (m1.put m.next ⟨.cells z64 232,false,none⟩)=m2 at h2 g2 u2 n2
 obtain ⟨a2,b2,hd2⟩:=h2.hd
 have l02:qb (.pointer (some ⟨d,0+0,none⟩)) m2=some (.slice (some ⟨sb,0,none⟩) N N):=qu hd2 rfl
 obtain ⟨p,w1,w2,_⟩:=h2.tap.tsl.index .i64 (i:=i) (a:=()) (by simp [hi])
 rw [qbZ] at w1 w2
 have w2:qm 64 p m2=some (.agg z64.toArray):=w2
 simp -implicitDefEqProofs only [st0,qc,reduceIte,l02,w1,w2,st m2 g2,slA (Mem.qj m2 m.next _)]
 have tb:TSl je (m2.put m.next ⟨.cells z64 232,false,none⟩) (.slice (some ⟨m.next,0,none⟩) 64 64) (qs 64) :=
  TAp.tsl (e:=232) (.inr ⟨m.next,64,[],none,by rw [xW],by show m.next<m2.next; omega,by rw [List.append_nil]; exact Mem.qj ..,.inl rfl,by rw [xW]; rfl,by rw [xW]; omega⟩)
 simp -implicitDefEqProofs only [st0,qc,reduceIte,qdQ tb]
 exact ⟨trivial,u2.jP _ (.inr (Nat.le_refl _))⟩
theorem WE (n j:Nat) (hn:n≤1000) (hj:j≤1000) (m:Mem):Call S tab 90 [.int .i64 (n:Int),.int .i64 (j:Int)] m=some (.int .i64 ((126+4 * n+j:Nat):Int),m):=by
 refine W_eq ?_
 have e1:arith .mul (.int .i64 4) (.int .i64 (n:Int))=some (.int .i64 ((4 * n:Nat):Int)):=by
  have h:IntKind.i64.wrap ((4:Int) * (n:Int))=((4 * n:Nat):Int):=by rw [wrap64 (by omega) (by omega)]; omega
  rw [← h]; rfl
 have e2:arith .add (.int .i64 126) (.int .i64 ((4 * n:Nat):Int))=some (.int .i64 ((126+4 * n:Nat):Int)):=addN (i:=126) (by omega)
 rw [C90]
 simp -implicitDefEqProofs only [st0,qc,reduceIte,e1,e2,addN (i:=126+4 * n) (j:=j) (by omega)]
 exact ⟨trivial,trivial⟩
theorem qje {lo:Nat} {v:Value} {l:List Bs} (hl:l.length≤1000) (h64:∀ s∈l,s.length=64):∀ (n i:Nat) (m:Mem),l.length - i=n→i≤l.length→RSl lo zk m v l→W (Jm v (.func (.func 185) #[] #[]) (.int .i64 (l.length:Int)) (.int .i64 (i:Int)) m) fun r m'=>r=.int .i64 (-1)∧m'=m:=by
 intro n
 induction n with
 | zero =>
  intro i m hd hi h
  obtain rfl:i=l.length:=by omega
  rw [P218_0_eq]
  simp -implicitDefEqProofs only [st0,qc,reduceIte,Int.lt_irrefl]
  exact ⟨trivial,trivial⟩
 | succ n ih =>
  intro i m hd hi h
  have hlt:i<l.length:=by omega
  have e1:((i:Int)<(l.length:Int))=True:=eq_true (by omega)
  obtain ⟨pk,y1,y2⟩:=Vk h (xS hlt)
  have e2:((l[i].length:Nat):Int)=64:=by rw [h64 _ (List.getElem_mem hlt)]; rfl
  have e3:decide ((64:Int)=64)=true:=rfl
  rw [P218_0_eq]
  have hc:∀ M,Call S tab 185 [str l[i]] M=some (.bool false,M):=fun M=>by
   refine W_eq ?_
   rw [qjM]
   simp -implicitDefEqProofs only [st0,qc,reduceIte,zz,e2,e3]
   exact ⟨trivial,trivial⟩
  simp -implicitDefEqProofs only [st0,qc,reduceIte,e1,y1,y2 m h,qdM 185 (by rfl),List.nil_append,List.append_nil,hc,qD (i:=i) (by omega)]
  exact ih (i+1) m (by omega) hlt h
set_option maxRecDepth 100000 in
theorem qhW:(⟨(Lib.join [(⟨(qs 64).toArray⟩:ByteArray).data.toList,(⟨(qs 64).toArray⟩:ByteArray).data.toList,(⟨(qs 64).toArray⟩:ByteArray).data.toList,(⟨(qs 64).toArray⟩:ByteArray).data.toList] (⟨#[]⟩:ByteArray).data.toList).toArray⟩:ByteArray)=⟨(qs 256).toArray⟩:=by kernel_rfl
theorem qcz {m:Mem} {v:Value} (h:TAp zk 9 m v [qs 64,qs 64,qs 64,qs 64]):W (Call S tab 137 [v] m) fun r m'=>r=.tuple #[str (qs 256),.int .i64 0]∧m'=m:=by
 have hr:RSl 0 zk m v [qs 64,qs 64,qs 64,qs 64]:=h.rsl fun b _=>Nat.zero_le _
 have hl:=qS hr
 have d4:decide ((4:Int)=4)=true:=rfl
 have hl:qf v=some (.int .i64 4):=hl
 have d1:decide ((0:Int)≤-1)=false:=rfl
 rw [qke]
 simp -implicitDefEqProofs only [st0,qc,reduceIte,hl,d4,qjN,qjC]
 have key:=qje (l:=[qs 64,qs 64,qs 64,qs 64]) (by simp) (fun s hs=>by
  simp only [List.mem_cons,List.not_mem_nil,or_false,or_self] at hs; subst hs; exact xW 64) 4 0 m rfl (by simp) hr
 have key:Jm v (.func (.func 185) #[] #[]) (.int .i64 4) (.int .i64 0) m=some (.int .i64 (-1),m):=W_eq key
 have hj:Call S tab 186 [v,.string ⟨#[]⟩] m=some (str (qs 256),m):=by
  refine Jr ?_
  show Yn [v,.string ⟨#[]⟩] m=_
  rcases h with ⟨_,h0⟩|⟨b,cap,rest,lo,rfl,hb,hg,hlo,hrs,hc⟩
  ·simp at h0
  ·have hca:=zS hg
   have hst:Xm (((zk.flat [qs 64,qs 64,qs 64,qs 64]++rest).drop 0).take [qs 64,qs 64,qs 64,qs 64].length)=some [⟨(qs 64).toArray⟩,⟨(qs 64).toArray⟩,⟨(qs 64).toArray⟩,⟨(qs 64).toArray⟩]:=rfl
   have hjl:=congrArg (fun s:ByteArray=>s.data.toList) qhW
   have hjl:Lib.join ([(⟨(qs 64).toArray⟩:ByteArray),⟨(qs 64).toArray⟩,⟨(qs 64).toArray⟩,⟨(qs 64).toArray⟩].map (·.data.toList)) (⟨#[]⟩:ByteArray).data.toList=qs 256:=hjl
   simp only [Yn,hca,Option.bind_some,hst,hjl]
   rw [if_pos ⟨rfl,by simp,hc,by simp,by rw [xW]; omega⟩]
 simp -implicitDefEqProofs only [st0,qc,reduceIte,key,d1,hj]
 exact ⟨trivial,trivial⟩
theorem TAp.low {α:Type} {E:Enc α} {e:TypeId} {m:Mem} {v:Value} {l:List α} (h:TAp E e m v l):RSl 0 E m v l:=h.rsl fun b _=>Nat.zero_le _
theorem Hc {d sb um N p vb k:Nat} {r:List Value} {T:TypeId} (hN:126+4 * k+4≤N) (hk:k≤200) {m0:Mem} (hne:p<m0.next∧vb<m0.next):∀ (n j:Nat) (m:Mem) (v:Value),4 - j=n→j≤4→Dv d sb um N m→m.get p=some ⟨.cells (.pointer (some ⟨d,0,none⟩)::r) T,false,none⟩→m.get vb=some ⟨.cells [.int .i64 (k:Int)] 3,false,none⟩→TAp zk 9 m v (List.replicate j (qs 64))→(∀ b∈qg v,m0.next≤b)→Upd [] m0 m→(d<m0.next∧sb<m0.next∧um<m0.next) →
  W (qaw (.pointer (some ⟨p,0,none⟩)) (.func (.func 89) #[] #[.pointer (some ⟨vb,0,none⟩)]) v (.int .i64 (j:Int)) m) fun r m'=>r=str (qs 256)∧Upd [] m0 m':=by
 intro n
 induction n with
 | zero =>
  intro j m v hd hj hdv gp gv hv hvb hu hlt
  obtain rfl:j=4:=by omega
  have e1:(((4:Nat):Int)<4)=False:=eq_false (by omega)
  rw [P88_0_eq]
  simp -implicitDefEqProofs only [st0,qc,reduceIte,e1]
  rw [P88_1_eq]
  refine qn.2 ((qcz hv).mono fun r m' ⟨r1,r2⟩=>?_)
  subst r1 r2
  simp -implicitDefEqProofs only [st0,qc,reduceIte,xt0,xt1]
  exact ⟨trivial,hu⟩
 | succ n ih =>
  intro j m v hd hj hdv gp gv hv hvb hu hlt
  have hlj:j<4:=by omega
  have e1:((j:Int)<4)=True:=eq_true (by omega)
  have l0:qb (.pointer (some ⟨p,0+0,none⟩)) m=some (.pointer (some ⟨d,0,none⟩)):=qu gp rfl
  have lv:qb (.pointer (some ⟨vb,0,none⟩)) m=some (.int .i64 (k:Int)):=qu gv rfl
  have hc:Call S tab 89 [.int .i64 (j:Int),.pointer (some ⟨vb,0,none⟩)] m=some (.int .i64 ((126+4 * k+j:Nat):Int),m):=by
   refine W_eq ?_
   rw [C89]
   simp -implicitDefEqProofs only [st0,qc,reduceIte,lv,WE k j (by omega) (by omega)]
   exact ⟨trivial,trivial⟩
  rw [P88_0_eq]
  simp -implicitDefEqProofs only [st0,qc,reduceIte,e1,nck,fa,l0,qgI 89 (by rfl),List.nil_append,List.singleton_append,hc]
  refine qn.2 ((WZ hdv (show 126+4 * k+j<N by omega)).mono fun v1 m1 ⟨r1,u1⟩=>?_)
  subst r1
  have hlm:=hu.next
  have gp1:=qx u1 (by omega) gp
  have gv1:=qx u1 (by omega) gv
  simp -implicitDefEqProofs only [st0,qc,reduceIte,Kb]
  refine zT (E:=zk) [qs 64] (by decide) (hv.qt u1) (by simp; omega) fun v2 m2 q1 q2 q3=>?_
  have nv:∀ c,c<m0.next→c∉qg v:=fun c hc hm=>by have:=hvb c hm; omega
  have hn1:=u1.next
  have q2':Upd [] m0 m2:=(hu.qE u1).then' q2 fun b hb=>.inr (hvb b hb)
  have gp2:=(q2.same p (by omega) (nv p hne.1)).trans gp1
  have gv2:=(q2.same vb (by omega) (nv vb hne.2)).trans gv1
  have hdv2:Dv d sb um N m2:=(hdv.qt u1).upd q2 fun b hb=>by have:=hvb b hb; omega
  rw [← List.replicate_succ'] at q1
  simp -implicitDefEqProofs only [st0,qc,reduceIte,qD (i:=j) (by omega)]
  refine kh (fun r hr=>?_) (ih (j+1) m2 v2 (by omega) (by omega) hdv2 gp2 gv2 q1 (fun b hb=>(q3 b hb).elim (hvb b) (fun h=>by omega)) q2' hlt)
  simp only [List.mem_cons,List.not_mem_nil,or_false] at hr
  subst hr
  exact okR fun k _ hk=>by
   have:k=0∨k=1:=by omega
   rcases this with rfl|rfl
   ·exact ⟨_,rfl,l0⟩
   ·exact ⟨_,rfl,l0⟩
theorem qcO {d sb um N p vb k:Nat} {r:List Value} {T:TypeId} (hN:126+4 * k+4≤N) (hk:k≤200) {m:Mem} (hne:p<m.next∧vb<m.next) (hdv:Dv d sb um N m) (gp:m.get p=some ⟨.cells (.pointer (some ⟨d,0,none⟩)::r) T,false,none⟩) (gv:m.get vb=some ⟨.cells [.int .i64 (k:Int)] 3,false,none⟩) :
  W (Call S tab 88 [.pointer (some ⟨p,0,none⟩),.func (.func 89) #[] #[.pointer (some ⟨vb,0,none⟩)]] m) fun r m'=>r=str (qs 256)∧Upd [] m m':=by
 rw [C88]
 exact Hc hN hk hne 4 0 m _ rfl (by omega) hdv gp gv (TAp.nil _) (fun c hc=>by simp [qg] at hc) (Upd.refl _ _) hdv.lt
end Go.Fx.Tryz
namespace Go.Fx.Tryz
open Go Go.Fx
abbrev pgB (d:Nat) (v:Value):ABlk:=⟨.cells [.pointer (some ⟨d,0,none⟩),v,.bool false,.int .i64 0] 155,false,none⟩
theorem qbq {d sb um N p P:Nat} (hN:126+4 * P≤N) (hP:P≤160) {m0:Mem} (hp:p<m0.next) (hlt:d<m0.next∧sb<m0.next∧um<m0.next) (hpd:p≠d∧p≠sb∧p≠um) {Q:Value→Mem→Prop}
  (hQ:∀ m v,Dv d sb um N m→m.get p=some (pgB d v)→TAp zk 9 m v (List.replicate P (qs 256))→(∀ b∈qg v,m0.next≤b)→Upd [p] m0 m→W (qee (.pointer (some ⟨d,0,none⟩)) (.pointer (some ⟨p,0,none⟩)) m) Q) :
  ∀ (n i:Nat) (m:Mem) (v:Value),P - i=n→i≤P→Dv d sb um N m→m.get p=some (pgB d v)→TAp zk 9 m v (List.replicate i (qs 256))→(∀ b∈qg v,m0.next≤b)→Upd [p] m0 m →
  W (qaD (.pointer (some ⟨d,0,none⟩)) (.pointer (some ⟨p,0,none⟩)) (.int .i64 (P:Int)) (.int .i64 (i:Int)) m) Q:=by
 intro n
 induction n with
 | zero =>
  intro i m v hd hi hdv gp hv hvb hu
  obtain rfl:i=P:=by omega
  rw [P37_0_eq]
  simp -implicitDefEqProofs only [st0,qc,reduceIte,Int.lt_irrefl]
  exact hQ m v hdv gp hv hvb hu
 | succ n ih =>
  intro i m v hd hi hdv gp hv hvb hu
  have hlt':i<P:=by omega
  have e1:((i:Int)<(P:Int))=True:=eq_true (by omega)
  have hlm:=hu.next
  rw [P37_0_eq]
  simp -implicitDefEqProofs only [st0,qc,reduceIte,e1]
  have u1:Upd [] m (m.add ⟨.cells [.int .i64 0] 3,false,none⟩):=Upd.add _ _ _
  have g1:(m.add ⟨.cells [.int .i64 0] 3,false,none⟩).get m.next=some ⟨.cells [.int .i64 0] 3,false,none⟩:=Mem.qk ..
  have n1:(m.add ⟨.cells [.int .i64 0] 3,false,none⟩).next=m.next+1:=rfl
  generalize (m.add ⟨.cells [.int .i64 0] 3,false,none⟩)=m1 at u1 g1 n1
  have e2:qi 1 (.pointer (some ⟨m.next,0,none⟩)) (.int .i64 (i:Int)) m1=some (m1.put m.next ⟨.cells [.int .i64 (i:Int)] 3,false,none⟩):=zt g1 (by simp) rfl rfl
  have g2:(m1.put m.next ⟨.cells [.int .i64 (i:Int)] 3,false,none⟩).get m.next=_:=Mem.qj ..
  have u2:Upd [] m (m1.put m.next ⟨.cells [.int .i64 (i:Int)] 3,false,none⟩):=u1.jP _ (.inr (Nat.le_refl _))
  have n2:(m1.put m.next ⟨.cells [.int .i64 (i:Int)] 3,false,none⟩).next=m1.next:=rfl
  simp -implicitDefEqProofs only [st0,qc,reduceIte,e2]
  generalize (m1.put m.next ⟨.cells [.int .i64 (i:Int)] 3,false,none⟩)=m2 at g2 u2 n2
  have gp2:=qx u2 (by omega) gp
  have hdv2:=hdv.qt u2
  have lp:∀ {M:Mem} {x:Value},M.get p=some (pgB d x)→qb (.pointer (some ⟨p,0+1,none⟩)) M=some x:=fun g=>qu g rfl
  simp -implicitDefEqProofs only [st0,qc,reduceIte,nck,fa,lp gp2]
  refine qn.2 ((qcO (by omega) (by omega) ⟨by omega,by omega⟩ hdv2 gp2 g2).mono fun v3 m3 ⟨r3,u3⟩=>?_)
  subst r3
  have x3:=u3.next
  have u03:Upd [] m m3:=u2.qE u3
  have gp3:=qx u03 (by omega) gp
  simp -implicitDefEqProofs only [st0,qc,reduceIte,Kb]
  refine zT (E:=zk) [qs 256] (by decide) (hv.qt u03) (by simp; omega) fun v4 m4 q1 q2 q3=>?_
  have x4:=q2.next
  have nv:∀ c,c<m0.next→c∉qg v:=fun c hc hm=>by have:=hvb c hm; omega
  have gp4:=(q2.same p (by omega) (nv p hp)).trans gp3
  have e5:qi 1 (.pointer (some ⟨p,0+1,none⟩)) v4 m4=some (m4.put p (pgB d v4)):=zt gp4 (by simp) q1.one.1 q1.one.2
  have hdv4:Dv d sb um N m4:=(hdv.qt u03).upd q2 fun b hb=>by have:=hvb b hb; omega
  have u5:Upd [p] m4 (m4.put p (pgB d v4)):=Upd.put _ _ (by simp)
  have hv4b:∀ b∈qg v4,m0.next≤b:=fun b hb=>(q3 b hb).elim (hvb b) (fun h=>by omega)
  rw [← List.replicate_succ'] at q1
  simp -implicitDefEqProofs only [st0,qc,reduceIte,nck,fa,e5,qD (i:=i) (by omega)]
  refine kh (fun r hr=>?_) (ih (i+1) _ v4 (by omega) hlt' (hdv4.upd u5 fun b hb=>by simp at hb; subst hb; exact hpd) (Mem.qj ..) (q1.upd u5 fun b hb hm=>by simp at hm; have:=hv4b b hb; omega) hv4b (((hu.qE u03).then' q2 fun b hb=>.inr (hvb b hb)).trans u5))
  simp only [List.mem_cons,List.not_mem_nil,or_false] at hr
  subst hr
  exact okR fun k _ hk=>by
   have:k=0∨k=1∨k=2:=by omega
   rcases this with rfl|rfl|rfl
   ·exact ⟨_,rfl,lp gp2⟩
   ·exact ⟨_,rfl,lp gp3⟩
   ·exact ⟨_,rfl,lp (by rw [Mem.zX _ _ (by omega)]; exact gp3)⟩
theorem qac (n:Nat) (hn:n≤1000) (m:Mem):Call S tab 39 [.int .i64 (n:Int)] m=some (.int .i64 ((126+4 * n:Nat):Int),m):=by
 refine W_eq ?_
 have:=WE n 0 hn (by omega) m
 rw [Nat.add_zero] at this
 have:Call S tab 90 [.int .i64 (n:Int),.int .i64 0] m=_:=this
 rw [C39]
 simp -implicitDefEqProofs only [st0,qc,reduceIte,this]
 exact ⟨trivial,trivial⟩
theorem qiY (v w:Value) (hv:v.cells=#[v]) (hw:w.cells=#[w]):qz [.slice none 0 0,.map none,.int .i64 0,.int .i64 0] [(0,1,v),(1,1,w),(3,1,.int .i64 4611686018427387904)]=some [v,w,.int .i64 0,.int .i64 4611686018427387904]:=by
 have h4:(Value.int .i64 4611686018427387904).cells=#[.int .i64 4611686018427387904]:=rfl
 simp [qz,hv,hw,h4,zW,xj]
theorem qfs (n:Nat) (hn:n≤160) (m:Mem):W (Call S tab 38 [.int .i64 ((126+4 * n:Nat):Int)] m) fun r m'=>∃ d sb um,r=.pointer (some ⟨d,0,none⟩)∧Dv d sb um (126+4 * n) m'∧d<m'.next∧Upd [] m m':=by
 have e1:(((0:Int) > ((126+4 * n:Nat):Int)))=False:=eq_false (by omega)
 have e2:(((4096:Int)<((126+4 * n:Nat):Int)))=False:=eq_false (by omega)
 have e3:vf 232 64 z64 (.int .i64 ((126+4 * n:Nat):Int)) (.int .i64 ((126+4 * n:Nat):Int)) m=some (.slice (some ⟨m.next,0,none⟩) (126+4 * n) (126+4 * n),m.add ⟨.cells (List.replicate (126+4 * n) z64).flatten 232,false,none⟩):=by
  simp only [vf]
  rw [if_pos ⟨by omega,by omega,by omega,by omega⟩]
  simp only [Int.toNat_natCast]
 rw [C38]
 simp -implicitDefEqProofs only [st0,qc,reduceIte,e1,e2,qfV,e3]
 rw [← qca]
 have u1:Upd [] m (m.add ⟨.cells (JA.flat (List.replicate (126+4 * n) ())) 232,false,none⟩):=Upd.add _ _ _
 have g1:(m.add ⟨.cells (JA.flat (List.replicate (126+4 * n) ())) 232,false,none⟩).get m.next=some ⟨.cells (JA.flat (List.replicate (126+4 * n) ())) 232,false,none⟩:=Mem.qk ..
 have n1:(m.add ⟨.cells (JA.flat (List.replicate (126+4 * n) ())) 232,false,none⟩).next=m.next+1:=rfl
 generalize (m.add ⟨.cells (JA.flat (List.replicate (126+4 * n) ())) 232,false,none⟩)=m1 at u1 g1 n1
 simp -implicitDefEqProofs only [st0,qc,reduceIte,zK]
 have u2:Upd [] m1 (m1.add ⟨.map [] 0,false,none⟩):=Upd.add _ _ _
 have g2:(m1.add ⟨.map [] 0,false,none⟩).get m1.next=some ⟨.map [] 0,false,none⟩:=Mem.qk ..
 have n2:(m1.add ⟨.map [] 0,false,none⟩).next=m1.next+1:=rfl
 have k2:=qx u2 (by omega) g1
 generalize (m1.add ⟨.map [] 0,false,none⟩)=m2 at u2 g2 n2 k2
 simp -implicitDefEqProofs only [st0,qc,reduceIte,qiY (.slice (some ⟨m.next,0,none⟩) (126+4 * n) (126+4 * n)) (.map (some m1.next)) rfl rfl,qR]
 have u3:Upd [] m2 (m2.add ⟨.cells [.slice (some ⟨m.next,0,none⟩) (126+4 * n) (126+4 * n),.map (some m1.next),.int .i64 0,.int .i64 4611686018427387904] 161,false,none⟩):=Upd.add _ _ _
 refine ⟨m2.next,m.next,m1.next,rfl,⟨⟨_,_,Mem.qk ..⟩,qx u3 (by omega) k2,qx u3 (by omega) g2,⟨by show m2.next<m2.next+1; omega,by show m.next<m2.next+1; omega,by show m1.next<m2.next+1; omega⟩⟩,by show m2.next<m2.next+1; omega,(u1.qE u2).qE u3⟩
theorem qeP (m:Mem):Call S tab 91 [str (qs 64)] m=some (.bool false,m):=by
 refine W_eq ?_
 have e1:arith .neq (str (qs 64)) (.string ⟨#[]⟩)=some (.bool true):=(ZV (qs 64) []).trans (by rfl)
 have e2:zA (str (qs 64)) (.int .i64 0)=some (.int .u8 0):=ZW (l:=qs 64) (i:=0) (b:=0) rfl
 have e3:arith .neq (.int .u8 0) (.int .u8 0)=some (.bool false):=rfl
 rw [C91]
 simp -implicitDefEqProofs only [st0,qc,reduceIte,e1,e2,e3]
 exact ⟨trivial,trivial⟩
theorem qiX (d:Nat):qz [.pointer none,.slice none 0 0,.bool false,.int .i64 0] [(0,1,.pointer (some ⟨d,0,none⟩))]=some [.pointer (some ⟨d,0,none⟩),.slice none 0 0,.bool false,.int .i64 0]:=by kernel_rfl
theorem qcN {d sb um n:Nat} (hn1:1≤n) (hn:n≤160) {m:Mem} (hdv:Dv d sb um (126+4 * n) m):W (Call S tab 37 [.pointer (some ⟨d,0,none⟩),.int .i64 (n:Int)] m) fun r m'=>∃ p v,r=.tuple #[.pointer (some ⟨p,0,none⟩),.int .i64 0]∧m'.get p=some (pgB d v)∧p<m'.next∧TAp zk 9 m' v (List.replicate n (qs 256))∧m.next≤p∧Upd [] m m':=by
 have e1:((n:Int)<1)=False:=eq_false (by omega)
 have e2:((160:Int)<(n:Int))=False:=eq_false (by omega)
 obtain ⟨a,b,hd⟩:=hdv.hd
 have l0:qb (.pointer (some ⟨d,0+0,none⟩)) m=some (.slice (some ⟨sb,0,none⟩) (126+4 * n) (126+4 * n)):=qu hd rfl
 have el:qf (.slice (some ⟨sb,0,none⟩) (126+4 * n) (126+4 * n))=some (.int .i64 ((126+4 * n:Nat):Int)):=rfl
 have hsz:Call S tab 87 [.pointer (some ⟨d,0,none⟩)] m=some (.int .i64 ((126+4 * n:Nat):Int),m):=by
  refine W_eq ?_
  rw [C87]
  simp -implicitDefEqProofs only [st0,qc,reduceIte,yT,nck,fa,l0,el]
  exact ⟨trivial,trivial⟩
 have e3:(((126+4 * n:Nat):Int)<((126+4 * n:Nat):Int))=False:=eq_false (by omega)
 rw [C37]
 simp -implicitDefEqProofs only [st0,qc,reduceIte,yT,e1,e2,hsz,qac n (by omega),e3,qiX,qR]
 have u1:Upd [] m (m.add (pgB d (.slice none 0 0))):=Upd.add _ _ _
 have g1:(m.add (pgB d (.slice none 0 0))).get m.next=some (pgB d (.slice none 0 0)):=Mem.qk ..
 have n1:(m.add (pgB d (.slice none 0 0))).next=m.next+1:=rfl
 generalize (m.add (pgB d (.slice none 0 0)))=m1 at u1 g1 n1
 obtain ⟨t1,t2,t3⟩:=hdv.lt
 refine qbq (N:=126+4 * n) (m0:=m1) (Nat.le_refl _) hn (by omega) ⟨by omega,by omega,by omega⟩ ⟨by omega,by omega,by omega⟩ (fun m2 v hdv2 gp hv hvb u2=>?_) _ 0 m1 _ rfl (Nat.zero_le _) (hdv.qt u1) g1 (TAp.nil _) (fun c hc=>by simp [qg] at hc) (Upd.refl _ _)
 have x2:=u2.next
 rw [P37_1_eq]
 have hd2:=WZ hdv2 (i:=0) (by omega)
 refine qn.2 (hd2.mono fun v3 m3 ⟨r3,u3⟩=>?_)
 subst r3
 have x3:=u3.next
 simp -implicitDefEqProofs only [st0,qc,reduceIte,qeP]
 exact ⟨m.next,v,rfl,qx u3 (by omega) gp,by omega,hv.qt u3,Nat.le_refl _,(u1.then' u2 fun b hb=>.inr (by simp at hb; omega)).qE u3⟩
end Go.Fx.Tryz
