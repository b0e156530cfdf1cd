/- Parts of a proof: TreeMa, TreeMb, TreeMc, TreeMd. Conditions: none. -/
import Derived.Test.YtnngjdfadfblmaaGreatDoorQt20
set_option linter.unusedSimpArgs false
set_option linter.unusedVariables false
namespace Go.Fx.Tryz
open Go Go.Fx
theorem Vb {α:Type} (l:List α) (j:Nat) {i:Nat} (h:i<l.length):(l.take (i+1)).eraseIdx j=(l.take i).eraseIdx j++(if i=j then [] else [l[i]]):=by
 have hl:(l.take i).length=i:=by rw [List.length_take]; omega
 rw [List.take_succ_eq_append_getElem h]
 rcases Nat.lt_trichotomy i j with h1|h1|h1
 ·rw [List.eraseIdx_append_of_length_le (by omega),if_neg (by omega),List.eraseIdx_of_length_le (l:=l.take i) (by omega),List.eraseIdx_of_length_le (by simp; omega)]
 ·subst h1
  rw [List.eraseIdx_append_of_length_le (by omega),if_pos rfl,List.eraseIdx_of_length_le (l:=l.take i) (by omega),hl,Nat.sub_self]; rfl
 ·rw [List.eraseIdx_append_of_lt_length (by omega),if_neg (by omega)]
theorem _root_.Go.Fx.TN.qhz {lo:Nat} {m m':Mem} {fp:List Nat} {b:Bool} {sp sk si:Value} {n:Nd} (h:TN lo m (jM b sp sk si) n) (hu:Upd fp m m') (hf:∀ c∈(qe sp++qe sk)++qe si,c∉fp):TN lo m' (jM b sp sk si) n:=by
 obtain ⟨tp,tk,ti,e,h1,h2,h3⟩:=h.ex
 injection e with e
 injection e with e
 injection e with e1 e
 injection e with e2 e
 injection e with e3 e
 injection e with e4 e
 injection e1 with e1
 subst e1 e2 e3 e4
 exact ⟨_,_,_,rfl,h1.zF hu (fun c hc=>hf c (by simp [hc])),h2.zF hu (fun c hc=>hf c (by simp [hc])),h3.zF hu (fun c hc=>hf c (by simp [hc]))⟩
structure Me (lo:Nat) (ks:List Bs) (ps:List Nat) (nb:Nat) (sp sk si:Value) (m:Mem):Prop where
 gn:m.get nb=some (qh false sp sk si)
 k2:RSl lo zi m sk ks
 k3:RSl lo zG m si ps
theorem Me.zF {lo:Nat} {ks:List Bs} {ps:List Nat} {nb:Nat} {sp sk si:Value} {m m':Mem} (h:Me lo ks ps nb sp sk si m) {fp:List Nat} (hu:Upd fp m m') (hl:nb<m.next) (hf:nb∉fp∧(∀ b∈qe sk,b∉fp)∧∀ b∈qe si,b∉fp):Me lo ks ps nb sp sk si m' :=
 ⟨(hu.same _ hl hf.1).trans h.gn,h.k2.zF hu hf.2.1,h.k3.zF hu hf.2.2⟩
theorem Me.qt {lo:Nat} {ks:List Bs} {ps:List Nat} {nb:Nat} {sp sk si:Value} {m m':Mem} (h:Me lo ks ps nb sp sk si m) (hu:Upd [] m m') (hl:nb<m.next):Me lo ks ps nb sp sk si m' :=
 h.zF hu hl ⟨by simp,fun _ _=>by simp,fun _ _=>by simp⟩
theorem XG {lo:Nat} {m:Mem} {si:Value} {ps:List Nat} (h:RSl lo zG m si ps) {i p:Nat} (hi:ps[i]? = some p):∃ pk,ql 1 si (.int .i64 (i:Int))=some pk∧∀ M,RSl lo zG M si ps→qb pk M=some (.int .i64 (p:Int)):=by
 obtain ⟨b,off,h1,h2⟩:=h.1.at .i64 hi
 rw [jG] at h1
 refine ⟨_,h1,fun M hM=>?_⟩
 have:=(h2 M hM.1).2 0 (.int .i64 (p:Int)) rfl
 rwa [Nat.add_zero] at this
theorem KT {lo:Nat} {m:Mem} {sk:Value} {ks:List Bs} (h:RSl lo zi m sk ks) {i:Nat} {k:Bs} (hi:ks[i]? = some k):∃ pk,ql 1 sk (.int .i64 (i:Int))=some pk∧∀ M,RSl lo zi M sk ks→qb pk M=some (str k):=by
 obtain ⟨b,off,h1,h2⟩:=h.1.at .i64 hi
 rw [xm] at h1
 refine ⟨_,h1,fun M hM=>?_⟩
 have:=(h2 M hM.1).2 0 (str k) rfl
 rwa [Nat.add_zero] at this
theorem qbk {lo nb ob j:Nat} {ks:List Bs} {ps:List Nat} {sp sk si x0 x8 x12:Value} {m0:Mem} {Q:Value→Mem→Prop} (hl:ps.length=ks.length+1) (hps:ps.length≤200) (hj:j≤200) (hm:Me lo ks ps nb sp sk si m0)
  (hb:(nb<m0.next∧nb≠ob)∧(∀ b∈qe sk,b≠ob)∧∀ b∈qe si,b≠ob)
  (hQ:∀ m kv iv,Ou m0 ob m kv iv (ks.eraseIdx j) (ps.eraseIdx (j+1))→W (Vy x0 (.int .i64 (j:Int)) (.pointer (some ⟨nb,0,none⟩)) x8 x12 (.pointer (some ⟨ob,0,none⟩)) m) Q) :
  ∀ (d i:Nat) (m:Mem) (kv iv:Value),ps.length - i=d→i≤ps.length→Ou m0 ob m kv iv ((ks.take (i - 1)).eraseIdx j) ((ps.take i).eraseIdx (j+1)) →
  W (XW x0 (.int .i64 (j:Int)) (.pointer (some ⟨nb,0,none⟩)) x8 x12 (.pointer (some ⟨ob,0,none⟩)) si (.int .i64 (ps.length:Int)) (.int .i64 (i:Int)) m) Q:=by
 intro d
 induction d with
 | zero =>
  intro i m kv iv hd hi h
  obtain rfl:i=ps.length:=by omega
  rw [P106_1_eq]
  simp -implicitDefEqProofs only [st0,qc,reduceIte,Int.lt_irrefl]
  rw [List.take_of_length_le (by omega),List.take_of_length_le (by omega)] at h
  exact hQ m kv iv h
 | succ d ih =>
  intro i m kv iv hd hi h
  have hlt:i<ps.length:=by omega
  have he:Me lo ks ps nb sp sk si m:=hm.zF h.up hb.1.1 ⟨by simp; exact hb.1.2,fun b hb'=>by simp; exact hb.2.1 b hb',fun b hb'=>by simp; exact hb.2.2 b hb'⟩
  have e1:((i:Int)<(ps.length:Int))=True:=eq_true (by omega)
  obtain ⟨p,h1,h2⟩:=XG he.k3 (ja hlt)
  have h2:=h2 m he.k3
  have hs:=Vb ps (j+1) hlt
  have hadd:arith .add (.int .i64 (j:Int)) (.int .i64 1)=some (.int .i64 ((j+1:Nat):Int)):=qE (by omega)
  have hok:((ks.take (i - 1)).eraseIdx j).length≤400:=by
   have:=List.length_eraseIdx_le (ks.take (i - 1)) j
   rw [List.length_take] at this; omega
  have hoi:((ps.take i).eraseIdx (j+1)).length≤400:=by
   have:=List.length_eraseIdx_le (ps.take i) (j+1)
   rw [List.length_take] at this; omega
  rw [P106_1_eq]
  by_cases hij:i=j+1
  ·have e2:((i:Int)=((j+1:Nat):Int))=True:=eq_true (by omega)
   simp -implicitDefEqProofs only [st0,qc,reduceIte,e1,h1,h2,hadd,e2,qE (i:=i) (by omega)]
   refine ih (i+1) m kv iv (by omega) hlt ?_
   rw [hs,if_pos hij,List.append_nil]
   have hk:=Vb ks j (i:=i - 1) (by omega)
   rw [if_pos (by omega),List.append_nil,show i - 1+1=i+1 - 1 by omega] at hk
   rw [hk]; exact h
  ·have e2:((i:Int)=((j+1:Nat):Int))=False:=eq_false (by omega)
   rw [if_neg hij] at hs
   have tail:∀ {M:Mem} {kv iv:Value},Ou m0 ob M kv iv ((ks.take (i+1 - 1)).eraseIdx j) ((ps.take i).eraseIdx (j+1)) →
     W (Vz x0 (.int .i64 (j:Int)) (.pointer (some ⟨nb,0,none⟩)) x8 x12 (.pointer (some ⟨ob,0,none⟩)) (.int .i64 (ps[i]:Int)) si (.int .i64 (ps.length:Int)) (.int .i64 (i:Int)) M) Q:=by
    intro M kv iv ho
    rw [P106_2_eq]
    simp -implicitDefEqProofs only [st0,qc,reduceIte,fa,ho.ld.2,qdk]
    refine zU (E:=zG) [ps[i]] (by decide) ho.ti (by simp only [List.length_cons,List.length_nil]; omega) fun v2 m2 q1 q2 q3=>?_
    obtain ⟨g2,o2⟩:=ho.qhd q1 q2 q3
    simp -implicitDefEqProofs only [st0,qc,reduceIte,fa,wB g2 q1.one,qE (i:=i) (by omega)]
    refine ih (i+1) _ kv v2 (by omega) hlt ?_
    rw [hs]; exact o2
   by_cases h0:i=0
   ·have e3:((0:Int)<(i:Int))=False:=eq_false (by omega)
    simp -implicitDefEqProofs only [st0,qc,reduceIte,e1,h1,h2,hadd,e2,e3]
    refine tail (kv:=kv) (iv:=iv) ?_
    subst h0
    exact h
   ·have e3:((0:Int)<(i:Int))=True:=eq_true (by omega)
    have hlk:i - 1<ks.length:=by omega
    obtain ⟨pk,y1,y2⟩:=KT he.k2 (ja hlk)
    have y2:=y2 m he.k2
    have e4:arith .sub (.int .i64 (i:Int)) (.int .i64 1)=some (.int .i64 ((i - 1:Nat):Int)):=by rw [zS (by omega) (by omega)]; congr 2; omega
    have hk:=Vb ks j hlk
    rw [if_neg (by omega),show i - 1+1=i+1 - 1 by omega] at hk
    simp -implicitDefEqProofs only [st0,qc,reduceIte,e1,h1,h2,hadd,e2,e3,fa,h.ld.1,qG he.gn (o:=0+2) rfl,e4,y1,y2,JM]
    refine zU (E:=zi) [ks[i - 1]] (by decide) h.tk (by simp only [List.length_cons,List.length_nil]; omega) fun v2 m2 q1 q2 q3=>?_
    obtain ⟨g2,o2⟩:=h.qhc q1 q2 q3
    simp -implicitDefEqProofs only [st0,qc,reduceIte,fa,Qc g2 q1.one]
    refine kz (fun r hr=>?_) (tail (by rw [hk]; exact o2))
    simp only [List.mem_cons,List.not_mem_nil,or_false] at hr
    rcases hr with rfl|rfl|rfl
    ·exact okR fun k _ hk=>by
      have:k=0∨k=1:=by omega
      rcases this with rfl|rfl
      ·exact ⟨_,rfl,h.ld.1⟩
      ·exact ⟨_,rfl,(h.qt (Upd.add _ _ _)).ld.1⟩
    ·exact okR fun k _ hk=>by
      obtain rfl:k=0:=by omega
      exact ⟨_,rfl,qG he.gn rfl⟩
    ·exact okR fun k _ hk=>by
      obtain rfl:k=0:=by omega
      exact ⟨_,rfl,y2⟩
section
variable {x:Wx} {m:Mem}
theorem qeV (a:Bs) (p:Nat) (b:Bs) (q:Nat):qy [.string ⟨#[]⟩,.int .i64 0,.string ⟨#[]⟩,.int .i64 0] [(0,2,.agg [str a,.int .i64 (p:Int)].toArray),(2,2,.agg [str b,.int .i64 (q:Int)].toArray)]=some (zL.flat [(a,p),(b,q)]):=by kernel_rfl
set_option maxRecDepth 4000 in
theorem qbj {lo nb ob bb rb j p1 p2:Nat} {sp sk si kv iv bp bk bi:Value} {ks:List Bs} {ps:List Nat} {ok:List Bs} {oi:List Nat} {n:Nd} (h:XR x m) (he:x.err=0) (hfp:∀ b∈x.fp,b<lo) (hcp:x.o.c<lo∧x.o.p<lo) (hlo:lo≤m.next)
    (hb:(lo≤nb∧nb<m.next)∧(lo≤ob∧ob<m.next)∧(lo≤bb∧bb<m.next)∧(lo≤rb∧rb<m.next)) (hrk:(∀ b∈qe kv,b≠rb)∧∀ b∈qe iv,b≠rb)
    (hm:Me lo ks ps nb sp sk si m) (go:m.get ob=some (qh false (.slice none 0 0) kv iv)) (tk:RSl lo zi m kv ok) (ti:RSl lo zG m iv oi)
    (gb:m.get bb=some (qh n.leaf bp bk bi)) (tb:TN lo m (jM n.leaf bp bk bi) n) (gr:m.get rb=some (qh false (.slice none 0 0) (.slice none 0 0) (.slice none 0 0)))
    (hj1:ps[j]? = some p1) (hj2:ps[j+1]? = some p2) (hj:j≤200) (hh1:x.o.has p1=true) (hh2:x.o.has p2=true) (hne:p1≠p2) (hr:qO n=true) (hw:wtN n)
    (hs:¬ qV n≤256→(if n.leaf then 2≤n.pairs.length else 3≤n.keys.length∧n.kids.length=n.keys.length+1)∧qO (qB n).1=true∧qV (qB n).1≤256∧qO (qB n).2.1=true∧qV (qB n).2.1≤256)
    (hol:oi.length≤ok.length+1∧oi.length≤200) :
    W (Vy x.v (.int .i64 (j:Int)) (.pointer (some ⟨nb,0,none⟩)) (.pointer (some ⟨rb,0,none⟩)) (.pointer (some ⟨bb,0,none⟩)) (.pointer (some ⟨ob,0,none⟩)) m) fun r m'=>Upd (rb::x.fp) m m' ∧
      ((qV n≤256∧TN lo m' r (Nd.nd ok oi)∧∃ c,XR { x with o:={ x.o with u:=zZ x.o.u p2,L:=upL x.o.L p1 (zx n) c } } m') ∨
       (¬ qV n≤256∧TN lo m' r (kF (Nd.nd ok oi) j [([],p1),((qB n).2.2,p2)])∧∃ c1 c2,XR { x with o:={ x.o with L:=upL (upL x.o.L p1 (zx (qB n).1) c1) p2 (zx (qB n).2.1) c2 } } m')):=by
  obtain ⟨⟨b1,b2⟩,⟨b3,b4⟩,⟨b5,b6⟩,⟨b7,b8⟩⟩:=hb
  have hP:=h.wr.hP
  have l1:=xu hh1
  have l2:=xu hh2
  have nf:∀ {b:Nat},lo≤b→b∉x.fp:=fun hb hm=>by have:=hfp _ hm; omega
  have sub1:∀ b,b∈[x.o.pm,x.xb]→b∈x.fp:=fun b hb=>List.mem_cons.2 (.inr hb)
  have sub2:∀ b,b∈[x.o.w,x.xb]→b∈x.fp:=fun b hb=>by simp only [List.mem_cons,List.not_mem_nil,or_false,Wx.fp] at hb ⊢; omega
  have subr:∀ b,b∈x.fp→b∈rb::x.fp:=fun b hb=>List.mem_cons.2 (.inr hb)
  have mk:∀ {M M':Mem},m.next≤M.next→Me lo ks ps nb sp sk si M→Upd x.fp M M'→Me lo ks ps nb sp sk si M':=fun hn h hu=>h.zF hu (by omega) ⟨nf b1,fun b hb=>nf (h.k2.2 b hb).1,fun b hb=>nf (h.k3.2 b hb).1⟩
  have hadd:arith .add (.int .i64 (j:Int)) (.int .i64 1)=some (.int .i64 ((j+1:Nat):Int)):=qE (by omega)
  obtain ⟨pk1,i1,i1'⟩:=XG hm.k3 hj1
  obtain ⟨pk2,i2,i2'⟩:=XG hm.k3 hj2
  rw [P106_3_eq]
  simp -implicitDefEqProofs only [st0,qc,reduceIte,qF gb]
  refine qo.2 ((ZC tb (QB hr hw)).mono fun v1 m1 ⟨r1,u1⟩=>?_)
  subst r1
  have x1:=u1.next
  have h1:=h.qt u1
  have hm1:=hm.qt u1 b2
  have go1:=qA u1 b4 go
  have gb1:=qA u1 b6 gb
  have gr1:=qA u1 b8 gr
  have tb1:=tb.qt u1
  have tk1:=tk.qt u1
  have ti1:=ti.qt u1
  by_cases hsz:qV n≤256
  · have e1:(((qV n:Nat):Int)≤256)=True:=eq_true (by omega)
    simp -implicitDefEqProofs only [st0,qc,reduceIte,e1,fa,qG hm1.gn (o:=0+3) rfl,i1,i1' m1 hm1.k3,qF gb1]
    refine qo.2 ((wq h1 he (by omega) tb1 hh1 hr hsz).mono fun v2 m2 ⟨r2,⟨c,h2⟩,u2⟩=>?_)
    have x2:=u2.next
    have u2:Upd x.fp m1 m2:=u2.mono fun b hb _=>sub1 b hb
    have hm2:=mk x1 hm1 u2
    have go2:=(u2.same ob (by omega) (nf b3)).trans go1
    have gr2:=(u2.same rb (by omega) (nf b7)).trans gr1
    simp -implicitDefEqProofs only [st0,qc,reduceIte,fa,qG hm2.gn (o:=0+3) rfl,hadd,i2,i2' m2 hm2.k3]
    refine qo.2 ((qcg h2 he (by omega) (by show Wo.has x.o p2=true; exact hh2)).mono fun v3 m3 ⟨r3,h3,u3⟩=>?_)
    have x3:=u3.next
    have u3:Upd x.fp m2 m3:=u3.mono fun b hb _=>sub2 b hb
    have go3:=(u3.same ob (by omega) (nf b3)).trans go2
    have gr3:=(u3.same rb (by omega) (nf b7)).trans gr2
    have tk3:=(tk1.upd u2 hfp).upd u3 hfp
    have ti3:=(ti1.upd u2 hfp).upd u3 hfp
    simp -implicitDefEqProofs only [st0,qc,reduceIte,qF go3,qX gr3 false (sp':=.slice none 0 0) (sk':=kv) (si':=iv) rfl tk3.one.2 ti3.one.2,qF (Mem.qj m3 rb _)]
    have hp:Upd [rb] m3 (m3.put rb (qh false (.slice none 0 0) kv iv)):=Upd.put _ _ (by simp)
    refine ⟨(((u1.nil'.trans (u2.mono fun b hb _=>subr b hb)).trans (u3.mono fun b hb _=>subr b hb))).trans (hp.mono fun b hb _=>by simp at hb; simp [hb]),.inl ⟨hsz,⟨_,_,_,rfl,RSl.nil _ _ _,tk3.zF hp (fun b hb=>by simp; exact hrk.1 b hb),ti3.zF hp (fun b hb=>by simp; exact hrk.2 b hb)⟩,c,?_⟩⟩
    refine h3.upd hp fun b hb=>?_
    simp at hb; subst hb
    have w1:=nf b7
    have fw:=h.wr.lw; have fc:=h.wr.lc; have fpp:=h.wr.lp
    simp only [Wx.fp,List.mem_cons,List.not_mem_nil,or_false,not_or] at w1
    refine ⟨w1.2.2,w1.1,w1.2.1,?_,?_⟩
    · show b≠x.o.c
      omega
    · show b≠x.o.p
      omega
  · obtain ⟨s1,s2,s3,s4,s5⟩:=hs hsz
    have e1:(((qV n:Nat):Int)≤256)=False:=eq_false (by omega)
    simp -implicitDefEqProofs only [st0,qc,reduceIte,e1,qF gb1]
    refine qo.2 ((JB tb1 (QB hr hw) s1).mono fun v2 m2 ⟨⟨va,vb,r2,ta,tb'⟩,u2⟩=>?_)
    subst r2
    have x2:=u2.next
    obtain ⟨pa,ka,ia,rfl,a1,a2,a3⟩:=ta.ex
    obtain ⟨pb,kb,ib,rfl,c1,c2,c3⟩:=tb'.ex
    simp -implicitDefEqProofs only [st0,qc,reduceIte,(ex3 _ _ _).1,(ex3 _ _ _).2.1,(ex3 _ _ _).2.2]
    have u4:Upd [] m2 (m2.add (qh false (.slice none 0 0) (.slice none 0 0) (.slice none 0 0))):=Upd.add _ _ _
    have g4:(m2.add (qh false (.slice none 0 0) (.slice none 0 0) (.slice none 0 0))).get m2.next=some (qh false (.slice none 0 0) (.slice none 0 0) (.slice none 0 0)):=Mem.qk ..
    have n4:(m2.add (qh false (.slice none 0 0) (.slice none 0 0) (.slice none 0 0))).next=m2.next+1:=rfl
    generalize (m2.add (qh false (.slice none 0 0) (.slice none 0 0) (.slice none 0 0)))=m4 at u4 g4 n4
    have u5:Upd [] m4 (m4.add (qh false (.slice none 0 0) (.slice none 0 0) (.slice none 0 0))):=Upd.add _ _ _
    have k5:(m4.add (qh false (.slice none 0 0) (.slice none 0 0) (.slice none 0 0))).get m4.next=some (qh false (.slice none 0 0) (.slice none 0 0) (.slice none 0 0)):=Mem.qk ..
    have n5:(m4.add (qh false (.slice none 0 0) (.slice none 0 0) (.slice none 0 0))).next=m4.next+1:=rfl
    have g5:=qA u5 (by omega) g4
    generalize (m4.add (qh false (.slice none 0 0) (.slice none 0 0) (.slice none 0 0)))=m5 at u5 k5 n5 g5
    simp -implicitDefEqProofs only [st0,qc,reduceIte,qX g5 _ a1.one.2 a2.one.2 a3.one.2]
    have u6:Upd [m2.next] m5 (m5.put m2.next (qh (qB n).1.leaf pa ka ia)):=Upd.put _ _ (by simp)
    have g6:(m5.put m2.next (qh (qB n).1.leaf pa ka ia)).get m2.next=_:=Mem.qj ..
    have k6:(m5.put m2.next (qh (qB n).1.leaf pa ka ia)).get m4.next=_:=(Mem.qn m5 _ (by omega)).trans k5
    generalize (m5.put m2.next (qh (qB n).1.leaf pa ka ia))=m6 at u6 g6 k6
    simp -implicitDefEqProofs only [st0,qc,reduceIte,qX k6 _ c1.one.2 c2.one.2 c3.one.2]
    have u7:Upd [m4.next] m6 (m6.put m4.next (qh (qB n).2.1.leaf pb kb ib)):=Upd.put _ _ (by simp)
    have k7:(m6.put m4.next (qh (qB n).2.1.leaf pb kb ib)).get m4.next=_:=Mem.qj ..
    have g7:(m6.put m4.next (qh (qB n).2.1.leaf pb kb ib)).get m2.next=_:=(Mem.qn m6 _ (by omega)).trans g6
    generalize (m6.put m4.next (qh (qB n).2.1.leaf pb kb ib))=m7 at u7 g7 k7
    have x6:=u6.next
    have x7:=u7.next
    have u27:Upd [] m2 m7:=(((u4.qD u5).then' u6 (fun b hb=>.inr (by simp at hb; omega))).then' u7 (fun b hb=>.inr (by simp at hb; omega)))
    have ta7:=ta.qt u27
    have tb7:=tb'.qt u27
    have u17:=u2.qD u27
    have h7:=h1.qt u17
    have hm7:=hm1.qt u17 (by omega)
    have go7:=qA u17 (by omega) go1
    have gr7:=qA u17 (by omega) gr1
    have tk7:=tk1.qt u17
    have ti7:=ti1.qt u17
    have nf2:∀ {b:Nat},m1.next≤b→b∉x.fp:=fun hb=>nf (by omega)
    have hfp1:∀ b∈x.fp,b<m1.next:=fun b hb=>by have:=hfp b hb; omega
    simp -implicitDefEqProofs only [st0,qc,reduceIte,fa,qG hm7.gn (o:=0+3) rfl,i1,i1' m7 hm7.k3,qF g7]
    refine qo.2 ((wq h7 he (by omega) ta7 hh1 s2 s3).mono fun v8 m8 ⟨_,⟨d1,h8⟩,u8⟩=>?_)
    have x8:=u8.next
    have u8:Upd x.fp m7 m8:=u8.mono fun b hb _=>sub1 b hb
    have hm8:=mk (by omega) hm7 u8
    have go8:=(u8.same ob (by omega) (nf b3)).trans go7
    have gr8:=(u8.same rb (by omega) (nf b7)).trans gr7
    have k8:=(u8.same m4.next (by omega) (nf (by omega))).trans k7
    simp -implicitDefEqProofs only [st0,qc,reduceIte,fa,qG hm8.gn (o:=0+3) rfl,hadd,i2,i2' m8 hm8.k3,qF k8]
    refine qo.2 ((wq h8 he (by omega) (tb7.upd u8 hfp1) (by show Wo.has x.o p2=true; exact hh2) s4 s5).mono fun v9 m9 ⟨_,⟨d2,h9⟩,u9⟩=>?_)
    have x9:=u9.next
    have u9:Upd x.fp m8 m9:=u9.mono fun b hb _=>sub1 b hb
    have hm9:=mk (by omega) hm8 u9
    have go9:=(u9.same ob (by omega) (nf b3)).trans go8
    have gr9:=(u9.same rb (by omega) (nf b7)).trans gr8
    have tk9:=(tk7.upd u8 hfp).upd u9 hfp
    have ti9:=(ti7.upd u8 hfp).upd u9 hfp
    have f1:=yK [] p1
    rw [← vQ] at f1
    have f2:=yK (qB n).2.2 p2
    have f3:=qeV [] p1 (qB n).2.2 p2
    rw [← vQ] at f3
    simp -implicitDefEqProofs only [st0,qc,reduceIte,qF go9,fa,qG hm9.gn (o:=0+3) rfl,i1,i1' m9 hm9.k3,f1,hadd,i2,i2' m9 hm9.k3,f2,f3]
    have ua:Upd [] m9 (m9.add ⟨.cells (zL.flat [(([]:Bs),p1),((qB n).2.2,p2)]) 180,false,none⟩):=Upd.add _ _ _
    have na:(m9.add ⟨.cells (zL.flat [(([]:Bs),p1),((qB n).2.2,p2)]) 180,false,none⟩).next=m9.next+1:=rfl
    have tf:TAp zL 180 (m9.add ⟨.cells (zL.flat [(([]:Bs),p1),((qB n).2.2,p2)]) 180,false,none⟩) (.slice (some ⟨m9.next,0,none⟩) [(([]:Bs),p1),((qB n).2.2,p2)].length [(([]:Bs),p1),((qB n).2.2,p2)].length) [([],p1),((qB n).2.2,p2)]:=TAp.fresh m9 _
    have hqm:m9.next<(m9.add ⟨.cells (zL.flat [(([]:Bs),p1),((qB n).2.2,p2)]) 180,false,none⟩).next:=by omega
    generalize (m9.add ⟨.cells (zL.flat [(([]:Bs),p1),((qB n).2.2,p2)]) 180,false,none⟩)=m10 at ua na tf
    have go10:=qA ua (by omega) go9
    have tv:TN lo m10 (jM false (.slice none 0 0) kv iv) (Nd.nd ok oi):=⟨_,_,_,rfl,RSl.nil _ _ _,tk9.qt ua,ti9.qt ua⟩
    refine qo.2 ((Ke (k:=j) tv (tf.rsl (fun b hb=>by simp [qe] at hb; omega)) (Nat.le_refl 2) (by omega) hol.1 hol.2).mono fun v11 m11 ⟨t11,u11⟩=>?_)
    have x11:=u11.next
    have hT:=t11
    obtain ⟨wp,wk,wi,rfl,d3,d4,d5⟩:=t11.ex
    have gr11:=qA (ua.qD u11) (by omega) gr9
    have hlf:(kF (Nd.nd ok oi) j [([],p1),((qB n).2.2,p2)]).leaf=false:=rfl
    rw [hlf] at hT
    rw [hlf]
    simp -implicitDefEqProofs only [st0,qc,reduceIte,qX gr11 false d3.one.2 d4.one.2 d5.one.2,qF (Mem.qj m11 rb _)]
    have hp:Upd [rb] m11 (m11.put rb (qh false wp wk wi)):=Upd.put _ _ (by simp)
    refine kz (fun r hr=>?_) (xI.2 ⟨?_,.inr ⟨hsz,((hT.upd hp (fun b hb=>by simp at hb; omega)).low (by omega)),d1,d2,?_⟩⟩)
    · simp only [List.mem_cons,List.not_mem_nil,or_false] at hr
      rcases hr with rfl|rfl|rfl|rfl|rfl
      · exact okR fun k _ hk=>by
          have:k=0∨k=1:=by omega
          rcases this with rfl|rfl
          · exact ⟨_,rfl,qF go9⟩
          · exact ⟨_,rfl,qF go10⟩
      · exact okR fun k _ hk=>by
          obtain rfl:k=0:=by omega
          exact ⟨_,rfl,qG hm9.gn rfl⟩
      · exact okR fun k _ hk=>by
          obtain rfl:k=0:=by omega
          exact ⟨_,rfl,i1' m9 hm9.k3⟩
      · exact okR fun k _ hk=>by
          obtain rfl:k=0:=by omega
          exact ⟨_,rfl,qG hm9.gn rfl⟩
      · exact okR fun k _ hk=>by
          obtain rfl:k=0:=by omega
          exact ⟨_,rfl,i2' m9 hm9.k3⟩
    · have u19:Upd x.fp m1 m9:=(u17.nil'.trans u8).trans u9
      exact ((((u1.nil' (fp:=x.fp)).trans u19).qD (ua.qD u11)).mono fun b hb _=>subr b hb).trans (hp.mono fun b hb _=>by simp at hb; simp [hb])
    · refine ((h9.qt ua).qt u11).upd hp fun b hb=>?_
      simp at hb; subst hb
      have w1:=nf b7
      simp only [Wx.fp,List.mem_cons,List.not_mem_nil,or_false,not_or] at w1
      refine ⟨w1.2.2,w1.1,w1.2.1,?_,?_⟩
      · show b≠x.o.c
        omega
      · show b≠x.o.p
        omega
end
end Go.Fx.Tryz
namespace Go.Fx.Tryz
open Go Go.Fx
def YU (n:Nd):Nat:=if n.leaf then (n.pairs.map qK).sum else (n.keys.map fun k=>3+k.length).sum
theorem Jy {n:Nd} (h:qV n≤256):YU n≤254∧(n.leaf=false→YU n≤252):=by
 unfold qV at h; unfold YU
 cases hl:n.leaf with
 | true=>rw [hl,if_pos rfl] at h; rw [if_pos rfl]; exact ⟨by omega,fun h=>by cases h⟩
 | false=>rw [hl,if_neg (by simp)] at h; rw [if_neg (by simp)]; exact ⟨by omega,fun _=>by omega⟩
theorem Wp {n:Nd} (h:yr n=true):YU n≤87:=by
 unfold yr qV at h
 unfold YU
 cases hl:n.leaf with
 | true =>
  simp only [hl,if_true,Bool.or_eq_true,decide_eq_true_eq,Bool.true_and,Bool.not_true,Bool.false_and,Bool.false_eq_true,or_false] at h ⊢
  rcases h with h|h
  ·omega
  ·rw [List.isEmpty_iff.1 h]; simp
 | false =>
  simp only [hl,Bool.false_eq_true,if_false,Bool.or_eq_true,decide_eq_true_eq,Bool.false_and,Bool.not_false,Bool.true_and,false_or] at h ⊢
  rcases h with (h|h)|h
  ·omega
  ·cases h
  ·rw [List.isEmpty_iff.1 h]; simp
theorem qes {n:Nd} (h:yr n=false):neN n:=by
 unfold yr at h
 unfold neN
 cases hl:n.leaf with
 | true =>
  rw [hl] at h
  simp only [Bool.or_eq_false_iff,Bool.true_and] at h
  rw [if_pos rfl]
  intro e; rw [e] at h; simp at h
 | false =>
  rw [hl] at h
  simp only [Bool.or_eq_false_iff,Bool.not_false,Bool.true_and] at h
  rw [if_neg (by simp)]
  intro e; rw [e] at h; simp at h
structure Adj (s:Nat→Option Bs) (h:Nat) (lo:Bs) (hi:Option Bs) (ks:List Bs) (ps:List Nat) (l:List Pr) (U:List Nat) (j:Nat) (na nb:Nd) (key:Bs) (p1 p2:Nat) (kc kd:List Bs) (pc pd:List Nat) (lo1:Bs) (hi1:Option Bs) (m0 la lb m2:List Pr) (T0 Ta Tb T2:List Nat):Prop where
 ek:ks=kc++key::kd
 ep:ps=pc++p1::p2::pd
 jc:kc.length=j
 jp:pc.length=j
 fl:FL (Tr s h) lo kc pc lo1 m0 T0
 a1:Pn s p1 na
 a2:Nt s h na lo1 (some key) la Ta
 b1:Pn s p2 nb
 b2:Nt s h nb key hi1 lb Tb
 fr:FR (Tr s h) hi1 hi kd pd m2 T2
 ne:neN na∨neN nb
 po:yr na=true∨yr nb=true
 el:l=m0++((la++lb)++m2)
 eU:U=T0++(((p1::Ta)++(p2::Tb))++T2)
theorem adj {s:Nat→Option Bs} {h c p:Nat} {lo lo':Bs} {hi hi':Option Bs} {ks:List Bs} {ps:List Nat} {l0 l1 l2:List Pr} {U0 U1 U2:List Nat} {n:Nd} (hne:ks≠[]) (hc:c≤ks.length) (hl:ps.length=ks.length+1) (e1:ps=ps.take c++p::ps.drop (c+1))
  (h0:FL (Tr s h) lo (ks.take c) (ps.take c) lo' l0 U0) (hp:Pn s p n) (hn:Nt s h n lo' hi' l1 U1) (h2:FR (Tr s h) hi' hi (ks.drop c) (ps.drop (c+1)) l2 U2) (hpo:yr n=true) :
  ∃ na nb key p1 p2 kc kd pc pd lo1 hi1 m0 la lb m2 T0 Ta Tb T2,Adj s h lo hi ks ps (l0++(l1++l2)) (U0++((p::U1)++U2)) (if 0<c then c - 1 else c) na nb key p1 p2 kc kd pc pd lo1 hi1 m0 la lb m2 T0 Ta Tb T2:=by
 by_cases h0c:0<c
 ·rw [if_pos h0c]
  have q1:c - 1<ks.length:=by omega
  have q2:c - 1<ps.length:=by omega
  have t1:ks.take c=ks.take (c - 1)++[ks[c - 1]]:=by rw [← List.take_succ_eq_append_getElem q1]; congr 1; omega
  have t2:ps.take c=ps.take (c - 1)++[ps[c - 1]]:=by rw [← List.take_succ_eq_append_getElem q2]; congr 1; omega
  rw [t1,t2] at h0
  obtain ⟨rfl,lo1,m1,m2,T1,T2,f1,f2,rfl,rfl⟩:=qaK _ _ _ _ _ _ h0
  obtain ⟨na,Ta,g1,g2,g3,rfl⟩:=zO.1 f2
  refine ⟨na,n,ks[c - 1],ps[c - 1],p,ks.take (c - 1),ks.drop c,ps.take (c - 1),ps.drop (c+1),lo1,hi',m1,m2,l1,l2,T1,Ta,U1,U2,?_,?_,by rw [List.length_take]; omega,by rw [List.length_take]; omega,f1,g1,g3,hp,hn,h2,.inl g2,.inr hpo,by simp,by simp⟩
  ·rw [← List.singleton_append,← List.append_assoc,← t1,List.take_append_drop]
  ·have:ps.take (c - 1)++ps[c - 1]::p::ps.drop (c+1)=ps.take c++p::ps.drop (c+1):=by rw [t2,List.append_assoc]; rfl
   rw [this,← e1]
 ·obtain rfl:c=0:=by omega
  rw [if_neg h0c]
  cases ks with
  | nil=>exact absurd rfl hne
  | cons key kd =>
   obtain ⟨e1',e2',e3'⟩:lo'=lo∧l0=[]∧U0=[]:=h0
   subst e1' e2' e3'
   obtain ⟨e4',h2⟩:hi'=some key∧Fo (Tr s h) key hi kd (ps.drop 1) l2 U2:=h2
   subst e4'
   obtain ⟨p2,lo2,hi1,m0,lb,m2,T0,Tb,T2,x1,x2,x3,x4,rfl,rfl⟩:=qaJ 0 kd (ps.drop 1) key l2 U2 h2 (Nat.zero_le _)
   obtain ⟨rfl,rfl,rfl⟩:lo2=key∧m0=[]∧T0=[]:=x2
   obtain ⟨nb,Tb',g1,g2,g3,rfl⟩:=zO.1 x3
   refine ⟨n,nb,lo2,p,p2,[],kd,[],(ps.drop 1).drop 1,lo',hi1,[],l1,lb,m2,[],U1,Tb',T2,rfl,?_,rfl,rfl,⟨rfl,rfl,rfl⟩,hp,hn,g1,g3,x4,.inr g2,.inl hpo,by simp,by simp⟩
   rw [e1]
   simp only [List.take_zero,List.nil_append,Nat.zero_add,List.cons.injEq,true_and]
   have:ps.drop 1=p2::(ps.drop 1).drop 1:=x1
   simpa using this
theorem nd5 {T0 Ta Tb T2:List Nat} {p1 p2:Nat} (h:(T0++(((p1::Ta)++(p2::Tb))++T2)).Nodup) :
  (∀ q∈T0,q≠p1∧q≠p2∧q∉Ta∧q∉Tb)∧(∀ q∈T2,q≠p1∧q≠p2∧q∉Ta∧q∉Tb)∧p1≠p2∧(∀ q∈Ta,q≠p1∧q≠p2∧q∉Tb)∧(∀ q∈Tb,q≠p1∧q≠p2)∧Ta.Nodup∧Tb.Nodup:=by
 simp only [List.nodup_append,List.nodup_cons,List.mem_append,List.mem_cons] at h
 grind
section
variable {s:Nat→Option Bs} {h:Nat} {lo:Bs} {hi:Option Bs} {ks:List Bs} {ps:List Nat} {l:List Pr} {U:List Nat} {j:Nat} {na nb:Nd} {key:Bs} {p1 p2:Nat} {kc kd:List Bs} {pc pd:List Nat} {lo1:Bs} {hi1:Option Bs} {m0 la lb m2:List Pr} {T0 Ta Tb T2:List Nat}
theorem Adj.join (a:Adj s h lo hi ks ps l U j na nb key p1 p2 kc kd pc pd lo1 hi1 m0 la lb m2 T0 Ta Tb T2) (hr:qO (Nd.nd ks ps)=true) (hk:∀ k∈ks,inK lo hi k) (hw:(ks.map fun k=>3+k.length).sum≤252) :
  Nt s h (qU na nb key) lo1 hi1 (la++lb) (Ta++Tb)∧qO (qU na nb key)=true∧neN (qU na nb key)∧wtN (qU na nb key) ∧
  qO (Nd.nd (kc++kd) (pc++p1::pd))=true∧(∀ k∈kc++kd,inK lo hi k)∧((kc++kd).map fun k=>3+k.length).sum≤252:=by
 obtain ⟨_,i1,r1,v1,q1⟩:=zd hr rfl
 have i1:ps.length=ks.length+1:=i1
 have r1:qH ks=true:=r1
 have v1:∀ k∈ks,k≠[]∧k.length≤32:=v1
 have q1:∀ k∈ps,1≤k∧k≤65535:=q1
 have hkm:key∈ks:=by rw [a.ek]; simp
 have r2:=r1
 rw [a.ek] at r2
 obtain ⟨z1,z2,z3,z4,z5⟩:=kN _ _ _ r2
 have hkc:∀ k∈kc,inK lo hi k:=fun k hk'=>hk k (by rw [a.ek]; simp [hk'])
 have hkd:∀ k∈kd,inK lo hi k:=fun k hk'=>hk k (by rw [a.ek]; simp [hk'])
 obtain ⟨y1,y2,y3⟩:=Yn _ _ _ _ _ _ a.fl z3 (fun k hk'=>(hkc k hk').1)
 have hin:inK lo1 hi1 key:=by
  refine ⟨?_,fun e he=>?_⟩
  ·rcases y1 with e|e
   ·rw [e]; exact (hk key hkm).1
   ·exact z1 lo1 e
  ·have fr:=a.fr
   cases kd with
   | nil=>exact (hk key hkm).2 e (fr.2.1.symm.trans he)
   | cons k kd=>have:=fr.1.symm.trans he; cases this; exact z2 e (by simp)
 obtain ⟨j1,j2,j3⟩:=qfl a.a2 a.b2 a.a1.rt a.b1.rt hin (v1 key hkm)
 have hmm:∀ k∈kc++kd,k∈ks:=fun k hk'=>by
  rw [a.ek]; rcases List.mem_append.1 hk' with h|h<;>simp [h]
 refine ⟨j1,j2,j3 a.ne,?_,kS ?_ (jB _ _ z3 z4 (fun i hi j hj=>xj (z1 i hi) (z2 j hj))) (fun k hk'=>q1 k ?_),fun k hk'=>hk k (hmm k hk'),?_⟩
 ·have o1:=Jy a.a1.sz
  have o2:=Jy a.b1.sz
  have hpo:YU na+YU nb≤254+87:=by
   rcases a.po with h|h
   ·have:=Wp h; omega
   ·have:=Wp h; omega
  have hkl:=(v1 key hkm).2
  have ha2:=a.a2
  have hb2:=a.b2
  cases h with
  | zero =>
   obtain ⟨rfl,_,_⟩:=ha2
   obtain ⟨rfl,_,_⟩:=hb2
   have hpo:(la.map qK).sum+(lb.map qK).sum≤254+87:=hpo
   show ((la++lb).map qK).sum≤344
   rw [List.map_append,List.sum_append]; omega
  | succ h =>
   obtain ⟨ka,pa,rfl,_,_⟩:=ha2
   obtain ⟨kb,pb,rfl,_,_⟩:=hb2
   have hpo:(ka.map fun k=>3+k.length).sum+(kb.map fun k=>3+k.length).sum≤254+87:=hpo
   show ((ka++([key]++kb)).map fun k=>3+k.length).sum≤430
   simp only [List.map_append,List.sum_append,List.map_cons,List.sum_cons,List.map_nil,List.sum_nil]; omega
 ·rw [a.ep,a.ek] at i1
  simp only [List.length_append,List.length_cons] at i1 ⊢; omega
 ·rw [a.ep]
  simp only [List.mem_append,List.mem_cons] at hk' ⊢
  rcases hk' with h|h|h<;>simp [h]
 ·rw [a.ek,HG] at hw; omega
theorem Adj.one (a:Adj s h lo hi ks ps l U j na nb key p1 p2 kc kd pc pd lo1 hi1 m0 la lb m2 T0 Ta Tb T2) (hr:qO (Nd.nd ks ps)=true) (hk:∀ k∈ks,inK lo hi k) (hw:(ks.map fun k=>3+k.length).sum≤252) (hnd:U.Nodup) (hsz:qV (qU na nb key)≤256) :
  Nt (zD (zD s p1 (some (zx (qU na nb key)))) p2 none) (h+1) (Nd.nd (kc++kd) (pc++p1::pd)) lo hi l (T0++((p1::(Ta++Tb))++T2)) ∧
  Stp s (zD (zD s p1 (some (zx (qU na nb key)))) p2 none) U (T0++((p1::(Ta++Tb))++T2))∧(T0++((p1::(Ta++Tb))++T2)).Nodup:=by
 obtain ⟨j1,j2,j3,j4,j5,j6,j7⟩:=a.join hr hk hw
 rw [a.eU] at hnd ⊢
 have hout:∀ q,q≠p1→q≠p2→zD (zD s p1 (some (zx (qU na nb key)))) p2 none q=s q:=fun q h1 h2=>by unfold zD; rw [if_neg h2,if_neg h1]
 have hnd':=hnd
 obtain ⟨n0,n2,hp12,na',nb',nda,ndb⟩:=nd5 hnd
 have d0:∀ q∈T0,q≠p1∧q≠p2:=fun q hq=>⟨(n0 q hq).1,(n0 q hq).2.1⟩
 have da:∀ q∈Ta,q≠p1∧q≠p2:=fun q hq=>⟨(na' q hq).1,(na' q hq).2.1⟩
 have db:=nb'
 have d2:∀ q∈T2,q≠p1∧q≠p2:=fun q hq=>⟨(n2 q hq).1,(n2 q hq).2.1⟩
 have f0:=QA (R':=Tr (zD (zD s p1 (some (zx (qU na nb key)))) p2 none) h) _ _ _ _ _ _ (fun p lo hi l T hT ht=>xB h p lo hi l T (fun q hq=>hout q (d0 q (hT q hq)).1 (d0 q (hT q hq)).2) ht) a.fl
 have f2:=ZL (R':=Tr (zD (zD s p1 (some (zx (qU na nb key)))) p2 none) h) (fun p lo hi l T hT ht=>xB h p lo hi l T (fun q hq=>hout q (d2 q (hT q hq)).1 (d2 q (hT q hq)).2) ht) a.fr
 have f1:Tr (zD (zD s p1 (some (zx (qU na nb key)))) p2 none) h p1 lo1 hi1 (la++lb) (p1::(Ta++Tb)):=by
  refine zO.2 ⟨_,_,⟨?_,j2,hsz⟩,j3,vP h (fun q hq=>?_) j1,rfl⟩
  ·unfold zD; rw [if_neg hp12,if_pos rfl]
  ·rcases List.mem_append.1 hq with hq|hq
   ·exact hout q (da q hq).1 (da q hq).2
   ·exact hout q (db q hq).1 (db q hq).2
 refine ⟨⟨_,_,rfl,j6,by rw [a.el]; exact XY _ _ _ _ _ _ f0 f1 f2⟩,⟨fun q h1 h2=>?_,fun q hq=>.inl ?_,fun q h1 h2=>?_⟩,yb hnd' ?_ fun q hq=>?_⟩
 ·refine hout q (fun e=>h1 (by subst e; simp)) (fun e=>h1 (by subst e; simp))
 ·simp only [List.mem_append,List.mem_cons] at hq ⊢; grind
 ·have:q=p2:=by
   simp only [List.mem_append,List.mem_cons,not_or] at h1 h2; grind
  subst this; unfold zD; rw [if_pos rfl]
 ·simp only [List.nodup_cons,List.nodup_append,List.mem_append]
  refine ⟨fun h=>?_,nda,ndb,fun x hx y hy e=>(na' x hx).2.2 (e ▸ hy)⟩
  rcases h with h|h
  ·exact (da p1 h).1 rfl
  ·exact (db p1 h).1 rfl
 ·simp only [List.mem_cons,List.mem_append,not_or] at hq ⊢
  rcases hq with hq|hq
  ·exact ⟨(d0 q hq).1,(n0 q hq).2.2⟩
  ·exact ⟨(d2 q hq).1,(n2 q hq).2.2⟩
theorem Adj.two (a:Adj s h lo hi ks ps l U j na nb key p1 p2 kc kd pc pd lo1 hi1 m0 la lb m2 T0 Ta Tb T2) (hr:qO (Nd.nd ks ps)=true) (hk:∀ k∈ks,inK lo hi k) (hw:(ks.map fun k=>3+k.length).sum≤252) (hnd:U.Nodup) (hsz:¬ qV (qU na nb key)≤256)
  (hs:∀ q,zD (zD s p1 (some (zx (qB (qU na nb key)).1))) p2 (some (zx (qB (qU na nb key)).2.1)) q≠none→1≤q∧q≤65535) :
  ∃ U',Nt (zD (zD s p1 (some (zx (qB (qU na nb key)).1))) p2 (some (zx (qB (qU na nb key)).2.1))) (h+1) (Nd.nd (kc++(qB (qU na nb key)).2.2::kd) (pc++p1::p2::pd)) lo hi l U' ∧
  qO (Nd.nd (kc++(qB (qU na nb key)).2.2::kd) (pc++p1::p2::pd))=true∧wtN (Nd.nd (kc++(qB (qU na nb key)).2.2::kd) (pc++p1::p2::pd)) ∧
  Stp s (zD (zD s p1 (some (zx (qB (qU na nb key)).1))) p2 (some (zx (qB (qU na nb key)).2.1))) U U'∧U'.Nodup:=by
 obtain ⟨j1,j2,j3,j4,j5,j6,j7⟩:=a.join hr hk hw
 obtain ⟨_,s2,s3,s4,s5,s6,s7,s8,s9,ca,cb,Sa,Sb,t1,t2,t3,t4⟩:=Qz j1 j2 j4 hsz
 rw [a.eU] at hnd ⊢
 generalize hs2:zD (zD s p1 (some (zx (qB (qU na nb key)).1))) p2 (some (zx (qB (qU na nb key)).2.1))=s' at hs ⊢
 have hout:∀ q,q≠p1→q≠p2→s' q=s q:=fun q h1 h2=>by rw [← hs2]; unfold zD; rw [if_neg h2,if_neg h1]
 have hnd':=hnd
 obtain ⟨n0,n2,hp12,na',nb',nda,ndb⟩:=nd5 hnd
 have d0:∀ q∈T0,q≠p1∧q≠p2:=fun q hq=>⟨(n0 q hq).1,(n0 q hq).2.1⟩
 have da:∀ q∈Ta,q≠p1∧q≠p2:=fun q hq=>⟨(na' q hq).1,(na' q hq).2.1⟩
 have db:=nb'
 have d2:∀ q∈T2,q≠p1∧q≠p2:=fun q hq=>⟨(n2 q hq).1,(n2 q hq).2.1⟩
 have dab:∀ q∈Sa++Sb,q≠p1∧q≠p2:=fun q hq=>by
  rw [← t4] at hq
  rcases List.mem_append.1 hq with h|h
  ·exact da q h
  ·exact db q h
 have f0:=QA (R':=Tr s' h) _ _ _ _ _ _ (fun p lo hi l T hT ht=>xB h p lo hi l T (fun q hq=>hout q (d0 q (hT q hq)).1 (d0 q (hT q hq)).2) ht) a.fl
 have f2:=ZL (R':=Tr s' h) (fun p lo hi l T hT ht=>xB h p lo hi l T (fun q hq=>hout q (d2 q (hT q hq)).1 (d2 q (hT q hq)).2) ht) a.fr
 have g1:Tr s' h p1 lo1 (some (qB (qU na nb key)).2.2) ca (p1::Sa):=zO.2 ⟨_,_,⟨by rw [← hs2]; unfold zD; rw [if_neg hp12,if_pos rfl],s2,s3⟩,s6,vP h (fun q hq=>hout q (dab q (List.mem_append.2 (.inl hq))).1 (dab q (List.mem_append.2 (.inl hq))).2) t1,rfl⟩
 have g2:Tr s' h p2 (qB (qU na nb key)).2.2 hi1 cb (p2::Sb):=zO.2 ⟨_,_,⟨by rw [← hs2]; unfold zD; rw [if_pos rfl],s4,s5⟩,s7,vP h (fun q hq=>hout q (dab q (List.mem_append.2 (.inr hq))).1 (dab q (List.mem_append.2 (.inr hq))).2) t2,rfl⟩
 obtain ⟨w1,w2,w3,w4⟩:=Jk (p0:=p1) j5 j7 j6 hs f0 f2 s8 s9 g1 g2
 rw [← t3] at w1
 have hmem:∀ q,q∈T0++(((p1::Sa)++(p2::Sb))++T2)↔q∈T0++(((p1::Ta)++(p2::Tb))++T2):=fun q=>by
  have:q∈Ta++Tb↔q∈Sa++Sb:=by rw [t4]
  simp only [List.mem_append,List.mem_cons] at this ⊢; grind
 refine ⟨_,by rw [a.el]; exact w1,w2,w3,⟨fun q h1 h2=>?_,fun q hq=>.inl ((hmem q).1 hq),fun q h1 h2=>absurd ((hmem q).2 h1) h2⟩,yb hnd' ?_ fun q hq=>?_⟩
 ·refine hout q (fun e=>h1 (by subst e; simp)) (fun e=>h1 (by subst e; simp))
 ·have hab:(Sa++Sb).Nodup:=by
   rw [← t4,List.nodup_append]
   exact ⟨nda,ndb,fun x hx y hy e=>(na' x hx).2.2 (e ▸ hy)⟩
  rw [List.nodup_append] at hab
  simp only [List.cons_append,List.nodup_cons,List.nodup_append,List.mem_append,List.mem_cons,not_or]
  refine ⟨⟨fun h=>(dab p1 (List.mem_append.2 (.inl h))).1 rfl,hp12,fun h=>(dab p1 (List.mem_append.2 (.inr h))).1 rfl⟩,hab.1,⟨fun h=>(dab p2 (List.mem_append.2 (.inr h))).2 rfl,hab.2.1⟩,fun x hx y hy e=>?_⟩
  rcases hy with hy|hy
  ·exact (dab x (List.mem_append.2 (.inl hx))).2 (e.trans hy)
  ·exact hab.2.2 x hx y hy e
 ·have hx:q∉Ta++Tb∧q≠p1∧q≠p2:=by
   simp only [List.mem_append,not_or] at hq ⊢
   rcases hq with hq|hq
   ·exact ⟨(n0 q hq).2.2,d0 q hq⟩
   ·exact ⟨(n2 q hq).2.2,d2 q hq⟩
  rw [t4] at hx
  simp only [List.mem_append,List.mem_cons,not_or] at hx ⊢
  exact ⟨⟨hx.2.1,hx.1.1⟩,hx.2.2,hx.1.2⟩
end
end Go.Fx.Tryz
namespace Go.Fx.Tryz
open Go Go.Fx
section
variable {x:Wx} {m:Mem}
theorem qgS:qy [.bool false,.slice none 0 0,.slice none 0 0,.slice none 0 0] []=some [.bool false,.slice none 0 0,.slice none 0 0,.slice none 0 0]:=rfl
abbrev ju:ABlk:=qh false (.slice none 0 0) (.slice none 0 0) (.slice none 0 0)
theorem ko {n:Nd} (h:qO n=true) (hs:qV n≤256):n.Fit:=QB h (VJ hs)
set_option maxRecDepth 4000 in
theorem qcI {lo nb rb j p1 p2 left:Nat} {sp sk si:Value} {ks:List Bs} {ps:List Nat} {na nb':Nd} {key:Bs} (h:XR x m) (he:x.err=0) (hrd:x.rd+2≤1000) (hl:1≤left) (hfp:∀ b∈x.fp,b<lo) (hcp:x.o.c<lo∧x.o.p<lo) (hlo:lo≤m.next)
    (hb:(lo≤nb∧nb<m.next)∧(lo≤rb∧rb<m.next)) (hnr:nb≠rb)
    (hm:Me lo ks ps nb sp sk si m) (gr:m.get rb=some ju) (hlen:ps.length=ks.length+1) (hps:ps.length≤200)
    (hj1:ps[j]? = some p1) (hj2:ps[j+1]? = some p2) (hjk:ks[j]? = some key) (hj:j≤200) (hP1:Pn x.o.s p1 na) (hP2:Pn x.o.s p2 nb') (hne:p1≠p2) (hr:qO (qU na nb' key)=true) (hw:wtN (qU na nb' key))
    (hs:¬ qV (qU na nb' key)≤256→(if (qU na nb' key).leaf then 2≤(qU na nb' key).pairs.length else 3≤(qU na nb' key).keys.length∧(qU na nb' key).kids.length=(qU na nb' key).keys.length+1)∧qO (qB (qU na nb' key)).1=true∧qV (qB (qU na nb' key)).1≤256∧qO (qB (qU na nb' key)).2.1=true∧qV (qB (qU na nb' key)).2.1≤256) :
    W (XX x.v (.int .i64 (j:Int)) (.int .i64 (left:Int)) (.pointer (some ⟨nb,0,none⟩)) (.pointer (some ⟨rb,0,none⟩)) m) fun r m'=>Upd (rb::x.fp) m m' ∧
      ((qV (qU na nb' key)≤256∧TN lo m' r (Nd.nd (ks.eraseIdx j) (ps.eraseIdx (j+1)))∧∃ c,XR { x with rd:=x.rd+2,o:={ x.o with u:=zZ x.o.u p2,L:=upL x.o.L p1 (zx (qU na nb' key)) c } } m') ∨
       (¬ qV (qU na nb' key)≤256∧TN lo m' r (kF (Nd.nd (ks.eraseIdx j) (ps.eraseIdx (j+1))) j [([],p1),((qB (qU na nb' key)).2.2,p2)])∧∃ c1 c2,XR { x with rd:=x.rd+2,o:={ x.o with L:=upL (upL x.o.L p1 (zx (qB (qU na nb' key)).1) c1) p2 (zx (qB (qU na nb' key)).2.1) c2 } } m')):=by
  obtain ⟨⟨b1,b2⟩,⟨b7,b8⟩⟩:=hb
  obtain ⟨hh1,hl1⟩:=hP1.here
  obtain ⟨hh2,hl2⟩:=hP2.here
  have hPP:=h.wr.hP
  have l1:=xu hh1
  have l2:=xu hh2
  have nf:∀ {b:Nat},lo≤b→b∉x.fp:=fun hb hm=>by have:=hfp _ hm; omega
  have subx:∀ b,b∈[x.xb]→b∈x.fp:=fun b hb=>by simp at hb; simp [Wx.fp,hb]
  have mk:∀ {M M':Mem},m.next≤M.next→Me lo ks ps nb sp sk si M→Upd x.fp M M'→Me lo ks ps nb sp sk si M':=fun hn h hu=>h.zF hu (by omega) ⟨nf b1,fun b hb=>nf (h.k2.2 b hb).1,fun b hb=>nf (h.k3.2 b hb).1⟩
  have hadd:arith .add (.int .i64 (j:Int)) (.int .i64 1)=some (.int .i64 ((j+1:Nat):Int)):=qE (by omega)
  obtain ⟨pk1,i1,i1'⟩:=XG hm.k3 hj1
  obtain ⟨pk2,i2,i2'⟩:=XG hm.k3 hj2
  obtain ⟨pkk,ik,ik'⟩:=KT hm.k2 hjk
  have ub:Upd [] m (m.zv 21):=Upd.zv _ _ _
  have nbp:(m.zv 21).next=m.next+21:=rfl
  have hmb:=hm.qt ub b2
  have hxb:=h.qt ub
  have grb:=qA ub b8 gr
  rw [P106_0_eq]
  simp -implicitDefEqProofs only [st0,qc,reduceIte,fa,qG hmb.gn (o:=0+3) rfl,i1,i1' _ hmb.k3]
  generalize m.zv 21=m0 at ub nbp hmb hxb grb
  refine qo.2 ((vA hxb he (by omega) hl (by omega) hh1 hl1 hP1.rt hP1.sz).mono fun v1 m1 ⟨t1,h1,u1⟩=>?_)
  have x1:=u1.next
  have u1:Upd x.fp m0 m1:=u1.mono fun b hb _=>subx b hb
  have hm1:=mk (by omega) hmb u1
  have gr1:=(u1.same rb (by omega) (nf b7)).trans grb
  simp -implicitDefEqProofs only [st0,qc,reduceIte,fa,qG hm1.gn (o:=0+3) rfl,hadd,i2,i2' m1 hm1.k3]
  refine qo.2 ((vA h1 he (by show x.rd+1<1000; omega) hl (by omega) hh2 hl2 hP2.rt hP2.sz).mono fun v2 m2 ⟨t2,h2,u2⟩=>?_)
  have h2:XR { x with rd:=x.rd+2 } m2:=h2
  have x2:=u2.next
  have u2:Upd x.fp m1 m2:=u2.mono fun b hb _=>subx b hb
  have hm2:=mk (by omega) hm1 u2
  have gr2:=(u2.same rb (by omega) (nf b7)).trans gr1
  have hfp0:∀ b∈x.fp,b<m0.next:=fun b hb=>by have:=hfp b hb; omega
  have t12:=t1.upd u2 hfp0
  obtain ⟨pa,ka,ia,rfl,a1,a2,a3⟩:=t1.ex
  obtain ⟨pb,kb,ib,rfl,c1,c2,c3⟩:=t2.ex
  simp -implicitDefEqProofs only [st0,qc,reduceIte]
  have u3:Upd [m.next+17] m2 (m2.put (m.next+17) ju):=Upd.put _ _ (by simp)
  have g3:(m2.put (m.next+17) ju).get (m.next+17)=some ju:=Mem.qj ..
  have n3:(m2.put (m.next+17) ju).next=m2.next:=rfl
  have nf17:m.next+17∉x.fp:=nf (by omega)
  have nf18:m.next+18∉x.fp:=nf (by omega)
  have hm3:=hm2.zF u3 (by omega) ⟨by simp; omega,fun b hb=>by have:=(hm.k2.2 b hb).2; simp; omega,fun b hb=>by have:=(hm.k3.2 b hb).2; simp; omega⟩
  have gr3:=(u3.same rb (by omega) (by simp; omega)).trans gr2
  generalize (m2.put (m.next+17) ju)=m3 at u3 g3 n3 hm3 gr3
  have u4:Upd [m.next+18] m3 (m3.put (m.next+18) ju):=Upd.put _ _ (by simp)
  have g4:(m3.put (m.next+18) ju).get (m.next+18)=some ju:=Mem.qj ..
  have k4:=(u4.same (m.next+17) (by omega) (by simp)).trans g3
  have n4:(m3.put (m.next+18) ju).next=m3.next:=rfl
  have hm4:=hm3.zF u4 (by omega) ⟨by simp; omega,fun b hb=>by have:=(hm.k2.2 b hb).2; simp; omega,fun b hb=>by have:=(hm.k3.2 b hb).2; simp; omega⟩
  have gr4:=(u4.same rb (by omega) (by simp; omega)).trans gr3
  generalize (m3.put (m.next+18) ju)=m4 at u4 g4 k4 n4 hm4 gr4
  simp -implicitDefEqProofs only [st0,qc,reduceIte,qX k4 na.leaf a1.one.2 a2.one.2 a3.one.2]
  have u5:Upd [m.next+17] m4 (m4.put (m.next+17) (qh na.leaf pa ka ia)):=Upd.put _ _ (by simp)
  have g5:(m4.put (m.next+17) (qh na.leaf pa ka ia)).get (m.next+17)=_:=Mem.qj ..
  have k5:=(u5.same (m.next+18) (by omega) (by simp)).trans g4
  have n5:(m4.put (m.next+17) (qh na.leaf pa ka ia)).next=m4.next:=rfl
  have hm5:=hm4.zF u5 (by omega) ⟨by simp; omega,fun b hb=>by have:=(hm.k2.2 b hb).2; simp; omega,fun b hb=>by have:=(hm.k3.2 b hb).2; simp; omega⟩
  have gr5:=(u5.same rb (by omega) (by simp; omega)).trans gr4
  generalize (m4.put (m.next+17) (qh na.leaf pa ka ia))=m5 at u5 g5 k5 n5 hm5 gr5
  simp -implicitDefEqProofs only [st0,qc,reduceIte,qX k5 nb'.leaf c1.one.2 c2.one.2 c3.one.2]
  have u6:Upd [m.next+18] m5 (m5.put (m.next+18) (qh nb'.leaf pb kb ib)):=Upd.put _ _ (by simp)
  have k6:(m5.put (m.next+18) (qh nb'.leaf pb kb ib)).get (m.next+18)=_:=Mem.qj ..
  have g6:=(u6.same (m.next+17) (by omega) (by simp)).trans g5
  have n6:(m5.put (m.next+18) (qh nb'.leaf pb kb ib)).next=m5.next:=rfl
  have hm6:=hm5.zF u6 (by omega) ⟨by simp; omega,fun b hb=>by have:=(hm.k2.2 b hb).2; simp; omega,fun b hb=>by have:=(hm.k3.2 b hb).2; simp; omega⟩
  have gr6:=(u6.same rb (by omega) (by simp; omega)).trans gr5
  generalize (m5.put (m.next+18) (qh nb'.leaf pb kb ib))=m6 at u6 g6 k6 n6 hm6 gr6
  have u26:Upd [m.next+17,m.next+18] m2 m6:=(((u3.mono fun b hb _=>by simp at hb; simp [hb]).trans (u4.mono fun b hb _=>by simp at hb; simp [hb])).trans (u5.mono fun b hb _=>by simp at hb; simp [hb])).trans (u6.mono fun b hb _=>by simp at hb; simp [hb])
  have f2:∀ b∈[m.next+17,m.next+18],b<m0.next:=fun b hb=>by simp at hb; omega
  have ta6:=t12.upd u26 f2
  have tb6:=(t2.low (lo':=m0.next) (by omega)).upd u26 f2
  have hx6:XR { x with rd:=x.rd+2 } m6:=h2.upd u26 fun b hb=>by
    have w1:b∉x.fp:=nf (by simp at hb; omega)
    simp only [Wx.fp,List.mem_cons,List.not_mem_nil,or_false,not_or] at w1 hb
    exact ⟨w1.2.2,w1.1,w1.2.1,by show b≠x.o.c; omega,by show b≠x.o.p; omega⟩
  have e6:=xok hx6
  rw [decide_eq_true (show ({ x with rd:=x.rd+2 }:Wx).err=0 from he)] at e6
  refine kz (fun r hr=>?_) ?_
  · simp only [List.mem_cons,List.not_mem_nil,or_false] at hr
    rcases hr with rfl|rfl|rfl|rfl
    · exact okR fun k _ hk=>by
        obtain rfl:k=0:=by omega
        exact ⟨_,rfl,qG hmb.gn rfl⟩
    · exact okR fun k _ hk=>by
        obtain rfl:k=0:=by omega
        exact ⟨_,rfl,i1' _ hmb.k3⟩
    · exact okR fun k _ hk=>by
        have:k=0∨k=1:=by omega
        rcases this with rfl|rfl
        · exact ⟨_,rfl,qG hmb.gn rfl⟩
        · exact ⟨_,rfl,qG hm1.gn rfl⟩
    · exact okR fun k _ hk=>by
        have:k=0∨k=1:=by omega
        rcases this with rfl|rfl
        · exact ⟨_,rfl,i2' _ hmb.k3⟩
        · exact ⟨_,rfl,i2' _ hm1.k3⟩
  have u06:Upd x.fp m m6:=(((ub.nil'.trans u1).trans u2).then' u26 (fun b hb=>.inr (by simp at hb; omega)))
  have uB:Upd [] m6 (m6.zv 10):=Upd.zv _ _ _
  have nB:(m6.zv 10).next=m6.next+10:=rfl
  have hmB:=hm6.qt uB (by omega)
  have gB:=qA uB (by omega) g6
  have kB:=qA uB (by omega) k6
  have grB:=qA uB (by omega) gr6
  have taB:=ta6.qt uB
  have tbB:=tb6.qt uB
  have hxB:=hx6.qt uB
  simp -implicitDefEqProofs only [st0,qc,reduceIte,e6,qF gB,qF kB,fa,qG hmB.gn (o:=0+2) rfl,ik,ik' _ hmB.k2]
  generalize m6.zv 10=m7 at uB nB hmB gB kB grB taB tbB hxB
  refine qo.2 ((qcG key taB tbB (ko hP1.rt hP1.sz) (ko hP2.rt hP2.sz) (by omega)).mono fun v8 m8 ⟨t8,u8⟩=>?_)
  have x8:=u8.next
  have hm8:=hmB.qt u8 (by omega)
  have gr8:=qA u8 (by omega) grB
  have hx8:=hxB.qt u8
  have T8:=t8
  obtain ⟨pj,kj,ij,rfl,j1,j2,j3⟩:=t8.ex
  simp -implicitDefEqProofs only [st0,qc,reduceIte]
  have u9:Upd [m6.next+8] m8 (m8.put (m6.next+8) ju):=Upd.put _ _ (by simp)
  have g9:(m8.put (m6.next+8) ju).get (m6.next+8)=some ju:=Mem.qj ..
  have n9:(m8.put (m6.next+8) ju).next=m8.next:=rfl
  generalize (m8.put (m6.next+8) ju)=m9 at u9 g9 n9
  simp -implicitDefEqProofs only [st0,qc,reduceIte,qX g9 (qU na nb' key).leaf j1.one.2 j2.one.2 j3.one.2]
  have u10:Upd [m6.next+8] m9 (m9.put (m6.next+8) (qh (qU na nb' key).leaf pj kj ij)):=Upd.put _ _ (by simp)
  have g10:(m9.put (m6.next+8) (qh (qU na nb' key).leaf pj kj ij)).get (m6.next+8)=_:=Mem.qj ..
  have n10:(m9.put (m6.next+8) (qh (qU na nb' key).leaf pj kj ij)).next=m9.next:=rfl
  generalize (m9.put (m6.next+8) (qh (qU na nb' key).leaf pj kj ij))=m10 at u10 g10 n10
  have u810:Upd [m6.next+8] m8 m10:=u9.trans u10
  have hm10:=hm8.zF u810 (by omega) ⟨by simp; omega,fun b hb=>by have:=(hm.k2.2 b hb).2; simp; omega,fun b hb=>by have:=(hm.k3.2 b hb).2; simp; omega⟩
  have gr10:=(u810.same rb (by omega) (by simp; omega)).trans gr8
  have T10:=T8.upd u810 (fun b hb=>by simp at hb; omega)
  have hx10:XR { x with rd:=x.rd+2 } m10:=hx8.upd u810 fun b hb=>by
    have w1:b∉x.fp:=nf (by simp at hb; omega)
    simp only [Wx.fp,List.mem_cons,List.not_mem_nil,or_false,not_or] at w1 hb
    exact ⟨w1.2.2,w1.1,w1.2.1,by show b≠x.o.c; omega,by show b≠x.o.p; omega⟩
  refine kz (fun r hr=>?_) ?_
  · simp only [List.mem_cons,List.not_mem_nil,or_false] at hr
    rcases hr with rfl|rfl|rfl|rfl
    · exact okR fun k _ hk=>by
        obtain rfl:k=0:=by omega
        exact ⟨_,rfl,qF gB⟩
    · exact okR fun k _ hk=>by
        obtain rfl:k=0:=by omega
        exact ⟨_,rfl,qF kB⟩
    · exact okR fun k _ hk=>by
        obtain rfl:k=0:=by omega
        exact ⟨_,rfl,qG hmB.gn rfl⟩
    · exact okR fun k _ hk=>by
        obtain rfl:k=0:=by omega
        exact ⟨_,rfl,ik' _ hmB.k2⟩
  simp -implicitDefEqProofs only [st0,qc,reduceIte,qgS]
  refine xR (c:=[.bool false,.slice none 0 0,.slice none 0 0,.slice none 0 0]) rfl rfl rfl fun m11 o11 u11 n11=>?_
  have hm11:=hm10.qt u11 (by omega)
  have gr11:=qA u11 (by omega) gr10
  have g11:=qA u11 (by omega) g10
  have T11:=T10.qt u11
  have hx11:=hx10.qt u11
  have x11:=u11.next
  simp -implicitDefEqProofs only [st0,qc,reduceIte,fa,qG hm11.gn (o:=0+3) rfl,qY hm11.k3]
  have u011:Upd x.fp m m11:=(((u06.qD uB).qD u8).then' u810 (fun b hb=>.inr (by simp at hb; omega))).qD u11
  have hjl:j<ks.length:=by
    rcases Nat.lt_or_ge j ks.length with h|h
    · exact h
    · rw [List.getElem?_eq_none h] at hjk; cases hjk
  refine qbk hlen hps hj hm11 ⟨⟨by omega,by omega⟩,fun b hb=>by have:=(hm.k2.2 b hb).2; omega,fun b hb=>by have:=(hm.k3.2 b hb).2; omega⟩ (fun m12 kv iv ho=>?_) _ 0 m11 _ _ rfl (by omega) (by
    simp only [List.take_zero,List.take_nil]
    exact ⟨o11,TAp.nil _,TAp.nil _,fun b hb=>by simp [qe] at hb,fun b hb=>by simp [qe] at hb,fun b hb=>by simp [qe] at hb,n11,Upd.refl _ _⟩)
  have u12:=ho.up
  have x12:=u12.next
  have hm12:=hm11.zF u12 (by omega) ⟨by simp; omega,fun b hb=>by have:=(hm.k2.2 b hb).2; simp; omega,fun b hb=>by have:=(hm.k3.2 b hb).2; simp; omega⟩
  have gr12:=(u12.same rb (by omega) (by simp; omega)).trans gr11
  have g12:=(u12.same (m6.next+8) (by omega) (by simp; omega)).trans g11
  have T12:TN lo m12 (jM (qU na nb' key).leaf pj kj ij) (qU na nb' key):=((T11.qhz u12 (by
    intro b hb
    have h1:∀ {α:Type} {E:Enc α} {v:Value} {l:List α},RSl m7.next E m8 v l→b∈qe v→b<m10.next:=fun hr hb=>by have:=(hr.2 b hb).2; omega
    simp only [List.mem_append] at hb
    rcases hb with (hb|hb)|hb
    · have:=h1 j1 hb; simp; omega
    · have:=h1 j2 hb; simp; omega
    · have:=h1 j3 hb; simp; omega)).low (by omega))
  have hx12:XR { x with rd:=x.rd+2 } m12:=hx11.upd u12 fun b hb=>by
    have w1:b∉x.fp:=nf (by simp at hb; omega)
    simp only [Wx.fp,List.mem_cons,List.not_mem_nil,or_false,not_or] at w1 hb
    exact ⟨w1.2.2,w1.1,w1.2.1,by show b≠x.o.c; omega,by show b≠x.o.p; omega⟩
  have hkl:(ks.eraseIdx j).length=_:=List.length_eraseIdx
  have hil:(ps.eraseIdx (j+1)).length=_:=List.length_eraseIdx
  rw [if_pos hjl] at hkl
  rw [if_pos (by omega)] at hil
  refine (qbj (x:={ x with rd:=x.rd+2 }) (lo:=lo) hx12 he hfp hcp (by omega) ⟨⟨b1,by omega⟩,⟨by omega,by omega⟩,⟨by omega,by omega⟩,⟨b7,by omega⟩⟩ ⟨fun b hb=>by have:=ho.bk b hb; omega,fun b hb=>by have:=ho.bi b hb; omega⟩ hm12 ho.g
    ((ho.tk.rsl ho.bk).low (by omega)) ((ho.ti.rsl ho.bi).low (by omega)) g12 T12 gr12 hj1 hj2 hj hh1 hh2 hne hr hw hs ⟨by omega,by omega⟩).mono fun r m' ⟨q1,q2⟩=>⟨?_,q2⟩
  exact ((u011.mono fun b hb _=>List.mem_cons.2 (.inr hb)).then' u12 (fun b hb=>.inr (by simp at hb; omega))).trans q1
end
end Go.Fx.Tryz
namespace Go.Fx.Tryz
open Go Go.Fx
theorem qgT {α:Type} (a:List α) (k:α) (b:List α):(a++k::b).eraseIdx a.length=a++b:=by
 rw [List.eraseIdx_append_of_length_le (Nat.le_refl _),Nat.sub_self]; rfl
theorem qeX {α:Type} (a:List α) (p q:α) (b:List α):(a++p::q::b).eraseIdx (a.length+1)=a++p::b:=by
 rw [List.eraseIdx_append_of_length_le (by omega),Nat.add_sub_cancel_left]; rfl
def qiK (x:Wx) (lo0:Nat) (m:Mem) (h:Nat) (lo:Bs) (hi:Option Bs) (l:List Pr) (U:List Nat) (r:Value) (m':Mem):Prop :=
 ∃ x' n U',XR x' m'∧Kin x x'∧x'.err=0∧x'.rd≤x.rd+3∧Fu x'.o∧TN lo0 m' r n∧qO n=true∧wtN n∧Nt x'.o.s (h+1) n lo hi l U'∧Stp x.o.s x'.o.s U U'∧U'.Nodup∧Upd x.fp m m'
section
variable {x:Wx} {m:Mem}
set_option maxRecDepth 4000 in
theorem qhl {lo0 h c p left:Nat} {v:Value} {ks:List Bs} {ps:List Nat} {lo lo':Bs} {hi hi':Option Bs} {l0 l1 l2:List Pr} {U0 U1 U2:List Nat} {n:Nd} (hx:XR x m) (he:x.err=0) (hf:Fu x.o) (hrd:x.rd+3≤1000) (hl:1≤left) (hfp:∀ b∈x.fp,b<lo0) (hcp:x.o.c<lo0∧x.o.p<lo0) (hlo:lo0≤m.next)
  (ht:TN lo0 m v (Nd.nd ks ps)) (hr:qO (Nd.nd ks ps)=true) (hsz:qV (Nd.nd ks ps)≤256) (hk:∀ k∈ks,inK lo hi k) (hne:ks≠[]) (hc:c≤ks.length) (e1:ps=ps.take c++p::ps.drop (c+1))
  (h0:FL (Tr x.o.s h) lo (ks.take c) (ps.take c) lo' l0 U0) (hp:Pn x.o.s p n) (hn:Nt x.o.s h n lo' hi' l1 U1) (h2:FR (Tr x.o.s h) hi' hi (ks.drop c) (ps.drop (c+1)) l2 U2) (hnd:(U0++((p::U1)++U2)).Nodup) :
  W (Call S tab 106 [x.v,v,.int .i64 (c:Int),.int .i64 (left:Int)] m) (qiK x lo0 m h lo hi (l0++(l1++l2)) (U0++((p::U1)++U2))):=by
 obtain ⟨hh,hlk⟩:=hp.here
 have hP:=hx.wr.hP
 have hu20:=hx.wr.hu
 have hlt:=xu hh
 obtain ⟨_,i1,r1,_,_⟩:=zd hr rfl
 have i1:ps.length=ks.length+1:=i1
 have hfew:=wJ hr hsz
 have hfew:ps.length≤ks.length+1∧ps.length≤200:=hfew
 have nf:∀ {b:Nat},lo0≤b→b∉x.fp:=fun hb hm=>by have:=hfp _ hm; omega
 have subx:∀ b,b∈[x.xb]→b∈x.fp:=fun b hb=>by simp at hb; simp [Wx.fp,hb]
 obtain ⟨sp,sk,si,rfl,q1,q2,q3⟩:=ht.ex
 have q2:RSl lo0 zi m sk ks:=q2
 have q3:RSl lo0 zG m si ps:=q3
 have hlf:(Nd.nd ks ps).leaf=false:=rfl
 rw [hlf] at ht ⊢
 have hget:ps[c]? = some p:=by
  have:=congrArg (fun t:List Nat=>t[c]?) e1
  rw [this,List.getElem?_append_right (by rw [List.length_take]; omega),List.length_take,Nat.min_eq_left (by omega),Nat.sub_self]; rfl
 obtain ⟨pk,i2,i2'⟩:=XG q3 hget
 rw [qjO]
 simp -implicitDefEqProofs only [st0,qc,reduceIte,qQ]
 have u1:Upd [] m (m.add (qh false sp sk si)):=Upd.add _ _ _
 have g1:(m.add (qh false sp sk si)).get m.next=some (qh false sp sk si):=Mem.qk ..
 have n1:(m.add (qh false sp sk si)).next=m.next+1:=rfl
 generalize (m.add (qh false sp sk si))=m1 at u1 g1 n1
 have u2:Upd [] m1 (m1.add ju):=Upd.add _ _ _
 have gr2:(m1.add ju).get m1.next=some ju:=Mem.qk ..
 have n2:(m1.add ju).next=m1.next+1:=rfl
 have g2:=qA u2 (by omega) g1
 generalize (m1.add ju)=m2 at u2 gr2 n2 g2
 have u02:=u1.qD u2
 have hm2:Me lo0 ks ps m.next sp sk si m2:=⟨g2,q2.qt u02,q3.qt u02⟩
 have hx2:=hx.qt u02
 simp -implicitDefEqProofs only [st0,qc,reduceIte,fa,qG hm2.gn (o:=0+3) rfl,i2,i2' m2 hm2.k3]
 refine qo.2 ((vA hx2 he (by omega) hl (by omega) hh hlk hp.rt hp.sz).mono fun v3 m3 ⟨t3,h3,u3⟩=>?_)
 have x3:=u3.next
 have u3:Upd x.fp m2 m3:=u3.mono fun b hb _=>subx b hb
 have hm3:=hm2.zF u3 (by omega) ⟨nf (by omega),fun b hb=>nf (q2.2 b hb).1,fun b hb=>nf (q3.2 b hb).1⟩
 have gr3:=(u3.same m1.next (by omega) (nf (by omega))).trans gr2
 have T3:=t3
 obtain ⟨pa,ka,ia,rfl,a1,a2,a3⟩:=t3.ex
 simp -implicitDefEqProofs only [st0,qc,reduceIte]
 refine xR (c:=[.bool n.leaf,pa,ka,ia]) rfl rfl (by simp [a1.one.2,a2.one.2,a3.one.2,show (Value.bool n.leaf).oneCell'=true from rfl]) fun m4 b4 u4 n4=>?_
 have hm4:=hm3.qt u4 (by omega)
 have gr4:=qA u4 (by omega) gr3
 have hx4:=h3.qt u4
 have T4:=T3.qt u4
 have e4:=xok hx4
 rw [decide_eq_true (show ({ x with rd:=x.rd+1 }:Wx).err=0 from he)] at e4
 simp -implicitDefEqProofs only [st0,qc,reduceIte,e4,qF b4]
 refine qo.2 (qo.2 ((qev T4 (ko hp.rt hp.sz)).mono fun v5 m5 ⟨r5,u5⟩=>?_))
 subst r5
 have x4:=u4.next
 have x5:=u5.next
 have hm5:=hm4.qt u5 (by omega)
 have gr5:=qA u5 (by omega) gr4
 have hx5:=hx4.qt u5
 have u05:Upd x.fp m m5:=((u02.nil'.trans u3).qD u4).qD u5
 have hall:∀ q∈U0++((p::U1)++U2),True:=fun _ _=>trivial
 cases hpo:yr n with
 | false =>
  have hp5:=hm5.k2.one
  have hq5:=hm5.k3.one
  have q1':RSl lo0 qJ m5 sp []:=(((q1.qt u02).upd u3 hfp).qt u4).qt u5
  simp -implicitDefEqProofs only [st0,qc,reduceIte,qF hm5.gn,qX gr5 false q1'.one.2 hp5.2 hq5.2,qF (Mem.qj m5 m1.next _)]
  have hpp:Upd [m1.next] m5 (m5.put m1.next (qh false sp sk si)):=Upd.put _ _ (by simp)
  have hT:Tr x.o.s h p lo' hi' l1 (p::U1):=zO.2 ⟨n,U1,hp,qes hpo,hn,rfl⟩
  have hb1:∀ {α:Type} {E:Enc α} {w:Value} {l:List α},RSl lo0 E m w l→∀ b∈qe w,b∉[m1.next]:=fun hr b hb=>by have:=(hr.2 b hb).2; simp; omega
  refine ⟨{ x with rd:=x.rd+1 },Nd.nd ks ps,_,hx5.upd hpp fun b hb=>?_,⟨rfl,rfl,rfl,rfl,rfl,rfl,rfl,rfl,rfl,rfl⟩,he,by show x.rd+1≤x.rd+3; omega,hf,⟨sp,sk,si,rfl,q1'.zF hpp (hb1 q1),hm5.k2.zF hpp (hb1 q2),hm5.k3.zF hpp (hb1 q3)⟩,hr,VJ hsz,⟨ks,ps,rfl,hk,?_⟩,Stp.refl _ _,hnd,u05.then' hpp (fun b hb=>.inr (by simp at hb; omega))⟩
  ·simp at hb; subst hb
   have w1:m1.next∉x.fp:=nf (by omega)
   simp only [Wx.fp,List.mem_cons,List.not_mem_nil,or_false,not_or] at w1
   exact ⟨w1.2.2,w1.1,w1.2.1,by show m1.next≠x.o.c; omega,by show m1.next≠x.o.p; omega⟩
  ·have:=XY _ _ _ _ _ _ h0 hT h2
   rwa [List.take_append_drop,← e1] at this
 | true =>
  have e2:((ps.length:Int)<2)=False:=eq_false (by
   have:=List.length_pos_iff.2 hne
   omega)
  obtain ⟨na,nb',key,p1,p2,kc,kd,pc,pd,lo1,hi1,m0',la,lb,m2',T0,Ta,Tb,T2,A⟩:=adj hne hc i1 e1 h0 hp hn h2 hpo
  generalize hj:(if 0<c then c - 1 else c)=j at A
  have hjc:j≤c:=by rw [← hj]; split<;>omega
  obtain ⟨f1,f2,f3,f4,f5,f6,f7⟩:=A.join hr hk (yU hsz)
  have hjk:ks[j]? = some key:=by rw [A.ek,← A.jc,List.getElem?_append_right (Nat.le_refl _),Nat.sub_self]; rfl
  have hj1:ps[j]? = some p1:=by rw [A.ep,← A.jp,List.getElem?_append_right (Nat.le_refl _),Nat.sub_self]; rfl
  have hj2:ps[j+1]? = some p2:=by rw [A.ep,← A.jp,List.getElem?_append_right (by omega),Nat.add_sub_cancel_left]; rfl
  have hok:ks.eraseIdx j=kc++kd:=by rw [A.ek,← A.jc]; exact qgT ..
  have hoi:ps.eraseIdx (j+1)=pc++p1::pd:=by rw [A.ep,← A.jp]; exact qeX ..
  have hp12:p1≠p2:=by
   have:=hnd
   rw [A.eU] at this
   exact (nd5 this).2.2.1
  have hs:¬ qV (qU na nb' key)≤256→_:=fun hs=>Qz f1 f2 f4 hs
  have hh2:=A.b1.here.1
  have hh1:=A.a1.here.1
  have key1:W (XX x.v (.int .i64 (j:Int)) (.int .i64 (left:Int)) (.pointer (some ⟨m.next,0,none⟩)) (.pointer (some ⟨m1.next,0,none⟩)) m5) (qiK x lo0 m h lo hi (l0++(l1++l2)) (U0++((p::U1)++U2))):=by
   refine (qcI (x:={ x with rd:=x.rd+1 }) (lo:=lo0) (na:=na) (nb':=nb') (p2:=p2) hx5 he (by show x.rd+1+2≤1000; omega) hl hfp hcp (by omega) ⟨⟨hlo,by omega⟩,⟨by omega,by omega⟩⟩ (by omega) hm5 gr5 i1 hfew.2 hj1 hj2 hjk (by omega) A.a1 A.b1 hp12 f2 f4 (fun hs'=>by
    obtain ⟨s1,s2,s3,s4,s5,_⟩:=hs hs'
    exact ⟨s1,s2,s3,s4,s5⟩)).mono fun r m' ⟨w1,w2⟩=>?_
   have w1:Upd x.fp m m':=u05.then' w1 (fun b hb=>by
    rcases List.mem_cons.1 hb with rfl|hb
    ·right; omega
    ·left; exact hb)
   rw [hok,hoi] at w2
   rcases w2 with ⟨z1,z2,c1,z3⟩|⟨z1,z2,c1,c2,z3⟩
   ·obtain ⟨y1,y2,y3⟩:=A.one hr hk (yU hsz) hnd z1
    have es1:=Wo.kL hh1 (zx (qU na nb' key)) c1
    have es2:=Wo.YH (o:={ x.o with L:=upL x.o.L p1 (zx (qU na nb' key)) c1 }) hu20 hP hh2
    rw [es1] at es2
    have ff:=(hf.write hh1 (zx (qU na nb' key)) c1).drop hu20 hP hh2
    refine ⟨_,_,_,z3,⟨rfl,rfl,rfl,rfl,rfl,rfl,rfl,rfl,rfl,rfl⟩,he,Nat.le_refl _,ff,z2,f5,by show ((kc++kd).map fun k=>3+k.length).sum≤430; omega,?_,?_,y3,w1⟩
    ·rw [es2]; exact y1
    ·rw [es2]; exact y2
   ·have es1:=Wo.kL hh1 (zx (qB (qU na nb' key)).1) c1
    have es2:=Wo.kL (o:={ x.o with L:=upL x.o.L p1 (zx (qB (qU na nb' key)).1) c1 }) hh2 (zx (qB (qU na nb' key)).2.1) c2
    rw [es1] at es2
    have ff:=(hf.write hh1 (zx (qB (qU na nb' key)).1) c1).write hh2 (zx (qB (qU na nb' key)).2.1) c2
    have hrg:=Qm z3.wr.hP
    have hrg:∀ q,Wo.s { x.o with L:=upL (upL x.o.L p1 (zx (qB (qU na nb' key)).1) c1) p2 (zx (qB (qU na nb' key)).2.1) c2 } q≠none→1≤q∧q≤65535:=hrg
    rw [es2] at hrg
    obtain ⟨U',y1,y2,y3,y4,y5⟩:=A.two hr hk (yU hsz) hnd z1 hrg
    have hw2:kF (Nd.nd (kc++kd) (pc++p1::pd)) j [([],p1),((qB (qU na nb' key)).2.2,p2)]=Nd.nd (kc++(qB (qU na nb' key)).2.2::kd) (pc++p1::p2::pd):=by
     have hjc:=A.jc
     have hjp:=A.jp
     have hlen:(pc++p1::pd).length=(kc++kd).length+1:=(zd f5 rfl).2.1
     rw [qfn (ks:=kc++kd) (ps:=pc++p1::pd) (by rw [List.length_append]; omega) hlen,List.take_left' hjc,List.drop_left' hjc,List.take_left' hjp]
     congr 3
     rw [← List.drop_drop,List.drop_left' hjp]; rfl
    rw [hw2] at z2
    refine ⟨_,_,_,z3,⟨rfl,rfl,rfl,rfl,rfl,rfl,rfl,rfl,rfl,rfl⟩,he,Nat.le_refl _,ff,z2,y2,y3,?_,?_,y5,w1⟩
    ·rw [es2]; exact y1
    ·rw [es2]; exact y4
  by_cases h0c:0<c
  ·have e5:((0:Int)<(c:Int))=True:=eq_true (by omega)
   have e6:arith .sub (.int .i64 (c:Int)) (.int .i64 1)=some (.int .i64 (j:Int)):=by
    rw [if_pos h0c] at hj
    rw [zS (by omega) (by omega)]; congr 2; omega
   simp -implicitDefEqProofs only [st0,qc,reduceIte,fa,qG hm5.gn (o:=0+3) rfl,qY hm5.k3,e2,e5,e6]
   exact key1
  ·have e5:((0:Int)<(c:Int))=False:=eq_false (by omega)
   rw [if_neg h0c] at hj
   subst hj
   simp -implicitDefEqProofs only [st0,qc,reduceIte,fa,qG hm5.gn (o:=0+3) rfl,qY hm5.k3,e2,e5]
   exact key1
end
end Go.Fx.Tryz
