/- Parts of a proof: TreeP, TreeQ, TreeR, TreeS, TreeT, TreeU, TreeV. Conditions: none. -/
import Derived.Test.YtnngjdfadfblmaaGreatDoorQt18
set_option linter.unusedSimpArgs false
set_option linter.unusedVariables false
namespace Go.Fx.Tryz
open Go Go.Fx
def yr (n:Nd):Bool:=decide (qV n<90)||(n.leaf&&n.pairs.isEmpty)||(!n.leaf&&n.keys.isEmpty)
def zL:Enc (Bs × Nat):=⟨2,fun p=>[str p.1,.int .i64 (p.2:Int)],fun _=>rfl,fun _=>rfl⟩
theorem yL:zL.size=2:=rfl
theorem qev {lo:Nat} {v:Value} {n:Nd} {m:Mem} (h:TN lo m v n) (hf:n.Fit):W (Call S tab 159 [v] m) fun r m'=>r=.bool (yr n)∧Upd [] m m':=by
 have hn:=h
 obtain ⟨sp,sk,si,rfl,h1,h2,h3⟩:=h.ex
 rw [qjt]
 simp -implicitDefEqProofs only [st0,qc,reduceIte,qQ]
 have u1:Upd [] m (m.add (qh n.leaf sp sk si)):=Upd.add _ _ _
 have g1:(m.add (qh n.leaf sp sk si)).get m.next=some (qh n.leaf sp sk si):=Mem.qk ..
 have n1:(m.add (qh n.leaf sp sk si)).next=m.next+1:=rfl
 generalize (m.add (qh n.leaf sp sk si))=m1 at u1 g1 n1
 simp -implicitDefEqProofs only [st0,qc,reduceIte,qF g1]
 refine qo.2 ((ZC (hn.qt u1) hf).mono fun v2 m2 ⟨r2,u2⟩=>?_)
 subst r2
 have g2:=qA u2 (by omega) g1
 have u02:=u1.qD u2
 have ep:decide ((n.pairs.length:Int)=0)=n.pairs.isEmpty:=by cases n.pairs<;>simp; omega
 have ek:decide ((n.keys.length:Int)=0)=n.keys.isEmpty:=by cases n.keys<;>simp; omega
 unfold yr
 by_cases hs:qV n<90
 ·have e1:(((qV n:Nat):Int)<90)=True:=eq_true (by omega)
  simp -implicitDefEqProofs only [st0,qc,reduceIte,e1,decide_eq_true hs,Bool.true_or]
  exact ⟨trivial,u02⟩
 ·have e1:(((qV n:Nat):Int)<90)=False:=eq_false (by omega)
  cases hl:n.leaf with
  | true =>
   rw [hl] at g2
   cases hp:n.pairs.isEmpty<;>rw [hp] at ep<;>simp -implicitDefEqProofs only [st0,qc,reduceIte,e1,fa,qG g2 (o:=0+0) rfl,qG g2 (o:=0+1) rfl,qY h1,decide_eq_false hs,Bool.false_or,ep,Bool.true_and,Bool.false_and,Bool.or_false,Bool.true_or]<;>exact ⟨trivial,u02⟩
  | false =>
   rw [hl] at g2
   cases hp:n.keys.isEmpty<;>rw [hp] at ek<;>simp -implicitDefEqProofs only [st0,qc,reduceIte,e1,fa,qG g2 (o:=0+0) rfl,qG g2 (o:=0+2) rfl,qY h2,decide_eq_false hs,Bool.false_or,ek,Bool.true_and,Bool.false_and,Bool.or_false,Bool.true_or]<;>exact ⟨trivial,u02⟩
section
variable {x:Wx} {m:Mem}
theorem yK (a:Bs) (k:Nat):qy [.string ⟨#[]⟩,.int .i64 0] [(0,1,str a),(1,1,.int .i64 (k:Int))]=some [str a,.int .i64 (k:Int)]:=by kernel_rfl
theorem qiO {lo:Nat} (h:XR x m) (he:x.err=0) {page:Nat} (hp:page≤65536) {n:Nd} {v:Value} (ht:TN lo m v n) (hf:n.Fit) (hh:x.o.has page=true) (hr:qO n=true)
  (hs:¬ qV n≤256→(if n.leaf then 2≤n.pairs.length else 3≤n.keys.length∧n.kids.length=n.keys.length+1)∧qO (qB n).1=true∧qV (qB n).1≤256∧qO (qB n).2.1=true∧qV (qB n).2.1≤256) :
  W (Call S tab 103 [x.v,.int .i64 (page:Int),v] m) fun r m' =>
   (qV n≤256∧RSl m.next zL m' r [([],page)]∧(∃ c,XR { x with o:={ x.o with L:=upL x.o.L page (zx n) c } } m')∧Upd [x.o.pm,x.xb] m m') ∨
   (¬ qV n≤256∧XR { x with err:=8 } m'∧Upd [x.xb] m m') ∨
   (¬ qV n≤256∧∃ q c1 c2 c3,1≤q∧q<x.o.P∧xQ x.o.u q=false∧RSl m.next zL m' r [([],page),((qB n).2.2,q)]∧XR { x with o:={ x.o with u:=zZ x.o.u q,L:=upL (upL (upL x.o.L q (qq 256) c1) page (zx (qB n).1) c2) q (zx (qB n).2.1) c3 } } m'∧Upd [x.o.w,x.o.pm,x.xb] m m'):=by
 have hn:=ht
 obtain ⟨sp,sk,si,rfl,q1,q2,q3⟩:=ht.ex
 have w1:=h.wr.lw; have w2:=h.wr.lm; have w3:=h.wr.lc; have w4:=h.wr.lp; have w5:=h.lx
 rw [qjR]
 simp -implicitDefEqProofs only [st0,qc,reduceIte,qQ]
 have u1:Upd [] m (m.add (qh n.leaf sp sk si)):=Upd.add _ _ _
 have g1:(m.add (qh n.leaf sp sk si)).get m.next=some (qh n.leaf sp sk si):=Mem.qk ..
 have n1:(m.add (qh n.leaf sp sk si)).next=m.next+1:=rfl
 generalize (m.add (qh n.leaf sp sk si))=m1 at u1 g1 n1
 simp -implicitDefEqProofs only [st0,qc,reduceIte,qF g1]
 refine qo.2 ((ZC (hn.qt u1) hf).mono fun v2 m2 ⟨r2,u2⟩=>?_)
 subst r2
 have g2:=qA u2 (by omega) g1
 have u02:=u1.qD u2
 have h2:=h.qt u02
 have x2:=u2.next
 have t2:=hn.qt u02
 by_cases hsz:qV n≤256
 ·have e1:(((qV n:Nat):Int)≤256)=True:=eq_true (by omega)
  simp -implicitDefEqProofs only [st0,qc,reduceIte,e1,qF g2]
  refine qo.2 ((wq h2 he hp t2 hh hr hsz).mono fun v3 m3 ⟨r3,⟨c,h3⟩,u3⟩=>?_)
  have e2:=yK [] page
  rw [← vQ] at e2
  have e3:qy [.string ⟨#[]⟩,.int .i64 0] [(0,2,.agg [.string ⟨#[]⟩,.int .i64 (page:Int)].toArray)]=some (zL.flat [([],page)]):=by kernel_rfl
  simp -implicitDefEqProofs only [st0,qc,reduceIte,e2,e3]
  have x3:=u3.next
  have tf:TAp zL 180 (m3.add ⟨.cells (zL.flat [(([]:Bs),page)]) 180,false,none⟩) (.slice (some ⟨m3.next,0,none⟩) [(([]:Bs),page)].length [(([]:Bs),page)].length) [([],page)]:=TAp.fresh m3 _
  refine .inl ⟨hsz,tf.rsl (fun b hb=>by simp [qe] at hb; omega),⟨c,h3.qt (Upd.add _ _ _)⟩,((u02.mono (fun b hb _=>by cases hb)).trans u3).qbX _⟩
 ·obtain ⟨s1,s2,s3,s4,s5⟩:=hs hsz
  have e1:(((qV n:Nat):Int)≤256)=False:=eq_false (by omega)
  simp -implicitDefEqProofs only [st0,qc,reduceIte,e1,qF g2]
  refine qo.2 ((JB t2 hf s1).mono fun v3 m3 ⟨⟨va,vb,r3,ta,tb⟩,u3⟩=>?_)
  subst r3
  obtain ⟨pa,ka,ia,rfl,a1,a2,a3⟩:=ta.ex
  obtain ⟨pb,kb,ib,rfl,b1,b2,b3⟩:=tb.ex
  have x3:=u3.next
  have u03:=u02.qD u3
  simp -implicitDefEqProofs only [st0,qc,reduceIte,(ex3 _ _ _).1,(ex3 _ _ _).2.1,(ex3 _ _ _).2.2]
  have u4:Upd [] m3 (m3.add (qh false (.slice none 0 0) (.slice none 0 0) (.slice none 0 0))):=Upd.add _ _ _
  have g4:(m3.add (qh false (.slice none 0 0) (.slice none 0 0) (.slice none 0 0))).get m3.next=some (qh false (.slice none 0 0) (.slice none 0 0) (.slice none 0 0)):=Mem.qk ..
  have n4:(m3.add (qh false (.slice none 0 0) (.slice none 0 0) (.slice none 0 0))).next=m3.next+1:=rfl
  generalize (m3.add (qh false (.slice none 0 0) (.slice none 0 0) (.slice none 0 0)))=m4 at u4 g4 n4
  have u5:Upd [] m4 (m4.add (qh false (.slice none 0 0) (.slice none 0 0) (.slice none 0 0))):=Upd.add _ _ _
  have k5:(m4.add (qh false (.slice none 0 0) (.slice none 0 0) (.slice none 0 0))).get m4.next=some (qh false (.slice none 0 0) (.slice none 0 0) (.slice none 0 0)):=Mem.qk ..
  have n5:(m4.add (qh false (.slice none 0 0) (.slice none 0 0) (.slice none 0 0))).next=m4.next+1:=rfl
  have g5:=qA u5 (by omega) g4
  generalize (m4.add (qh false (.slice none 0 0) (.slice none 0 0) (.slice none 0 0)))=m5 at u5 k5 n5 g5
  simp -implicitDefEqProofs only [st0,qc,reduceIte,qX g5 _ a1.one.2 a2.one.2 a3.one.2]
  have u6:Upd [m3.next] m5 (m5.put m3.next (qh (qB n).1.leaf pa ka ia)):=Upd.put _ _ (by simp)
  have g6:(m5.put m3.next (qh (qB n).1.leaf pa ka ia)).get m3.next=_:=Mem.qj ..
  have k6:(m5.put m3.next (qh (qB n).1.leaf pa ka ia)).get m4.next=_:=(Mem.qn m5 _ (by omega)).trans k5
  generalize (m5.put m3.next (qh (qB n).1.leaf pa ka ia))=m6 at u6 g6 k6
  simp -implicitDefEqProofs only [st0,qc,reduceIte,qX k6 _ b1.one.2 b2.one.2 b3.one.2]
  have u7:Upd [m4.next] m6 (m6.put m4.next (qh (qB n).2.1.leaf pb kb ib)):=Upd.put _ _ (by simp)
  have k7:(m6.put m4.next (qh (qB n).2.1.leaf pb kb ib)).get m4.next=_:=Mem.qj ..
  have g7:(m6.put m4.next (qh (qB n).2.1.leaf pb kb ib)).get m3.next=_:=(Mem.qn m6 _ (by omega)).trans g6
  generalize (m6.put m4.next (qh (qB n).2.1.leaf pb kb ib))=m7 at u7 g7 k7
  have x6:=u6.next
  have x7:=u7.next
  have u37:Upd [] m3 m7:=(((u4.qD u5).then' u6 (fun b hb=>.inr (by simp at hb; omega))).then' u7 (fun b hb=>.inr (by simp at hb; omega)))
  have ta7:=ta.qt u37
  have tb7:=tb.qt u37
  have u07:=u03.qD u37
  have h7:=h.qt u07
  refine qo.2 ((qcd h7 he).mono fun v8 m8 hc=>?_)
  have e4:=yK [] page
  rw [← vQ] at e4
  rcases hc with ⟨rfl,h8,u8⟩|⟨q,c,y1,y2,y3,rfl,h8,u8⟩
  ·have x8:=u8.next
   have hx8:∀ b∈[x.xb],b<m3.next:=fun b hb=>by simp at hb; omega
   have g8:m8.get m3.next=_:=(u8.same _ (by omega) (by simp; omega)).trans g7
   have k8:m8.get m4.next=_:=(u8.same _ (by omega) (by simp; omega)).trans k7
   have e8:({ x with err:=8 }:Wx).err≠0:=by show (8:Nat)≠0; omega
   simp -implicitDefEqProofs only [st0,qc,reduceIte,qF g8]
   refine qo.2 ((ZB h8 e8 _ ((ta7.low (lo':=m2.next) (Nat.le_refl _)).upd u8 (fun b hb=>by simp at hb; omega)) s2 s3).mono fun v9 m9 ⟨_,u9⟩=>?_)
   have k9:=qA u9 (by omega) k8
   simp -implicitDefEqProofs only [st0,qc,reduceIte,qF k9]
   refine qo.2 ((ZB (h8.qt u9) e8 _ ((tb7.upd u8 (fun b hb=>by simp at hb; omega)).qt u9) s4 s5).mono fun v10 m10 ⟨_,u10⟩=>?_)
   have e5:=yK (qB n).2.2 0
   rw [show (Value.int .i64 ((0:Nat):Int))=.int .i64 0 from rfl] at e5
   have e6:qy [.string ⟨#[]⟩,.int .i64 0,.string ⟨#[]⟩,.int .i64 0] [(0,2,.agg [.string ⟨#[]⟩,.int .i64 (page:Int)].toArray),(2,2,.agg [str (qB n).2.2,.int .i64 0].toArray)]=some [.string ⟨#[]⟩,.int .i64 (page:Int),str (qB n).2.2,.int .i64 0]:=by kernel_rfl
   simp -implicitDefEqProofs only [st0,qc,reduceIte,e4,e5,e6]
   exact .inr (.inl ⟨hsz,((h8.qt u9).qt u10).qt (Upd.add _ _ _),((((u07.mono (fun b hb _=>by cases hb)).trans u8).qD u9).qD u10).qbX _⟩)
  ·have x8:=u8.next
   have g8:m8.get m3.next=_:=(u8.same _ (by omega) (by simp; omega)).trans g7
   have k8:m8.get m4.next=_:=(u8.same _ (by omega) (by simp; omega)).trans k7
   have hl8:∀ b∈[x.o.w,x.o.pm,x.xb],b<m2.next:=fun b hb=>by simp at hb; omega
   have hP:=h.wr.hP
   have hu20:=h.wr.hu
   have hb1:∀ k,xQ (zZ x.o.u q) k=(xQ x.o.u k ^^ decide (k=q)):=ZP x.o.u (by omega)
   have hpq:page≠q:=by
    rintro rfl
    unfold Wo.has at hh
    rw [y3] at hh
    simp at hh
   have hh8:Wo.has { x.o with u:=zZ x.o.u q,L:=upL x.o.L q (qq 256) c } page=true:=by
    unfold Wo.has at hh ⊢
    simp only [hb1,decide_eq_false hpq,Bool.xor_false]; exact hh
   simp -implicitDefEqProofs only [st0,qc,reduceIte,qF g8]
   refine qo.2 ((wq h8 he hp (ta7.upd u8 hl8) hh8 s2 s3).mono fun v9 m9 ⟨_,⟨c2,h9⟩,u9⟩=>?_)
   have x9:=u9.next
   have k9:m9.get m4.next=_:=(u9.same _ (by omega) (by simp; omega)).trans k8
   have hl9:∀ b∈[x.o.pm,x.xb],b<m2.next:=fun b hb=>by simp at hb; omega
   have hhq:Wo.has { x.o with u:=zZ x.o.u q,L:=upL (upL x.o.L q (qq 256) c) page (zx (qB n).1) c2 } q=true:=by
    unfold Wo.has
    simp only [hb1,y3]
    simp [y1,y2]
   simp -implicitDefEqProofs only [st0,qc,reduceIte,qF k9]
   refine qo.2 ((wq h9 he (by omega) ((tb7.upd u8 hl8).upd u9 hl9) hhq s4 s5).mono fun v10 m10 ⟨_,⟨c3,h10⟩,u10⟩=>?_)
   have e5:=yK (qB n).2.2 q
   have e6:qy [.string ⟨#[]⟩,.int .i64 0,.string ⟨#[]⟩,.int .i64 0] [(0,2,.agg [.string ⟨#[]⟩,.int .i64 (page:Int)].toArray),(2,2,.agg [str (qB n).2.2,.int .i64 (q:Int)].toArray)]=some (zL.flat [([],page),((qB n).2.2,q)]):=by kernel_rfl
   simp -implicitDefEqProofs only [st0,qc,reduceIte,e4,e5,e6]
   have x10:=u10.next
   have tf:TAp zL 180 (m10.add ⟨.cells (zL.flat [(([]:Bs),page),((qB n).2.2,q)]) 180,false,none⟩) (.slice (some ⟨m10.next,0,none⟩) [(([]:Bs),page),((qB n).2.2,q)].length [(([]:Bs),page),((qB n).2.2,q)].length) [([],page),((qB n).2.2,q)]:=TAp.fresh m10 _
   refine .inr (.inr ⟨hsz,q,c,c2,c3,y1,y2,y3,tf.rsl (fun b hb=>by simp [qe] at hb; omega),h10.qt (Upd.add _ _ _),?_⟩)
   have hsub:∀ b,b∈[x.o.pm,x.xb]→b∈[x.o.w,x.o.pm,x.xb]:=fun b hb=>List.mem_cons.2 (.inr hb)
   exact ((((u07.mono (fun b hb _=>by cases hb)).trans u8).trans (u9.mono (fun b hb _=>hsub b hb))).trans (u10.mono (fun b hb _=>hsub b hb))).qbX _
end
end Go.Fx.Tryz
namespace Go.Fx.Tryz
open Go Go.Fx
abbrev Pt:=Bs × Nat
def wK (n:Nd) (k:Nat) (ps:List Pt) (i:Nat):List Bs:=(List.range i).flatMap fun j=>(if 0<j then [n.keys.getD (j - 1) []] else [])++(if j=k then ps.tail.map (·.1) else [])
def wI (n:Nd) (k:Nat) (ps:List Pt) (i:Nat):List Nat:=(List.range i).flatMap fun j=>if j=k then ps.map (·.2) else [n.kids.getD j 0]
def kF (n:Nd) (k:Nat) (ps:List Pt):Nd:=Nd.nd (wK n k ps n.kids.length) (wI n k ps n.kids.length)
theorem wR (n:Nd) (k:Nat) (ps:List Pt) (i:Nat):wK n k ps (i+1)=wK n k ps i++((if 0<i then [n.keys.getD (i - 1) []] else [])++(if i=k then ps.tail.map (·.1) else [])):=by
 unfold wK; rw [List.range_succ,List.flatMap_append,List.flatMap_singleton]
theorem wS (n:Nd) (k:Nat) (ps:List Pt) (i:Nat):wI n k ps (i+1)=wI n k ps i++(if i=k then ps.map (·.2) else [n.kids.getD i 0]):=by
 unfold wI; rw [List.range_succ,List.flatMap_append,List.flatMap_singleton]
structure Ou (m0:Mem) (ob:Nat) (m:Mem) (kv iv:Value) (ks:List Bs) (is:List Nat):Prop where
 g:m.get ob=some (qh false (.slice none 0 0) kv iv)
 tk:TAp zi 9 m kv ks
 ti:TAp zG 3 m iv is
 bk:∀ b∈qe kv,m0.next≤b
 bi:∀ b∈qe iv,m0.next≤b
 dj:∀ b∈qe kv,b∉qe iv
 lo:ob<m0.next
 up:Upd [ob] m0 m
section
variable {m0 m m':Mem} {ob:Nat} {kv iv v':Value} {ks:List Bs} {is:List Nat}
theorem Ou.qt (h:Ou m0 ob m kv iv ks is) (hu:Upd [] m m'):Ou m0 ob m' kv iv ks is :=
 ⟨qA hu (Nat.lt_of_lt_of_le h.lo h.up.next) h.g,h.tk.qt hu,h.ti.qt hu,h.bk,h.bi,h.dj,h.lo,h.up.qD hu⟩
theorem Ou.qhc (h:Ou m0 ob m kv iv ks is) {l:List Bs} (q1:TAp zi 9 m' v' l) (q2:Upd (qe kv) m m') (q3:∀ b∈qe v',b∈qe kv∨m.next≤b) :
  m'.get ob=some (qh false (.slice none 0 0) kv iv)∧Ou m0 ob (m'.put ob (qh false (.slice none 0 0) v' iv)) v' iv l is:=by
 have hn:=h.up.next
 have hlo:=h.lo
 have hg:m'.get ob=some (qh false (.slice none 0 0) kv iv):=(q2.same ob (by omega) (fun hb=>by have:=h.bk _ hb; omega)).trans h.g
 have hb:∀ b∈qe v',m0.next≤b:=fun b hb=>(q3 b hb).elim (h.bk b) (fun h=>by omega)
 have hp:Upd [ob] m' (m'.put ob (qh false (.slice none 0 0) v' iv)):=Upd.put _ _ (by simp)
 refine ⟨hg,⟨Mem.qj ..,q1.upd hp (fun b hb' hm=>by simp at hm; have:=hb b hb'; omega),(h.ti.upd q2 (fun b hb' hm=>h.dj b hm hb')).upd hp (fun b hb' hm=>by simp at hm; have:=h.bi b hb'; omega),hb,h.bi,fun b hb1 hb2=>?_,h.lo,(h.up.then' q2 (fun b hb'=>.inr (h.bk b hb'))).jL _ (.inl (by simp))⟩⟩
 rcases q3 b hb1 with h1|h1
 ·exact h.dj b h1 hb2
 ·have:=h.ti.lt b hb2; omega
theorem Ou.qhd (h:Ou m0 ob m kv iv ks is) {l:List Nat} (q1:TAp zG 3 m' v' l) (q2:Upd (qe iv) m m') (q3:∀ b∈qe v',b∈qe iv∨m.next≤b) :
  m'.get ob=some (qh false (.slice none 0 0) kv iv)∧Ou m0 ob (m'.put ob (qh false (.slice none 0 0) kv v')) kv v' ks l:=by
 have hn:=h.up.next
 have hlo:=h.lo
 have hg:m'.get ob=some (qh false (.slice none 0 0) kv iv):=(q2.same ob (by omega) (fun hb=>by have:=h.bi _ hb; omega)).trans h.g
 have hb:∀ b∈qe v',m0.next≤b:=fun b hb=>(q3 b hb).elim (h.bi b) (fun h=>by omega)
 have hp:Upd [ob] m' (m'.put ob (qh false (.slice none 0 0) kv v')):=Upd.put _ _ (by simp)
 refine ⟨hg,⟨Mem.qj ..,(h.tk.upd q2 (fun b hb' hm=>h.dj b hb' hm)).upd hp (fun b hb' hm=>by simp at hm; have:=h.bk b hb'; omega),q1.upd hp (fun b hb' hm=>by simp at hm; have:=hb b hb'; omega),h.bk,hb,fun b hb1 hb2=>?_,h.lo,(h.up.then' q2 (fun b hb'=>.inr (h.bi b hb'))).jL _ (.inl (by simp))⟩⟩
 rcases q3 b hb2 with h1|h1
 ·exact h.dj b hb1 h1
 ·have:=h.tk.lt b hb1; omega
theorem Ou.ld (h:Ou m0 ob m kv iv ks is):qb (.pointer (some ⟨ob,0+2,none⟩)) m=some kv∧qb (.pointer (some ⟨ob,0+3,none⟩)) m=some iv:=⟨qG h.g rfl,qG h.g rfl⟩
end
theorem JM (s:Bs):qy [.string ⟨#[]⟩] [(0,1,str s)]=some (zi.flat [s]):=by kernel_rfl
theorem qdk (k:Nat):qy [.int .i64 0] [(0,1,.int .i64 (k:Int))]=some (zG.flat [k]):=by kernel_rfl
theorem Yt {m0:Mem} {ob lo:Nat} {x1 x3 x6 x14 x15 x16 vp:Value} {ps:List Pt} (hps:ps.length≤2) (hlo:lo≤m0.next) (hvp:∀ b∈qe vp,b<m0.next∧b≠ob) {K0:List Bs} {I0:List Nat} (hK:K0.length≤1000) (hI:I0.length≤1000) {Q:Value→Mem→Prop}
  (hQ:∀ m kv iv,Ou m0 ob m kv iv (K0++ps.tail.map (·.1)) (I0++ps.map (·.2))→RSl lo zL m vp ps→W ((arith .add x16 (.int .i64 1)).bind fun v19=>QZ x1 vp x3 x6 (.pointer (some ⟨ob,0,none⟩)) x14 x15 v19 m) Q) :
  ∀ (d j:Nat) (m:Mem) (kv iv:Value),ps.length - j=d→j≤ps.length→Ou m0 ob m kv iv (K0++((ps.take j).drop 1).map (·.1)) (I0++(ps.take j).map (·.2))→RSl lo zL m vp ps →
  W (VB x1 vp x3 x6 (.pointer (some ⟨ob,0,none⟩)) x14 x15 x16 vp (.int .i64 (ps.length:Int)) (.int .i64 (j:Int)) m) Q:=by
 intro d
 induction d with
 | zero =>
  intro j m kv iv hd hj h hv
  obtain rfl:j=ps.length:=by omega
  rw [P105_2_eq]
  simp -implicitDefEqProofs only [st0,qc,reduceIte,Int.lt_irrefl]
  rw [List.take_length,List.drop_one] at h
  exact hQ m kv iv h hv
 | succ d ih =>
  intro j m kv iv hd hj h hv
  have hlt:j<ps.length:=by omega
  have e1:((j:Int)<(ps.length:Int))=True:=eq_true (by omega)
  obtain ⟨b,off,h1,h2⟩:=hv.1.at .i64 (ja hlt)
  rw [yL] at h1 h2
  have h2:=h2 m hv.1
  rw [P105_2_eq]
  simp -implicitDefEqProofs only [st0,qc,reduceIte,e1,h1,h2.1]
  refine xR (c:=zL.cells ps[j]) rfl rfl rfl fun m1 g1 u1 n1=>?_
  have o1:=h.qt u1
  have hv1:=hv.qt u1
  have hkp:∀ {M M':Mem} {kv iv:Value} {ks:List Bs} {is:List Nat},Ou m0 ob M kv iv ks is→Upd (ob::qe kv++qe iv) M M'→RSl lo zL M vp ps→RSl lo zL M' vp ps:=by
   intro M M' kv iv ks is ho hu hr
   refine hr.zF hu (fun b hb hm=>?_)
   have:=hvp b hb
   simp only [List.cons_append,List.mem_cons,List.mem_append] at hm
   rcases hm with hm|hm|hm
   ·exact this.2 hm
   ·have:=ho.bk b hm; omega
   ·have:=ho.bi b hm; omega
  have hm0:m0.next≤m.next:=h.up.next
  have tail:∀ {M:Mem} {kv iv:Value} {ks:List Bs},Ou m0 ob M kv iv ks (I0++(ps.take j).map (·.2))→K0++((ps.take (j+1)).drop 1).map (·.1)=ks→RSl lo zL M vp ps→M.get m.next=some ⟨.cells (zL.cells ps[j]) 180,false,none⟩ →
    W (VA x1 vp x3 x6 (.pointer (some ⟨ob,0,none⟩)) (.pointer (some ⟨m.next,0,none⟩)) x14 x15 x16 vp (.int .i64 (ps.length:Int)) (.int .i64 (j:Int)) M) Q:=by
   intro M kv iv ks ho hks hr hg
   rw [P105_3_eq]
   have hl:(I0++(ps.take j).map (·.2)).length≤1002:=by simp; omega
   simp -implicitDefEqProofs only [st0,qc,reduceIte,fa,ho.ld.2,qu hg (show (zL.cells ps[j])[0+1]? = some (.int .i64 (ps[j].2:Int)) from rfl),qdk]
   refine zU (E:=zG) [ps[j].2] (by decide) ho.ti (by simp only [List.length_cons,List.length_nil]; omega) fun v2 m2 q1 q2 q3=>?_
   obtain ⟨g2,o2⟩:=ho.qhd q1 q2 q3
   simp -implicitDefEqProofs only [st0,qc,reduceIte,fa,wB g2 q1.one,qE (i:=j) (by omega)]
   have e5:(I0++(ps.take j).map (·.2))++[ps[j].2]=I0++(ps.take (j+1)).map (·.2):=by rw [List.take_succ_eq_append_getElem hlt,List.map_append,List.append_assoc]; rfl
   rw [e5,← hks] at o2
   refine ih (j+1) _ kv v2 (by omega) hlt o2 (hkp ho ((q2.mono (fun b hb _=>by simp [hb])).trans (Upd.put _ _ (by simp))) hr)
  by_cases h0:j=0
  ·have e2:((0:Int)<(j:Int))=False:=eq_false (by omega)
   simp -implicitDefEqProofs only [st0,qc,reduceIte,e2]
   subst h0
   exact tail o1 (by simp [List.take_succ_eq_append_getElem hlt]) hv1 g1
  ·have e2:((0:Int)<(j:Int))=True:=eq_true (by omega)
   have hl:(K0++((ps.take j).drop 1).map (·.1)).length≤1002:=by simp; omega
   simp -implicitDefEqProofs only [st0,qc,reduceIte,e2,fa,o1.ld.1,qu g1 (show (zL.cells ps[j])[0+0]? = some (str ps[j].1) from rfl),JM]
   refine zU (E:=zi) [ps[j].1] (by decide) o1.tk (by simp only [List.length_cons,List.length_nil]; omega) fun v2 m2 q1 q2 q3=>?_
   obtain ⟨g2,o2⟩:=o1.qhc q1 q2 q3
   simp -implicitDefEqProofs only [st0,qc,reduceIte,fa,Qc g2 q1.one]
   refine tail o2 ?_ (hkp o1 ((q2.mono (fun b hb _=>by simp [hb])).trans (Upd.put _ _ (by simp))) hv1) ?_
   ·rw [List.take_succ_eq_append_getElem hlt,List.drop_append_of_le_length (by rw [List.length_take]; omega),List.map_append,List.append_assoc]; rfl
   ·have hlo':=h.lo
    rw [Mem.qn _ _ (by omega),q2.same _ n1 (fun hm=>by have:=h.tk.lt _ hm; omega)]; exact g1
end Go.Fx.Tryz
namespace Go.Fx.Tryz
open Go Go.Fx
structure We (lo:Nat) (n:Nd) (nb rb:Nat) (sp sk si vp:Value) (ps:List Pt) (m:Mem):Prop where
 gn:m.get nb=some (qh n.leaf sp sk si)
 gr:m.get rb=some (qh false (.slice none 0 0) (.slice none 0 0) (.slice none 0 0))
 k2:RSl lo zi m sk n.keys
 k3:RSl lo zG m si n.kids
 kp:RSl lo zL m vp ps
theorem We.zF {lo:Nat} {n:Nd} {nb rb ob:Nat} {sp sk si vp:Value} {ps:List Pt} {m m' m0:Mem} (h:We lo n nb rb sp sk si vp ps m) {fp:List Nat} (hu:Upd fp m m') (hf:∀ b∈fp,b=ob∨m0.next≤b) (h0:m0.next≤m.next)
  (hb:(nb<m0.next∧nb≠ob)∧(rb<m0.next∧rb≠ob)∧(∀ b∈qe sk,b<m0.next∧b≠ob)∧(∀ b∈qe si,b<m0.next∧b≠ob)∧∀ b∈qe vp,b<m0.next∧b≠ob):We lo n nb rb sp sk si vp ps m':=by
 obtain ⟨b1,b2,b3,b4,b5⟩:=hb
 have no:∀ {b:Nat},(b<m0.next∧b≠ob)→b∉fp:=fun hb hm=>by
  rcases hf _ hm with e|e
  ·exact hb.2 e
  ·omega
 exact ⟨(hu.same _ (by omega) (no b1)).trans h.gn,(hu.same _ (by omega) (no b2)).trans h.gr,h.k2.zF hu (fun b hb=>no (b3 b hb)),h.k3.zF hu (fun b hb=>no (b4 b hb)),h.kp.zF hu (fun b hb=>no (b5 b hb))⟩
theorem qaM {lo:Nat} {n:Nd} {nb rb ob k:Nat} {sp sk si vp:Value} {ps:List Pt} {m0:Mem} (hps:ps.length≤2) (hlo:lo≤m0.next) (hkl:n.kids.length≤n.keys.length+1) (hf:n.kids.length≤200)
  (hb:(nb<m0.next∧nb≠ob)∧(rb<m0.next∧rb≠ob)∧(∀ b∈qe sk,b<m0.next∧b≠ob)∧(∀ b∈qe si,b<m0.next∧b≠ob)∧∀ b∈qe vp,b<m0.next∧b≠ob) (he0:We lo n nb rb sp sk si vp ps m0) :
  ∀ (d i:Nat) (m:Mem) (kv iv:Value),n.kids.length - i=d→i≤n.kids.length→(wK n k ps i).length≤2 * i∧(wI n k ps i).length≤2 * i→Ou m0 ob m kv iv (wK n k ps i) (wI n k ps i) →
  W (QZ (.int .i64 (k:Int)) vp (.pointer (some ⟨nb,0,none⟩)) (.pointer (some ⟨rb,0,none⟩)) (.pointer (some ⟨ob,0,none⟩)) si (.int .i64 (n.kids.length:Int)) (.int .i64 (i:Int)) m) fun r m'=>TN m0.next m' r (kF n k ps)∧Upd [ob,rb] m0 m':=by
 have hW:∀ {M:Mem},Upd [ob] m0 M→We lo n nb rb sp sk si vp ps M:=fun hu=>he0.zF (ob:=ob) (m0:=m0) hu (fun b hb'=>.inl (by simpa using hb')) (Nat.le_refl _) hb
 intro d
 induction d with
 | zero =>
  intro i m kv iv hd hi hwl h
  have he:=hW h.up
  obtain rfl:i=n.kids.length:=by omega
  rw [P105_0_eq]
  simp -implicitDefEqProofs only [st0,qc,reduceIte,Int.lt_irrefl,qF h.g,qX he.gr false (sp':=.slice none 0 0) (sk':=kv) (si':=iv) rfl h.tk.one.2 h.ti.one.2,qF (Mem.qj m rb _)]
  have hp:Upd [rb] m (m.put rb (qh false (.slice none 0 0) kv iv)):=Upd.put _ _ (by simp)
  refine ⟨⟨_,_,_,rfl,RSl.nil _ _ _,(h.tk.rsl h.bk).upd hp (fun b hb'=>by simp at hb'; omega),(h.ti.rsl h.bi).upd hp (fun b hb'=>by simp at hb'; omega)⟩,(h.up.mono (fun b hb' _=>by simp at hb'; simp [hb'])).trans (hp.mono (fun b hb' _=>by simp at hb'; simp [hb']))⟩
 | succ d ih =>
  intro i m kv iv hd hi hwl h
  have he:=hW h.up
  have hlt:i<n.kids.length:=by omega
  have hm0:m0.next≤m.next:=h.up.next
  have e1:((i:Int)<(n.kids.length:Int))=True:=eq_true (by omega)
  obtain ⟨p,h1,_,h2⟩:=he.k3.1.index .i64 (ja hlt)
  rw [jG] at h1
  have h2:=h2 (.int .i64 (n.kids[i]:Int)) rfl
  have hgk:n.kids.getD i 0=n.kids[i]:=by rw [List.getD_eq_getElem?_getD,List.getElem?_eq_getElem hlt]; rfl
  have hKl:(wK n k ps (i+1)).length≤2 * (i+1)∧(wI n k ps (i+1)).length≤2 * (i+1):=by
   rw [wR,wS]
   have:ps.tail.length≤1:=by rw [List.length_tail]; omega
   constructor
   ·simp only [List.length_append]; split<;>split<;>simp<;>omega
   ·simp only [List.length_append]; split<;>simp<;>omega
  have tail:∀ {M:Mem} {kv iv:Value},Ou m0 ob M kv iv (wK n k ps i++(if 0<i then [n.keys.getD (i - 1) []] else [])) (wI n k ps i) →
    W (VC (.int .i64 (k:Int)) vp (.pointer (some ⟨nb,0,none⟩)) (.pointer (some ⟨rb,0,none⟩)) (.pointer (some ⟨ob,0,none⟩)) (.int .i64 (i:Int)) (.int .i64 (n.kids[i]:Int)) si (.int .i64 (n.kids.length:Int)) (.int .i64 (i:Int)) M) fun r m'=>TN m0.next m' r (kF n k ps)∧Upd [ob,rb] m0 m':=by
   intro M kv iv ho
   have hE:=hW ho.up
   have hM:=ho.up.next
   rw [P105_1_eq]
   by_cases hk:i=k
   ·have e2:((i:Int)=(k:Int))=True:=eq_true (by omega)
    have e3:=hE.kp.1.len
    simp -implicitDefEqProofs only [st0,qc,reduceIte,e2,e3]
    refine Yt (lo:=lo) (m0:=m0) (K0:=wK n k ps i++(if 0<i then [n.keys.getD (i - 1) []] else [])) (I0:=wI n k ps i) hps hlo hb.2.2.2.2 (by simp only [List.length_append]; split<;>simp<;>omega) (by omega) (fun M' kv' iv' ho' hp'=>?_) _ 0 M kv iv rfl (by omega) (by simpa using ho) hE.kp
    simp -implicitDefEqProofs only [st0,qc,reduceIte,qE (i:=i) (by omega)]
    refine ih (i+1) M' kv' iv' (by omega) hlt hKl ?_
    rw [wR,wS,if_pos hk,if_pos hk,← List.append_assoc]; exact ho'
   ·have e2:((i:Int)=(k:Int))=False:=eq_false (by omega)
    simp -implicitDefEqProofs only [st0,qc,reduceIte,e2,fa,ho.ld.2,qdk]
    refine zU (E:=zG) [n.kids[i]] (by decide) ho.ti (by simp only [List.length_cons,List.length_nil]; omega) fun v2 m2 q1 q2 q3=>?_
    obtain ⟨g2,o2⟩:=ho.qhd q1 q2 q3
    simp -implicitDefEqProofs only [st0,qc,reduceIte,fa,wB g2 q1.one,qE (i:=i) (by omega)]
    refine ih (i+1) _ kv v2 (by omega) hlt hKl ?_
    rw [wR,wS,if_neg hk,if_neg hk,List.append_nil,hgk]; exact o2
  rw [P105_0_eq]
  by_cases h0:i=0
  ·have e2:((0:Int)<(i:Int))=False:=eq_false (by omega)
   simp -implicitDefEqProofs only [st0,qc,reduceIte,e1,h1,h2,e2]
   exact tail (by rw [if_neg (by omega),List.append_nil]; exact h)
  ·have e2:((0:Int)<(i:Int))=True:=eq_true (by omega)
   have hlk:i - 1<n.keys.length:=by omega
   obtain ⟨pk,y1,_,y2⟩:=he.k2.1.index .i64 (ja hlk)
   rw [xm] at y1
   have y2:=y2 (str n.keys[i - 1]) rfl
   have hgd:n.keys.getD (i - 1) []=n.keys[i - 1]:=by rw [List.getD_eq_getElem?_getD,List.getElem?_eq_getElem hlk]; rfl
   have e3:arith .sub (.int .i64 (i:Int)) (.int .i64 1)=some (.int .i64 ((i - 1:Nat):Int)):=by rw [zS (by omega) (by omega)]; congr 2; omega
   simp -implicitDefEqProofs only [st0,qc,reduceIte,e1,h1,h2,e2,fa,h.ld.1,qG he.gn (o:=0+2) rfl,e3,y1,y2,JM]
   refine zU (E:=zi) [n.keys[i - 1]] (by decide) h.tk (by simp only [List.length_cons,List.length_nil]; omega) fun v2 m2 q1 q2 q3=>?_
   obtain ⟨g2,o2⟩:=h.qhc q1 q2 q3
   simp -implicitDefEqProofs only [st0,qc,reduceIte,fa,Qc g2 q1.one]
   refine kz (fun r hr=>?_) (tail (by rw [if_pos (by omega),hgd]; exact o2))
   simp only [List.mem_cons,List.not_mem_nil,or_false] at hr
   rcases hr with rfl|rfl|rfl
   ·exact okR fun k _ hk=>by
     have:k=0∨k=1:=by omega
     rcases this with rfl|rfl
     ·exact ⟨_,rfl,h.ld.1⟩
     ·exact ⟨_,rfl,(h.qt (Upd.add _ _ _)).ld.1⟩
   ·exact okR fun k _ hk=>by
     obtain rfl:k=0:=by omega
     exact ⟨_,rfl,qG he.gn rfl⟩
   ·exact okR fun k _ hk=>by
     obtain rfl:k=0:=by omega
     exact ⟨_,rfl,y2⟩
theorem Ke {lo:Nat} {v vp:Value} {n:Nd} {m:Mem} {k:Nat} {ps:List Pt} (h:TN lo m v n) (hv:RSl lo zL m vp ps) (hps:ps.length≤2) (hlo:lo≤m.next) (hkl:n.kids.length≤n.keys.length+1) (hf:n.kids.length≤200) :
  W (Call S tab 105 [v,.int .i64 (k:Int),vp] m) fun r m'=>TN m.next m' r (kF n k ps)∧Upd [] m m':=by
 obtain ⟨sp,sk,si,rfl,a1,a2,a3⟩:=h.ex
 rw [qjP]
 have e0:qy [.bool false,.slice none 0 0,.slice none 0 0,.slice none 0 0] []=some [.bool false,.slice none 0 0,.slice none 0 0,.slice none 0 0]:=rfl
 simp -implicitDefEqProofs only [st0,qc,reduceIte,qQ,e0]
 have u1:Upd [] m (m.add (qh n.leaf sp sk si)):=Upd.add _ _ _
 have g1:(m.add (qh n.leaf sp sk si)).get m.next=some (qh n.leaf sp sk si):=Mem.qk ..
 have n1:(m.add (qh n.leaf sp sk si)).next=m.next+1:=rfl
 generalize (m.add (qh n.leaf sp sk si))=m1 at u1 g1 n1
 have u2:Upd [] m1 (m1.add (qh false (.slice none 0 0) (.slice none 0 0) (.slice none 0 0))):=Upd.add _ _ _
 have r2:(m1.add (qh false (.slice none 0 0) (.slice none 0 0) (.slice none 0 0))).get m1.next=some (qh false (.slice none 0 0) (.slice none 0 0) (.slice none 0 0)):=Mem.qk ..
 have n2:(m1.add (qh false (.slice none 0 0) (.slice none 0 0) (.slice none 0 0))).next=m1.next+1:=rfl
 have g2:=qA u2 (by omega) g1
 generalize (m1.add (qh false (.slice none 0 0) (.slice none 0 0) (.slice none 0 0)))=m2 at u2 r2 n2 g2
 refine xR (c:=[.bool false,.slice none 0 0,.slice none 0 0,.slice none 0 0]) rfl rfl rfl fun m3 o3 u3 n3=>?_
 have g3:=qA u3 (by omega) g2
 have r3:=qA u3 (by omega) r2
 have u03:=(u1.qD u2).qD u3
 simp -implicitDefEqProofs only [st0,qc,reduceIte,fa,qG g3 (o:=0+3) rfl,qY a3]
 have hlt:∀ {α:Type} {E:Enc α} {x:Value} {xs:List α},RSl lo E m x xs→∀ b∈qe x,b<m3.next∧b≠m2.next:=fun hr b hb=>by have:=(hr.2 b hb).2; omega
 refine (qaM (lo:=lo) (n:=n) (nb:=m.next) (rb:=m1.next) (ob:=m2.next) (k:=k) (m0:=m3) hps (by omega) hkl hf ⟨⟨by omega,by omega⟩,⟨by omega,by omega⟩,hlt a2,hlt a3,hlt hv⟩ ⟨g3,r3,a2.qt u03,a3.qt u03,hv.qt u03⟩ _ 0 m3 _ _ rfl (by omega) (by simp [wK,wI]) ⟨o3,TAp.nil _,TAp.nil _,fun b hb=>by simp [qe] at hb,fun b hb=>by simp [qe] at hb,fun b hb=>by simp [qe] at hb,n3,Upd.refl _ _⟩).mono fun r m' ⟨t,u⟩=>⟨t.low (by omega),u03.then' u (fun b hb=>.inr (by simp at hb; omega))⟩
end Go.Fx.Tryz
namespace Go.Fx.Tryz
open Go Go.Fx
section
variable {x:Wx} {m:Mem}
theorem qgx {lo:Nat} (h:XR x m) (he:x.err=0) {p:Nat} {vp:Value} (hv:RSl lo zL m vp [([],p)]):Call S tab 60 [x.v,vp] m=some (.int .i64 (p:Int),m):=by
 refine W_eq ?_
 have e1:=xok h
 rw [decide_eq_true he] at e1
 have e2:qd vp=some (.int .i64 1):=hv.1.len
 have d1:decide ((1:Int)=0)=false:=rfl
 have d2:decide ((1:Int)=1)=true:=rfl
 obtain ⟨b,off,h1,h2⟩:=hv.1.at .i64 (i:=0) (a:=([],p)) rfl
 rw [yL] at h1
 have h1':ql 2 vp (.int .i64 0)=some (.pointer (some ⟨b,off,none⟩)):=h1
 have h3:=(h2 m hv.1).2 1 (.int .i64 (p:Int)) rfl
 rw [C60]
 simp -implicitDefEqProofs only [st0,qc,reduceIte,e1,e2,d1,d2,h1',fa,h3]
 exact ⟨trivial,trivial⟩
theorem qgw {lo:Nat} (h:XR x m) (he:x.err=0) {p q:Nat} {key:Bs} {vp:Value} (hv:RSl lo zL m vp [([],p),(key,q)]) (hvx:∀ b∈qe vp,b≠x.o.w∧b≠x.o.pm∧b≠x.xb) (hr:qO (Nd.nd [key] [p,q])=true) (hs:qV (Nd.nd [key] [p,q])≤256) :
  W (Call S tab 60 [x.v,vp] m) fun r m'=>(XR { x with err:=8 } m'∧Upd [x.xb] m m') ∨
   ∃ n c1 c2,1≤n∧n<x.o.P∧xQ x.o.u n=false∧r=.int .i64 (n:Int)∧XR { x with o:={ x.o with u:=zZ x.o.u n,L:=upL (upL x.o.L n (qq 256) c1) n (zx (Nd.nd [key] [p,q])) c2 } } m'∧Upd [x.o.w,x.o.pm,x.xb] m m':=by
 have w1:=h.wr.lw; have w2:=h.wr.lm; have w3:=h.wr.lc; have w4:=h.wr.lp; have w5:=h.lx
 have e1:=xok h
 rw [decide_eq_true he] at e1
 have e2:qd vp=some (.int .i64 2):=hv.1.len
 have d1:decide ((2:Int)=0)=false:=rfl
 have d2:decide ((2:Int)=1)=false:=rfl
 obtain ⟨b,off,h1,h2⟩:=hv.1.at .i64 (i:=0) (a:=([],p)) rfl
 obtain ⟨b',off',h1b,h2b⟩:=hv.1.at .i64 (i:=1) (a:=(key,q)) rfl
 rw [yL] at h1 h1b
 have i0:ql 2 vp (.int .i64 0)=some (.pointer (some ⟨b,off,none⟩)):=h1
 have i1:ql 2 vp (.int .i64 1)=some (.pointer (some ⟨b',off',none⟩)):=h1b
 have l0:∀ {M:Mem},RSl lo zL M vp [([],p),(key,q)]→qb (.pointer (some ⟨b,off+1,none⟩)) M=some (.int .i64 (p:Int)):=fun hM=>(h2 _ hM.1).2 1 _ rfl
 have l1:∀ {M:Mem},RSl lo zL M vp [([],p),(key,q)]→qb (.pointer (some ⟨b',off'+0,none⟩)) M=some (str key)∧qb (.pointer (some ⟨b',off'+1,none⟩)) M=some (.int .i64 (q:Int)):=fun hM=>⟨(h2b _ hM.1).2 0 _ rfl,(h2b _ hM.1).2 1 _ rfl⟩
 rw [C60]
 simp -implicitDefEqProofs only [st0,qc,reduceIte,e1,e2,d1,d2]
 have rest:∀ {m1:Mem} {pg:Value},m.next≤m1.next→RSl lo zL m1 vp [([],p),(key,q)]→∀ {Q:Value→Mem→Prop},(∀ {m4:Mem} {v:Value},TN m1.next m4 v (Nd.nd [key] [p,q])→Upd [] m1 m4→RSl lo zL m4 vp [([],p),(key,q)]→W (Call S tab 74 [x.v,pg,v] m4) fun r m5=>RSl lo zL m5 vp [([],p),(key,q)]∧Q pg m5) →
   W ((ql 2 vp (.int .i64 1)).bind fun v15=>(qa 0 v15).bind fun v16=>(qb v16 (m1.zv 18)).bind fun v17=>(qy [(.string ⟨#[]⟩)] [(0,1,v17)]).bind fun c18=>nws (m1.zv 18) ⟨.cells c18 9,false,none⟩ 1 fun v19 m20=>(ql 2 vp (.int .i64 0)).bind fun v21=>(qa 1 v21).bind fun v22=>(qb v22 m20).bind fun v23=>(ql 2 vp (.int .i64 1)).bind fun v24=>(qa 1 v24).bind fun v25=>(qb v25 m20).bind fun v26=>(qy [(.int .i64 0),(.int .i64 0)] [(0,1,v23),(1,1,v26)]).bind fun c27=>QQ (m1.next+15) m20 ⟨.cells c27 3,false,none⟩ (some 2) fun v28 m29=>(qy [(.bool .false),(.slice none 0 0),(.slice none 0 0),(.slice none 0 0)] [(2,1,v19),(3,1,v28)]).bind fun c30=>(Call S tab 74 [x.v,pg,(.agg c30.toArray)] m29).bind fun p31=>chk [(m1.zv 18),m20,m29,p31.2] [(.load1 v16,v17,0,0),(.load1 v22,v23,0,1),(.load1 v25,v26,0,1)] (some (pg,p31.2))) Q:=by
  intro m1 pg hm1 hv1 Q hw
  have ub:Upd [] m1 (m1.zv 18):=Upd.zv _ _ _
  have nb:(m1.zv 18).next=m1.next+18:=rfl
  have hv2:=hv1.qt ub
  have e4:qy [.int .i64 0,.int .i64 0] [(0,1,.int .i64 (p:Int)),(1,1,.int .i64 (q:Int))]=some (zG.flat [p,q]):=by kernel_rfl
  simp -implicitDefEqProofs only [st0,qc,reduceIte,i0,i1,fa,(l1 hv2).1,JM]
  generalize m1.zv 18=m2 at ub nb hv2
  have u3:Upd [] m2 (m2.add ⟨.cells (zi.flat [key]) 9,false,none⟩):=Upd.add _ _ _
  have t3:TAp zi 9 (m2.add ⟨.cells (zi.flat [key]) 9,false,none⟩) (.slice (some ⟨m2.next,0,none⟩) [key].length [key].length) [key]:=TAp.fresh m2 _
  have n3:(m2.add ⟨.cells (zi.flat [key]) 9,false,none⟩).next=m2.next+1:=rfl
  have hv3:=hv2.qt u3
  simp -implicitDefEqProofs only [st0,qc,reduceIte,i0,i1,fa,l0 hv3,(l1 hv3).2,e4]
  generalize (m2.add ⟨.cells (zi.flat [key]) 9,false,none⟩)=m3 at u3 t3 n3 hv3
  have u4:Upd [m1.next+15] m3 (m3.put (m1.next+15) ⟨.cells (zG.flat [p,q]) 3,false,none⟩):=Upd.put _ _ (by simp)
  have t4:TAp zG 3 (m3.put (m1.next+15) ⟨.cells (zG.flat [p,q]) 3,false,none⟩) (.slice (some ⟨m1.next+15,0,none⟩) 2 2) [p,q]:=.inr ⟨m1.next+15,2,[],none,rfl,by show m1.next+15<m3.next; omega,by rw [List.append_nil]; exact Mem.qj ..,.inl rfl,rfl,Nat.le_refl _⟩
  have u14:Upd [] m1 (m3.put (m1.next+15) ⟨.cells (zG.flat [p,q]) 3,false,none⟩):=(ub.qD u3).then' u4 (fun b hb=>.inr (by simp at hb; omega))
  have hv4:=hv1.qt u14
  have t34:=t3.upd u4 (fun b hb hm=>by simp [qe] at hb hm; omega)
  have e5:=KX (.slice (some ⟨m2.next,0,none⟩) 1 1) (.slice (some ⟨m1.next+15,0,none⟩) 2 2) rfl rfl
  simp -implicitDefEqProofs only [st0,qc,reduceIte,e5]
  have hT:TN m1.next (m3.put (m1.next+15) ⟨.cells (zG.flat [p,q]) 3,false,none⟩) (jM false (.slice none 0 0) (.slice (some ⟨m2.next,0,none⟩) 1 1) (.slice (some ⟨m1.next+15,0,none⟩) 2 2)) (Nd.nd [key] [p,q]) :=
   ⟨_,_,_,rfl,RSl.nil _ _ _,t34.rsl (fun b hb=>by simp [qe] at hb; omega),t4.rsl (fun b hb=>by simp [qe] at hb; omega)⟩
  generalize (m3.put (m1.next+15) ⟨.cells (zG.flat [p,q]) 3,false,none⟩)=m4 at hT u14 hv4
  refine qo.2 ((hw hT u14 hv4).mono fun r m5 ⟨hv5,hq⟩=>?_)
  refine kz (fun r hr=>?_) (xI.2 hq)
  simp only [List.mem_cons,List.not_mem_nil,or_false] at hr
  rcases hr with rfl|rfl|rfl
  ·exact okR fun k _ hk=>by
    obtain rfl:k=0:=by omega
    exact ⟨_,rfl,(l1 hv2).1⟩
  ·exact okR fun k _ hk=>by
    have:k=0∨k=1:=by omega
    rcases this with rfl|rfl
    ·exact ⟨_,rfl,l0 hv2⟩
    ·exact ⟨_,rfl,l0 hv3⟩
  ·exact okR fun k _ hk=>by
    have:k=0∨k=1:=by omega
    rcases this with rfl|rfl
    ·exact ⟨_,rfl,(l1 hv2).2⟩
    ·exact ⟨_,rfl,(l1 hv3).2⟩
 refine qo.2 ((qcd h he).mono fun v1 m1 hc=>?_)
 rcases hc with ⟨rfl,h8,u8⟩|⟨n,c,y1,y2,y3,rfl,h8,u8⟩
 ·have x8:=u8.next
  have hv8:=hv.zF u8 (fun b hb hm=>by simp at hm; exact (hvx b hb).2.2 hm)
  refine rest x8 hv8 fun {m4 v} hT u hv4=>?_
  have h9:=h8.qt u
  refine (ZB h9 (by show (8:Nat)≠0; omega) _ hT hr hs).mono fun r m5 ⟨_,u5⟩=>⟨hv4.qt u5,.inl ⟨h9.qt u5,(u8.qD u).qD u5⟩⟩
 ·have x8:=u8.next
  have hv8:=hv.zF u8 (fun b hb hm=>by
   have:=hvx b hb
   simp only [List.mem_cons,List.not_mem_nil,or_false] at hm
   rcases hm with e|e|e
   ·exact this.1 e
   ·exact this.2.1 e
   ·exact this.2.2 e)
  have hP:=h.wr.hP
  have hu20:=h.wr.hu
  have hb1:∀ k,xQ (zZ x.o.u n) k=(xQ x.o.u k ^^ decide (k=n)):=ZP x.o.u (by omega)
  have hhq:Wo.has { x.o with u:=zZ x.o.u n,L:=upL x.o.L n (qq 256) c } n=true:=by
   unfold Wo.has
   simp only [hb1,y3]
   simp [y1,y2]
  refine rest x8 hv8 fun {m4 v} hT u hv4=>?_
  refine (wq (h8.qt u) he (by omega) hT hhq hr hs).mono fun r m5 ⟨_,⟨c2,h5⟩,u5⟩=>⟨hv4.zF u5 (fun b hb hm=>?_),.inr ⟨n,c,c2,y1,y2,y3,rfl,h5,?_⟩⟩
  ·have:=hvx b hb
   simp only [List.mem_cons,List.not_mem_nil,or_false] at hm
   rcases hm with e|e
   ·exact this.2.1 e
   ·exact this.2.2 e
  ·exact (u8.qD u).trans (u5.mono (fun b hb _=>List.mem_cons.2 (.inr hb)))
end
end Go.Fx.Tryz
namespace Go.Fx.Tryz
open Go Go.Fx
structure Pn (s:Nat→Option Bs) (p:Nat) (n:Nd):Prop where
 pg:s p=some (zx n)
 rt:qO n=true
 sz:qV n≤256
def inR (lo:Bs) (hi:Option Bs) (k:Bs):Prop:=ltB k lo=false∧∀ h,hi=some h→ltB k h=true
abbrev TP:=Nat→Bs→Option Bs→List Pr→List Nat→Prop
def inK (lo:Bs) (hi:Option Bs) (k:Bs):Prop:=ltB lo k=true∧∀ h,hi=some h→ltB k h=true
def Fo (R:TP):Bs→Option Bs→List Bs→List Nat→List Pr→List Nat→Prop
 | lo,hi,[],[p],l,S=>R p lo hi l S
 | lo,hi,k::ks,p::ps,l,S=>∃ l1 S1 l2 S2,R p lo (some k) l1 S1∧Fo R k hi ks ps l2 S2∧l=l1++l2∧S=S1++S2
 | _,_,_,_,_,_=>False
def Nl (R:Option TP) (n:Nd) (lo:Bs) (hi:Option Bs) (l:List Pr) (S:List Nat):Prop :=
 match R with
 | none=>n=Nd.lf l∧(∀ x∈l,inR lo hi x.1)∧S=[]
 | some R=>∃ ks ps,n=Nd.nd ks ps∧(∀ k∈ks,inK lo hi k)∧Fo R lo hi ks ps l S
def neN (n:Nd):Prop:=if n.leaf then n.pairs≠[] else n.keys≠[]
def Tp (s:Nat→Option Bs) (R:Option TP):TP:=fun p lo hi l S=>∃ n S',Pn s p n∧neN n∧Nl R n lo hi l S'∧S=p::S'
def Tr (s:Nat→Option Bs):Nat→TP
 | 0=>Tp s none
 | h+1=>Tp s (some (Tr s h))
def lower (s:Nat→Option Bs):Nat→Option TP
 | 0=>none
 | h+1=>some (Tr s h)
theorem Tr_eq (s:Nat→Option Bs) (h:Nat):Tr s h=Tp s (lower s h):=by cases h<;>rfl
abbrev Nt (s:Nat→Option Bs) (h:Nat):Nd→Bs→Option Bs→List Pr→List Nat→Prop:=Nl (lower s h)
def Tw (s:Nat→Option Bs) (h:Nat):TP:=fun p lo hi l S=>∃ n S',Pn s p n∧Nt s h n lo hi l S'∧S=p::S'
theorem VD {R R':TP}:∀ (ks:List Bs) (ps:List Nat) (lo:Bs) (hi:Option Bs) (l:List Pr) (S:List Nat),(∀ p lo hi l T,(∀ q∈T,q∈S)→R p lo hi l T→R' p lo hi l T)→Fo R lo hi ks ps l S→Fo R' lo hi ks ps l S
 | [],[p],lo,hi,l,S,h,hf=>h _ _ _ _ _ (fun q hq=>hq) hf
 | k::ks,p::ps,lo,hi,l,S,h,⟨l1,S1,l2,S2,h1,h2,h3,h4⟩=>by
  subst h4
  exact ⟨l1,S1,l2,S2,h _ _ _ _ _ (fun q hq=>List.mem_append.2 (.inl hq)) h1,VD ks ps _ _ _ _ (fun p lo hi l T hT hr=>h p lo hi l T (fun q hq=>List.mem_append.2 (.inr (hT q hq))) hr) h2,h3,rfl⟩
 | [],[],_,_,_,_,_,hf=>hf.elim
 | [],_::_::_,_,_,_,_,_,hf=>hf.elim
 | _::_,[],_,_,_,_,_,hf=>hf.elim
theorem qaF {R R':TP} {n:Nd} {lo:Bs} {hi:Option Bs} {l:List Pr} {S:List Nat} (h:∀ p lo hi l T,(∀ q∈T,q∈S)→R p lo hi l T→R' p lo hi l T) (hn:Nl (some R) n lo hi l S):Nl (some R') n lo hi l S:=by
 obtain ⟨ks,ps,e,hk,hf⟩:=hn
 exact ⟨ks,ps,e,hk,VD ks ps _ _ _ _ h hf⟩
theorem xB {s s':Nat→Option Bs}:∀ (h:Nat) (p:Nat) (lo:Bs) (hi:Option Bs) (l:List Pr) (S:List Nat),(∀ q∈S,s' q=s q)→Tr s h p lo hi l S→Tr s' h p lo hi l S
 | 0,p,lo,hi,l,S,hs,⟨n,S',⟨a,b,c⟩,h2,h3,h4⟩=>by
  subst h4
  exact ⟨n,S',⟨by rw [hs p (by simp)]; exact a,b,c⟩,h2,h3,rfl⟩
 | h+1,p,lo,hi,l,S,hs,⟨n,S',⟨a,b,c⟩,h2,h3,h4⟩=>by
  subst h4
  exact ⟨n,S',⟨by rw [hs p (by simp)]; exact a,b,c⟩,h2,qaF (fun p lo hi l T hT hr=>xB h p lo hi l T (fun q hq=>hs q (List.mem_cons.2 (.inr (hT q hq)))) hr) h3,rfl⟩
theorem vP {s s':Nat→Option Bs} (h:Nat) {n:Nd} {lo:Bs} {hi:Option Bs} {l:List Pr} {S:List Nat} (hs:∀ q∈S,s' q=s q) (hn:Nt s h n lo hi l S):Nt s' h n lo hi l S:=by
 cases h with
 | zero=>exact hn
 | succ h=>exact qaF (fun p lo hi l T hT hr=>xB h p lo hi l T (fun q hq=>hs q (hT q hq)) hr) hn
theorem zO {s:Nat→Option Bs} {h p:Nat} {lo:Bs} {hi:Option Bs} {l:List Pr} {S:List Nat}:Tr s h p lo hi l S↔∃ n S',Pn s p n∧neN n∧Nt s h n lo hi l S'∧S=p::S':=by rw [Tr_eq]; exact Iff.rfl
theorem Tr.qiQ {s:Nat→Option Bs} {h p:Nat} {lo:Bs} {hi:Option Bs} {l:List Pr} {S:List Nat} (ht:Tr s h p lo hi l S):Tw s h p lo hi l S:=by
 obtain ⟨n,S',h1,_,h3,h4⟩:=zO.1 ht
 exact ⟨n,S',h1,h3,h4⟩
theorem filter_all {l:List Pr} {f:Pr→Bool} (h:∀ x∈l,f x=true):l.filter f=l:=List.filter_eq_self.2 h
theorem vY {l:List Pr} {f:Pr→Bool} (h:∀ x∈l,f x=false):l.filter f=[]:=List.filter_eq_nil_iff.2 (fun x hx=>by simp [h x hx])
theorem kV {a b c:List Pr} {key:Bs} (ha:∀ x∈a,ltB x.1 key=true) (hc:∀ x∈c,ltB x.1 key=false):zb (a++(b++c)) key=a.length+zb b key:=by
 unfold zb
 rw [List.filter_append,List.filter_append,filter_all (f:=fun p:Pr=>ltB p.1 key) ha,vY (f:=fun p:Pr=>ltB p.1 key) hc,List.length_append,List.append_nil]
theorem wT {a b c:List Pr} {key:Bs} (ha:∀ x∈a,ltB x.1 key=true) (hc:∀ x∈c,ltB x.1 key=false∧x.1≠key):zo (a++(b++c)) key=zo b key:=by
 unfold zo
 rw [kV ha (fun x hx=>(hc x hx).1),List.getElem?_append_right (by omega),Nat.add_sub_cancel_left]
 by_cases h:zb b key<b.length
 ·rw [List.getElem?_append_left h]
 ·rw [List.getElem?_append_right (by omega),List.getElem?_eq_none (l:=b) (by omega)]
  cases hx:c[zb b key - b.length]? with
  | none=>rfl
  | some x=>simp [(hc x (List.mem_of_getElem? hx)).2]
theorem Vf {a b c:List Pr} {key:Bs} (ha:∀ x∈a,ltB x.1 key=true) (hc:∀ x∈c,ltB x.1 key=false∧x.1≠key):xA (a++(b++c)) key=a++(xA b key++c):=by
 unfold xA
 rw [wT ha hc,kV ha (fun x hx=>(hc x hx).1)]
 cases ht:zo b key with
 | false=>rfl
 | true =>
  have:=jj ht
  simp only [if_true]
  rw [List.eraseIdx_append_of_length_le (by omega),Nat.add_sub_cancel_left,List.eraseIdx_append_of_lt_length this]
theorem HQ {a b c:List Pr} {key val:Bs} (ha:∀ x∈a,ltB x.1 key=true) (hc:∀ x∈c,ltB x.1 key=false∧x.1≠key):xO (a++(b++c)) key val=a++(xO b key val++c):=by
 have hle:zb b key≤(xA b key).length:=by
  have:=ym b key
  unfold xA; split
  ·rename_i ht; have:=jj ht; rw [List.length_eraseIdx,if_pos this]; omega
  ·exact this
 unfold xO
 rw [Vf ha hc,kV ha (fun x hx=>(hc x hx).1)]
 rw [List.take_append,List.drop_append,List.take_of_length_le (by omega),List.drop_of_length_le (l:=a) (by omega),Nat.add_sub_cancel_left,List.take_append_of_le_length hle,List.drop_append_of_le_length hle]
 simp only [List.append_assoc,List.nil_append]
theorem vC {α:Type} (l:List α) (d:α) {i:Nat} (h:i<l.length):l.take i++[l.getD i d]=l.take (i+1):=by
 rw [List.take_succ_eq_append_getElem h,List.getD_eq_getElem?_getD,List.getElem?_eq_getElem h]; rfl
theorem qfp (n:Nd) (k:Nat) (ps:List Pt):∀ i,i≤k→i≤n.keys.length+1→wK n k ps i=n.keys.take (i - 1)
 | 0,_,_=>by simp [wK]
 | i+1,h,hl=>by
  rw [wR,qfp n k ps i (by omega) (by omega),if_neg (show ¬ i=k by omega),List.append_nil]
  by_cases h0:i=0
  ·subst h0; simp
  ·rw [if_pos (by omega),vC _ _ (by omega)]; congr 1; omega
theorem qfq (n:Nd) (k:Nat) (ps:List Pt):∀ d,k+d≤n.keys.length→wK n k ps (k+1+d)=n.keys.take k++(ps.tail.map (·.1)++(n.keys.drop k).take d)
 | 0,h=>by
  rw [Nat.add_zero,wR,qfp n k ps k (Nat.le_refl _) (by omega),if_pos rfl,List.take_zero,List.append_nil,← List.append_assoc]
  congr 1
  by_cases h0:k=0
  ·subst h0; simp
  ·rw [if_pos (by omega),vC _ _ (by omega)]; congr 1; omega
 | d+1,h=>by
  rw [← Nat.add_assoc,wR,qfq n k ps d (by omega),if_pos (by omega),if_neg (by omega),List.append_nil,List.append_assoc,List.append_assoc]
  congr 2
  rw [← vC (n.keys.drop k) [] (by rw [List.length_drop]; omega)]
  congr 2
  rw [List.getD_eq_getElem?_getD,List.getD_eq_getElem?_getD,List.getElem?_drop]
  congr 2
  omega
theorem qfr (n:Nd) (k:Nat) (ps:List Pt):∀ i,i≤k→i≤n.kids.length→wI n k ps i=n.kids.take i
 | 0,_,_=>by simp [wI]
 | i+1,h,hl=>by rw [wS,qfr n k ps i (by omega) (by omega),if_neg (show ¬ i=k by omega),vC _ _ (by omega)]
theorem qfs (n:Nd) (k:Nat) (ps:List Pt):∀ d,k+1+d≤n.kids.length→wI n k ps (k+1+d)=n.kids.take k++(ps.map (·.2)++(n.kids.drop (k+1)).take d)
 | 0,h=>by rw [Nat.add_zero,wS,qfr n k ps k (Nat.le_refl _) (by omega),if_pos rfl,List.take_zero,List.append_nil]
 | d+1,h=>by
  rw [← Nat.add_assoc,wS,qfs n k ps d (by omega),if_neg (by omega),List.append_assoc,List.append_assoc]
  congr 2
  rw [← vC (n.kids.drop (k+1)) 0 (by rw [List.length_drop]; omega)]
  congr 2
  rw [List.getD_eq_getElem?_getD,List.getD_eq_getElem?_getD,List.getElem?_drop]
theorem withN_eq (n:Nd) (k:Nat) (ps:List Pt) (h:k<n.kids.length) (hl:n.kids.length=n.keys.length+1):kF n k ps=Nd.nd (n.keys.take k++(ps.tail.map (·.1)++n.keys.drop k)) (n.kids.take k++(ps.map (·.2)++n.kids.drop (k+1))):=by
 have h1:=qfq n k ps (n.keys.length - k) (by omega)
 have h2:=qfs n k ps (n.kids.length - (k+1)) (by omega)
 rw [show k+1+(n.keys.length - k)=n.kids.length by omega,List.take_of_length_le (l:=n.keys.drop k) (by rw [List.length_drop]; omega)] at h1
 rw [show k+1+(n.kids.length - (k+1))=n.kids.length by omega,List.take_of_length_le (l:=n.kids.drop (k+1)) (by rw [List.length_drop]; omega)] at h2
 unfold kF
 rw [h1,h2]
end Go.Fx.Tryz
namespace Go.Fx.Tryz
open Go Go.Fx
theorem KO {a b:Bs}:ltB a b=true↔a<b:=by simp [ltB]
theorem qeA {a b:Bs}:ltB a b=false↔¬ a<b:=by simp [ltB]
theorem vu (a:Bs):ltB a a=false:=qeA.2 (List.lt_irrefl a)
theorem xj {a b c:Bs} (h1:ltB a b=true) (h2:ltB b c=true):ltB a c=true:=KO.2 (List.lt_trans (KO.1 h1) (KO.1 h2))
theorem xd {a b:Bs} (h:ltB a b=true):ltB b a=false:=by
 cases hb:ltB b a with
 | false=>rfl
 | true=>have:=xj h hb; rw [vu] at this; cases this
theorem KN {a b:Bs} (h1:ltB a b=false) (h2:ltB b a=false):a=b:=by
 have:=leB_eq a b
 rw [h1,h2] at this
 simpa using this
theorem xk {a b c:Bs} (h1:ltB a b=true) (h2:ltB c b=false):ltB a c=true:=by
 cases h:ltB b c with
 | true=>exact xj h1 h
 | false=>rw [← KN h h2]; exact h1
theorem vK {a b c:Bs} (h1:ltB b a=false) (h2:ltB b c=true):ltB a c=true:=by
 cases h:ltB a b with
 | true=>exact xj h h2
 | false=>rw [KN h h1]; exact h2
theorem XB {a b:Bs} (h:ltB a b=true):a≠b:=by rintro rfl; rw [vu] at h; cases h
theorem qL {k:Bs} {ks:List Bs} (h:qH (k::ks)=true):qH ks=true∧∀ j∈ks,ltB k j=true:=by
 induction ks generalizing k with
 | nil=>exact ⟨rfl,by simp⟩
 | cons j ks ih =>
  simp only [qH,Bool.and_eq_true,decide_eq_true_eq] at h
  have hr:qH (j::ks)=true:=by simp only [qH,Bool.and_eq_true,decide_eq_true_eq]; exact h.2
  refine ⟨hr,fun x hx=>?_⟩
  rcases List.mem_cons.1 hx with rfl|hx
  ·exact h.1.2
  ·exact xj h.1.2 ((ih hr).2 x hx)
theorem Hj {k key:Bs} {ks:List Bs} (h:qH (k::ks)=true):zJ (k::ks) key=if ltB key k then 0 else zJ ks key+1:=by
 unfold zJ
 cases hk:ltB key k with
 | false=>simp [hk]
 | true =>
  have:(ks.filter fun j=>!ltB key j)=[]:=List.filter_eq_nil_iff.2 (fun j hj=>by simp [xj hk ((qL h).2 j hj)])
  simp [hk,this]
theorem vt {k:Bs} {ks:List Bs} (h0:k≠[]∧k.length≤32) (h:qH ks=true) (h1:∀ j∈ks,ltB k j=true):qH (k::ks)=true:=by
 cases ks with
 | nil=>simp [qH,h0.1,h0.2]
 | cons j r =>
  simp only [qH,Bool.and_eq_true,decide_eq_true_eq] at h ⊢
  exact ⟨⟨h0,h1 j (by simp)⟩,h⟩
def Rng (R:TP):Prop:=∀ p lo hi l S,R p lo hi l S→∀ x∈l,inR lo hi x.1
theorem qdW {R:TP} (hR:Rng R):∀ (ks:List Bs) (ps:List Nat) (lo:Bs) (hi:Option Bs) (l:List Pr) (S:List Nat),qH ks=true→(∀ k∈ks,ltB lo k=true)→Fo R lo hi ks ps l S→∀ x∈l,ltB x.1 lo=false
 | [],[p],lo,hi,l,S,_,_,hf=>fun x hx=>(hR _ _ _ _ _ hf x hx).1
 | k::ks,p::ps,lo,hi,l,S,hr,hk,⟨l1,S1,l2,S2,h1,h2,h3,h4⟩=>fun x hx=>by
  subst h3
  rcases List.mem_append.1 hx with h|h
  ·exact (hR _ _ _ _ _ h1 x h).1
  ·have:=qdW hR ks ps k hi l2 S2 (qL hr).1 (qL hr).2 h2 x h
   exact xd (xk (hk k (by simp)) this)
 | [],[],_,_,_,_,_,_,hf=>hf.elim
 | [],_::_::_,_,_,_,_,_,_,hf=>hf.elim
 | _::_,[],_,_,_,_,_,_,hf=>hf.elim
theorem Ww {lo lo':Bs} {hi hi':Option Bs} {k:Bs} (h:inR lo' hi' k) (hl:ltB lo' lo=false) (hh:∀ e,hi=some e→∃ e',hi'=some e'∧ltB e e'=false):inR lo hi k:=by
 refine ⟨?_,fun e he=>?_⟩
 ·cases hc:ltB k lo with
  | false=>rfl
  | true=>have:=xk hc hl; rw [h.1] at this; cases this
 ·obtain ⟨e',h1,h2⟩:=hh e he
  exact xk (h.2 e' h1) h2
theorem Ht {R:TP} (hR:Rng R):∀ (ks:List Bs) (ps:List Nat) (lo:Bs) (hi:Option Bs) (l:List Pr) (S:List Nat),qH ks=true→(∀ k∈ks,inR lo hi k)→Fo R lo hi ks ps l S→∀ x∈l,inR lo hi x.1
 | [],[p],lo,hi,l,S,_,_,hf=>fun x hx=>hR _ _ _ _ _ hf x hx
 | k::ks,p::ps,lo,hi,l,S,hr,hk,⟨l1,S1,l2,S2,h1,h2,h3,h4⟩=>fun x hx=>by
  subst h3
  have hkk:=hk k (by simp)
  rcases List.mem_append.1 hx with h|h
  ·exact Ww (hR _ _ _ _ _ h1 x h) (vu lo) (fun e he=>⟨k,rfl,by
    have:=hkk.2 e he
    exact xd this⟩)
  ·refine Ww (Ht hR ks ps k hi l2 S2 (qL hr).1 (fun j hj=>⟨xd ((qL hr).2 j hj),(hk j (by simp [hj])).2⟩) h2 x h) hkk.1 (fun e he=>⟨e,he,vu e⟩)
 | [],[],_,_,_,_,_,_,hf=>hf.elim
 | [],_::_::_,_,_,_,_,_,_,hf=>hf.elim
 | _::_,[],_,_,_,_,_,_,hf=>hf.elim
theorem inK.r {lo:Bs} {hi:Option Bs} {k:Bs} (h:inK lo hi k):inR lo hi k:=⟨xd h.1,h.2⟩
theorem yP (s:Nat→Option Bs):∀ h,Rng (Tr s h)
 | 0=>fun p lo hi l S ⟨_,_,_,_,h3,_⟩=>h3.2.1
 | h+1=>fun p lo hi l S ⟨n,S',hp,_,⟨ks,ps,e,hk,hf⟩,_⟩=>by
  subst e
  exact Ht (yP s h) ks ps lo hi l S' (zd hp.rt rfl).2.2.1 (fun k hk'=>(hk k hk').r) hf
theorem qdU {s:Nat→Option Bs} {h:Nat} {n:Nd} {lo:Bs} {hi:Option Bs} {l:List Pr} {S:List Nat} (hr:qO n=true) (hn:Nt s h n lo hi l S):∀ x∈l,inR lo hi x.1:=by
 cases h with
 | zero=>exact hn.2.1
 | succ h =>
  obtain ⟨ks,ps,e,hk,hf⟩:=hn
  subst e
  exact Ht (yP s h) ks ps lo hi l S (zd hr rfl).2.2.1 (fun k hk'=>(hk k hk').r) hf
theorem Hw {R:TP} {P:Nat→Prop} (hR:∀ p lo hi l S,R p lo hi l S→∀ q∈S,P q):∀ (ks:List Bs) (ps:List Nat) (lo:Bs) (hi:Option Bs) (l:List Pr) (S:List Nat),Fo R lo hi ks ps l S→∀ q∈S,P q
 | [],[p],lo,hi,l,S,hf=>hR _ _ _ _ _ hf
 | k::ks,p::ps,lo,hi,l,S,⟨l1,S1,l2,S2,h1,h2,h3,h4⟩=>fun q hq=>by
  subst h4
  rcases List.mem_append.1 hq with h|h
  ·exact hR _ _ _ _ _ h1 q h
  ·exact Hw hR ks ps _ _ _ _ h2 q h
 | [],[],_,_,_,_,hf=>hf.elim
 | [],_::_::_,_,_,_,_,hf=>hf.elim
 | _::_,[],_,_,_,_,hf=>hf.elim
theorem vy (s:Nat→Option Bs):∀ (h:Nat) (p:Nat) (lo:Bs) (hi:Option Bs) (l:List Pr) (S:List Nat),Tr s h p lo hi l S→∀ q∈S,s q≠none
 | 0,p,lo,hi,l,S,⟨n,S',hp,_,h3,hS⟩=>fun q hq=>by
  obtain ⟨_,_,h3⟩:=h3
  subst h3 hS
  simp at hq; subst hq; rw [hp.pg]; simp
 | h+1,p,lo,hi,l,S,⟨n,S',hp,_,⟨ks,ps,_,_,hf⟩,hS⟩=>fun q hq=>by
  subst hS
  rcases List.mem_cons.1 hq with rfl|hq
  ·rw [hp.pg]; simp
  ·exact Hw (vy s h) ks ps _ _ _ _ hf q hq
theorem qfk {s:Nat→Option Bs} {h:Nat} {n:Nd} {lo:Bs} {hi:Option Bs} {l:List Pr} {S:List Nat} (hn:Nt s h n lo hi l S):∀ q∈S,s q≠none:=by
 cases h with
 | zero=>rw [hn.2.2]; simp
 | succ h =>
  obtain ⟨ks,ps,_,_,hf⟩:=hn
  exact Hw (vy s h) ks ps _ _ _ _ hf
theorem Zm (w:List Nat) (most all W:Nat) (hW:∀ a∈w,a≤W):∀ (d i:Nat),w.length≤i+d→i≤w.length→2 * (w.take i).sum≤all+2 * W →
  2 * (w.take (xw w most all d i (w.take i).sum)).sum≤all+2 * W∧(most≤xw w most all d i (w.take i).sum∨all≤2 * (w.take (xw w most all d i (w.take i).sum)).sum∨w.length≤xw w most all d i (w.take i).sum)
 | 0,i,hd,hi,hs=>by unfold xw; exact ⟨hs,.inr (.inr (by omega))⟩
 | d+1,i,hd,hi,hs=>by
  unfold xw
  by_cases hc:i=0∨(i<most∧2 * (w.take i).sum<all)
  ·rw [if_pos hc]
   by_cases hlt:i<w.length
   ·have hg:w.getD i 0=w[i]:=by rw [List.getD_eq_getElem?_getD,List.getElem?_eq_getElem hlt]; rfl
    have hw:=hW _ (List.getElem_mem hlt)
    rw [hg,← ke w hlt]
    refine Zm w most all W hW d (i+1) (by omega) hlt ?_
    rw [ke w hlt]
    rcases hc with h|h
    ·subst h; simp; omega
    ·omega
   ·have hg:w.getD i 0=0:=by rw [List.getD_eq_getElem?_getD,List.getElem?_eq_none (by omega)]; rfl
    have h1:w.take (i+1)=w.take i:=by rw [List.take_of_length_le (by omega),List.take_of_length_le (by omega)]
    have hge:=QS w most all d (i+1) ((w.take i).sum+w.getD i 0)
    rw [hg,Nat.add_zero] at hge ⊢
    refine ⟨?_,.inr (.inr (by omega))⟩
    rw [List.take_of_length_le (by omega)]
    rw [List.take_of_length_le (by omega)] at hs
    exact hs
  ·rw [if_neg hc]
   refine ⟨hs,?_⟩
   by_cases h1:i<most
   ·exact .inr (.inl (by omega))
   ·exact .inl (by omega)
theorem XH {w:List Nat} {most W:Nat} (hW:∀ a∈w,a≤W):2 * (w.take (kH w most)).sum≤w.sum+2 * W∧(most≤kH w most∨w.sum≤2 * (w.take (kH w most)).sum∨w.length≤kH w most):=by
 have:=Zm w most w.sum W hW w.length 0 (by omega) (by omega) (by simp)
 simpa [kH] using this
theorem vr {k:Bs} {ks:List Bs} (h:qH (k::ks)=true):k≠[]∧k.length≤32:=by
 simp only [qH,Bool.and_eq_true,decide_eq_true_eq] at h
 exact h.1.1
theorem xK:∀ (l:List Bs) (i:Nat),qH l=true→qH (l.drop i)=true
 | l,0,h=>h
 | [],i+1,h=>h
 | k::l,i+1,h=>xK l i (qL h).1
theorem xJ:∀ (l:List Bs) (i:Nat),qH l=true→qH (l.take i)=true
 | l,0,h=>by simp [qH]
 | [],i+1,h=>by simp [qH]
 | k::l,i+1,h=>by
  rw [List.take_succ_cons]
  exact vt (vr h) (xJ l i (qL h).1) (fun j hj=>(qL h).2 j (List.mem_of_mem_take hj))
theorem kT {l:List Pr} (h1:qH (l.map (·.1))=true) (h2:∀ p∈l,p.2.length≤40):qO (Nd.lf l)=true:=by
 simp only [qO,Nd.lf,if_true,Bool.and_eq_true,List.all_eq_true,decide_eq_true_eq,List.isEmpty_iff]
 exact ⟨⟨⟨trivial,trivial⟩,h1⟩,h2⟩
theorem kS {ks:List Bs} {ps:List Nat} (h0:ps.length=ks.length+1) (h1:qH ks=true) (h2:∀ k∈ps,1≤k∧k≤65535):qO (Nd.nd ks ps)=true:=by
 simp only [qO,Nd.nd,Bool.false_eq_true,if_false,Bool.and_eq_true,List.all_eq_true,decide_eq_true_eq,List.isEmpty_iff]
 exact ⟨⟨⟨trivial,decide_eq_true h0⟩,h1⟩,h2⟩
theorem Yw {l:List Pr} (hr:qH (l.map (·.1))=true) (hv:∀ p∈l,p.2.length≤40) (h2:2≤l.length) (hs:(l.map qK).sum≤344) :
  1≤zn l∧zn l<l.length∧qO (Nd.lf (l.take (zn l)))=true∧qV (Nd.lf (l.take (zn l)))≤256∧qO (Nd.lf (l.drop (zn l)))=true∧qV (Nd.lf (l.drop (zn l)))≤256:=by
 have h1:1≤zn l:=Qo (by cases l with|nil=>simp at h2|cons a r=>simp)
 have hle:zn l≤l.length - 1:=Qn (by omega)
 have hW:∀ a∈l.map qK,a≤74:=by
  intro a ha
  obtain ⟨p,hp,rfl⟩:=List.mem_map.1 ha
  obtain ⟨i,hi,rfl⟩:=List.mem_iff_getElem.1 hp
  have:=(xn hr i (by simpa using hi)).2.1
  rw [List.getElem_map] at this
  have:=hv _ (List.getElem_mem hi)
  unfold qK; omega
 obtain ⟨s1,s2⟩:=XH (most:=l.length - 1) hW
 have hsum:=congrArg List.sum (List.take_append_drop (zn l) (l.map qK))
 rw [List.sum_append] at hsum
 have e1:(l.take (zn l)).map qK=(l.map qK).take (zn l):=List.map_take ..
 have e2:(l.drop (zn l)).map qK=(l.map qK).drop (zn l):=List.map_drop ..
 refine ⟨h1,by omega,kT (by rw [List.map_take]; exact xJ _ _ hr) (fun p hp=>hv p (List.mem_of_mem_take hp)),?_,kT (by rw [List.map_drop]; exact xK _ _ hr) (fun p hp=>hv p (List.mem_of_mem_drop hp)),?_⟩
 ·show 2+((l.take (zn l)).map qK).sum≤256
  rw [e1]
  have:kH (l.map qK) (l.length - 1)=zn l:=rfl
  rw [this] at s1
  omega
 ·show 2+((l.drop (zn l)).map qK).sum≤256
  rw [e2]
  have hh:kH (l.map qK) (l.length - 1)=zn l:=rfl
  rw [hh] at s2
  by_cases hc:(l.map qK).sum≤2 * ((l.map qK).take (zn l)).sum
  ·omega
  ·have hx:l.length - 1≤zn l:=by
    rcases s2 with h|h|h
    ·exact h
    ·omega
    ·simp at h; omega
   have:=kK (fun a:Nat=>a) 74 ((l.map qK).drop (zn l)) (fun a ha=>hW a (List.mem_of_mem_drop ha))
   rw [List.map_id',List.length_drop,List.length_map] at this
   have:(l.length - zn l) * 74≤1 * 74:=Nat.mul_le_mul_right _ (by omega)
   omega
theorem VM {ks:List Bs} {ps:List Nat} (hr:qH ks=true) (h0:ps.length=ks.length+1) (hp:∀ k∈ps,1≤k∧k≤65535) (h2:3≤ks.length) (hs:(ks.map fun k=>3+k.length).sum≤430) :
  1≤zl ks∧zl ks+1<ks.length∧qO (Nd.nd (ks.take (zl ks)) (ps.take (zl ks+1)))=true∧qV (Nd.nd (ks.take (zl ks)) (ps.take (zl ks+1)))≤256∧qO (Nd.nd (ks.drop (zl ks+1)) (ps.drop (zl ks+1)))=true∧qV (Nd.nd (ks.drop (zl ks+1)) (ps.drop (zl ks+1)))≤256:=by
 have h1:1≤zl ks:=Qo (by cases ks with|nil=>simp at h2|cons a r=>simp)
 have hle:zl ks≤ks.length - 2:=Qn (by omega)
 have hW:∀ a∈ks.map (fun k=>3+k.length),a≤35:=by
  intro a ha
  obtain ⟨p,hp,rfl⟩:=List.mem_map.1 ha
  obtain ⟨i,hi,rfl⟩:=List.mem_iff_getElem.1 hp
  have:=(xn hr i hi).2.1
  omega
 obtain ⟨s1,s2⟩:=XH (most:=ks.length - 2) hW
 have hh:kH (ks.map fun k=>3+k.length) (ks.length - 2)=zl ks:=rfl
 rw [hh] at s1 s2
 have hsum:=congrArg List.sum (List.take_append_drop (zl ks) (ks.map fun k=>3+k.length))
 rw [List.sum_append] at hsum
 have hd:(((ks.map fun k=>3+k.length).drop (zl ks+1)).sum)≤((ks.map fun k=>3+k.length).drop (zl ks)).sum:=by
  rw [List.drop_eq_getElem_cons (i:=zl ks) (by simp; omega),List.sum_cons]; omega
 have e1:(ks.take (zl ks)).map (fun k=>3+k.length)=(ks.map fun k=>3+k.length).take (zl ks):=List.map_take ..
 have e2:(ks.drop (zl ks+1)).map (fun k=>3+k.length)=(ks.map fun k=>3+k.length).drop (zl ks+1):=List.map_drop ..
 refine ⟨h1,by omega,kS (by rw [List.length_take,List.length_take]; omega) (xJ _ _ hr) (fun k hk=>hp k (List.mem_of_mem_take hk)),?_,kS (by rw [List.length_drop,List.length_drop]; omega) (xK _ _ hr) (fun k hk=>hp k (List.mem_of_mem_drop hk)),?_⟩
 ·show 4+((ks.take (zl ks)).map fun k=>3+k.length).sum≤256
  rw [e1]; omega
 ·show 4+((ks.drop (zl ks+1)).map fun k=>3+k.length).sum≤256
  rw [e2]
  by_cases hc:(ks.map fun k=>3+k.length).sum≤2 * ((ks.map fun k=>3+k.length).take (zl ks)).sum
  ·omega
  ·have hx:ks.length - 2≤zl ks:=by
    rcases s2 with h|h|h
    ·exact h
    ·omega
    ·simp at h; omega
   have:=kK (fun a:Nat=>a) 35 ((ks.map fun k=>3+k.length).drop (zl ks+1)) (fun a ha=>hW a (List.mem_of_mem_drop ha))
   rw [List.map_id',List.length_drop,List.length_map] at this
   have:(ks.length - (zl ks+1)) * 35≤1 * 35:=Nat.mul_le_mul_right _ (by omega)
   omega
end Go.Fx.Tryz
namespace Go.Fx.Tryz
open Go Go.Fx
def Wo.s (o:Wo) (k:Nat):Option Bs:=if o.has k then lkL o.L k else none
def zD (s:Nat→Option Bs) (p:Nat) (d:Option Bs):Nat→Option Bs:=fun k=>if k=p then d else s k
theorem Wo.qfw {o:Wo} {k:Nat} {d:Bs} (h:o.s k=some d):o.has k=true∧lkL o.L k=some d:=by
 unfold Wo.s at h
 split at h
 ·exact ⟨by assumption,h⟩
 ·cases h
theorem Wo.kL {o:Wo} {p:Nat} (h:o.has p=true) (d:Bs) (c:Nat):Wo.s { o with L:=upL o.L p d c } = zD o.s p (some d):=by
 funext k
 have e:Wo.has { o with L:=upL o.L p d c } k=o.has k:=rfl
 unfold Wo.s zD
 rw [e,HT]
 by_cases hk:k=p
 ·subst hk; rw [h]; simp
 ·simp [hk]
theorem Wo.Ql {o:Wo} (hu:o.u.length=20) (hP:o.P≤160) {n:Nat} (hn:n<o.P) (k:Nat) (L:Pg):Wo.has { o with u:=zZ o.u n,L:=L } k=(decide (1≤k)&&decide (k<o.P)&&(xQ o.u k ^^ decide (k=n))):=by
 unfold Wo.has
 show (decide (1≤k)&&decide (k<o.P)&&xQ (zZ o.u n) k)=_
 rw [ZP o.u (by omega)]
theorem Wo.KC {o:Wo} (hu:o.u.length=20) (hP:o.P≤160) {n:Nat} (h1:1≤n) (hn:n<o.P) (hb:xQ o.u n=false) (d:Bs) (c:Nat):Wo.s { o with u:=zZ o.u n,L:=upL o.L n d c } = zD o.s n (some d):=by
 funext k
 unfold Wo.s zD
 rw [Wo.Ql hu hP hn]
 by_cases hk:k=n
 ·subst hk; simp [h1,hn,hb,HT]
 ·simp only [decide_eq_false hk,Bool.xor_false,HT,if_neg hk]; rfl
theorem Wo.YH {o:Wo} (hu:o.u.length=20) (hP:o.P≤160) {n:Nat} (h:o.has n=true):Wo.s { o with u:=zZ o.u n } = zD o.s n none:=by
 have h':=h
 unfold Wo.has at h'
 simp only [Bool.and_eq_true,decide_eq_true_eq] at h'
 funext k
 unfold Wo.s zD
 have:=Wo.Ql hu hP h'.1.2 k o.L
 rw [this]
 by_cases hk:k=n
 ·subst hk; simp [h'.2]
 ·simp only [decide_eq_false hk,Bool.xor_false,if_neg hk]; rfl
end Go.Fx.Tryz
