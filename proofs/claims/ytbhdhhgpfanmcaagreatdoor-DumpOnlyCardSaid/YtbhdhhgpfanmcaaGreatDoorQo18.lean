/- Parts of a proof: TreeO, TreeP, TreeQ, TreeR, TreeS, TreeT. Conditions: none. -/
import Derived.Test.YtbhdhhgpfanmcaaGreatDoorQo17
set_option linter.unusedSimpArgs false
set_option linter.unusedVariables false
namespace Go.Fx.Tryz
open Go Go.Fx
structure Wx where
 o:Wo
 xb:Nat
 rest:List Value
 t:TypeId
 err:Nat
 rd:Nat
abbrev Wx.blk (x:Wx):ABlk:=⟨.cells (.pointer (some ⟨x.o.w,0,none⟩)::.int .i64 (x.err:Int)::.int .i64 (x.rd:Int)::x.rest) x.t,false,none⟩
abbrev Wx.v (x:Wx):Value:=.pointer (some ⟨x.xb,0,none⟩)
structure XR (x:Wx) (m:Mem):Prop where
 wr:WR x.o m
 hx:m.get x.xb=some x.blk
 lx:x.xb<m.next
 ne:x.xb≠x.o.w∧x.xb≠x.o.pm∧x.xb≠x.o.c∧x.xb≠x.o.p
theorem XR.upd {x:Wx} {fp:List Nat} {m m':Mem} (h:XR x m) (hu:Upd fp m m') (hf:∀ b∈fp,b≠x.xb∧b≠x.o.w∧b≠x.o.pm∧b≠x.o.c∧b≠x.o.p):XR x m' :=
 ⟨h.wr.upd hu fun b hb=>(hf b hb).2,(hu.same _ h.lx fun hm=>(hf _ hm).1 rfl).trans h.hx,Nat.lt_of_lt_of_le h.lx hu.next,h.ne⟩
theorem XR.qx {x:Wx} {m m':Mem} (h:XR x m) (hu:Upd [] m m'):XR x m':=h.upd hu (fun b hb=>by cases hb)
theorem XR.work {x:Wx} {m m':Mem} {o':Wo} (h:XR x m) (hr:WR o' m') (he:o'.w=x.o.w∧o'.pm=x.o.pm∧o'.c=x.o.c∧o'.p=x.o.p) {fp:List Nat} (hu:Upd fp m m') (hf:∀ b∈fp,b=x.o.w∨b=x.o.pm):XR { x with o:=o' } m':=by
 obtain ⟨e1,e2,e3,e4⟩:=he
 refine ⟨hr,?_,Nat.lt_of_lt_of_le h.lx hu.next,by rw [e1,e2,e3,e4]; exact h.ne⟩
 rw [hu.same _ h.lx fun hm=>by
  rcases hf _ hm with e|e
  ·exact h.ne.1 e
  ·exact h.ne.2.1 e]
 show m.get x.xb=some ⟨.cells (.pointer (some ⟨o'.w,0,none⟩)::_) _,false,none⟩
 rw [e1]; exact h.hx
theorem XR.put {x x':Wx} {m:Mem} (h:XR x m) (he:x'.o=x.o∧x'.xb=x.xb):XR x' (m.put x.xb x'.blk):=by
 obtain ⟨e1,e2⟩:=he
 obtain ⟨n1,n2,n3,n4⟩:=h.ne
 refine ⟨?_,by rw [e2]; exact Mem.qi ..,by rw [e2]; exact h.lx,by rw [e1,e2]; exact h.ne⟩
 rw [e1]
 exact h.wr.upd (fp:=[x.xb]) (Upd.put _ _ (by simp)) (fun b hb=>by simp at hb; subst hb; exact ⟨n1,n2,n3,n4⟩)
section
variable {x:Wx} {m:Mem}
theorem xld (h:XR x m):qc (.pointer (some ⟨x.xb,0+0,none⟩)) m=some (.pointer (some ⟨x.o.w,0,none⟩))∧qc (.pointer (some ⟨x.xb,0+1,none⟩)) m=some (.int .i64 (x.err:Int))∧qc (.pointer (some ⟨x.xb,0+2,none⟩)) m=some (.int .i64 (x.rd:Int)) :=
 ⟨qs h.hx rfl,qs h.hx rfl,qs h.hx rfl⟩
theorem xok (h:XR x m):Call S tab 79 [x.v] m=some (.bool (decide (x.err=0)),m):=by
 refine W_eq ?_
 rw [C79]
 have:decide ((x.err:Int)=0)=decide (x.err=0):=by simp
 simp -implicitDefEqProofs only [st0,qb,reduceIte,nck,fa,(xld h).2.1,this]
 exact ⟨trivial,trivial⟩
theorem Kg (h:XR x m) (he:x.err=0) (e:Nat):Call S tab 128 [x.v,.int .i64 (e:Int)] m=some (.tuple #[],m.put x.xb (Wx.blk { x with err:=e })):=by
 refine W_eq ?_
 have e1:=xok h
 rw [decide_eq_true he] at e1
 have e2:qg 1 (.pointer (some ⟨x.xb,0+1,none⟩)) (.int .i64 (e:Int)) m=some (m.put x.xb (Wx.blk { x with err:=e })):=zy h.hx (by simp) rfl rfl
 rw [qjG]
 simp -implicitDefEqProofs only [st0,qb,reduceIte,e1,nck,fa,e2]
 exact ⟨trivial,trivial⟩
theorem qgW (h:XR x m) (he:x.err≠0) (e:Value):Call S tab 128 [x.v,e] m=some (.tuple #[],m):=by
 refine W_eq ?_
 have e1:=xok h
 rw [decide_eq_false he] at e1
 rw [qjG]
 simp -implicitDefEqProofs only [st0,qb,reduceIte,e1]
 exact ⟨trivial,trivial⟩
theorem qgV (h:XR x m) (he:x.err=0) (hrd:x.rd<1000) {page left:Nat} (hl:1≤left) (hp:page≤65536) {n:Nd} (hh:x.o.has page=true) (hn:lkL x.o.L page=some (xv n)) (hr:qT n=true) (hs:zt n≤256) :
  W (Call S tab 117 [x.v,.int .i64 (page:Int),.int .i64 (left:Int)] m) fun r m'=>TN m.next m' r n∧XR { x with rd:=x.rd+1 } m'∧Upd [x.xb] m m'∧(n.leaf=true→∃ sp,r=yv true sp (.slice none 0 0) (.slice none 0 0)):=by
 rw [qkK]
 have u1:Upd [] m (m.add (qk false (.slice none 0 0) (.slice none 0 0) (.slice none 0 0))):=Upd.add _ _ _
 have g1:(m.add (qk false (.slice none 0 0) (.slice none 0 0) (.slice none 0 0))).get m.next=some (qk false (.slice none 0 0) (.slice none 0 0) (.slice none 0 0)):=Mem.qh ..
 have n1:(m.add (qk false (.slice none 0 0) (.slice none 0 0) (.slice none 0 0))).next=m.next+1:=rfl
 simp -implicitDefEqProofs only [st0,qb,reduceIte]
 generalize (m.add (qk false (.slice none 0 0) (.slice none 0 0) (.slice none 0 0)))=m1 at u1 g1 n1
 have h1:=h.qx u1
 have lx:=h.lx
 have e1:qg 1 (.pointer (some ⟨x.xb,0+2,none⟩)) (.int .i64 ((x.rd+1:Nat):Int)) m1=some (m1.put x.xb (Wx.blk { x with rd:=x.rd+1 })):=zy h1.hx (by simp) rfl rfl
 have h2:XR { x with rd:=x.rd+1 } (m1.put x.xb (Wx.blk { x with rd:=x.rd+1 })):=h1.put ⟨rfl,rfl⟩
 have u2:Upd [x.xb] m (m1.put x.xb (Wx.blk { x with rd:=x.rd+1 })):=(u1.mono (fun b hb _=>by cases hb)).trans (Upd.put _ _ (by simp))
 have g2:(m1.put x.xb (Wx.blk { x with rd:=x.rd+1 })).get m.next=_:=(Mem.qu m1 _ (by omega)).trans g1
 have n2:(m1.put x.xb (Wx.blk { x with rd:=x.rd+1 })).next=m1.next:=rfl
 have e2:((left:Int)=0)=False:=eq_false (by omega)
 have e3:((1000:Int)<((x.rd+1:Nat):Int))=False:=eq_false (by omega)
 simp -implicitDefEqProofs only [st0,qb,reduceIte,nck,fa,(xld h1).2.2,qH (i:=x.rd) (by omega),e1]
 generalize (m1.put x.xb (Wx.blk { x with rd:=x.rd+1 }))=m2 at h2 u2 g2 n2
 have e4:=(xld h2).2.2
 simp -implicitDefEqProofs only [st0,qb,reduceIte,nck,fa,e2,e4,e3]
 rw [P117_0_eq]
 have e5:=xok h2
 rw [decide_eq_true (show ({ x with rd:=x.rd+1 }:Wx).err=0 from he)] at e5
 have e6:=qct h2.wr hp hh hn
 have e7:=Kg h2 he 0
 rw [show (Value.int .i64 ((0:Nat):Int))=.int .i64 0 from rfl] at e7
 have h3:XR { x with rd:=x.rd+1 } (m2.put x.xb (Wx.blk { { x with rd:=x.rd+1 } with err:=0 })):=by
  have:=h2.put (x':={ x with rd:=x.rd+1,err:=0 }) ⟨rfl,rfl⟩
  have e:({ x with rd:=x.rd+1,err:=0 }:Wx)={ x with rd:=x.rd+1 }:=by rw [← he]
  rw [e] at this
  rw [e]
  exact this
 simp -implicitDefEqProofs only [st0,qb,reduceIte,e5,nck,fa,(xld h2).1,e6,xt0,xt1,e7]
 have u3:Upd [x.xb] m2 (m2.put x.xb (Wx.blk { { x with rd:=x.rd+1 } with err:=0 })):=Upd.put _ _ (by simp)
 have g3:(m2.put x.xb (Wx.blk { { x with rd:=x.rd+1 } with err:=0 })).get m.next=_:=(Mem.qu m2 _ (by omega)).trans g2
 have n3:(m2.put x.xb (Wx.blk { { x with rd:=x.rd+1 } with err:=0 })).next=m2.next:=rfl
 generalize (m2.put x.xb (Wx.blk { { x with rd:=x.rd+1 } with err:=0 }))=m3 at h3 u3 g3 n3
 have e8:=xok h3
 rw [decide_eq_true (show ({ x with rd:=x.rd+1 }:Wx).err=0 from he)] at e8
 simp -implicitDefEqProofs only [st0,qb,reduceIte,e8]
 refine qo.2 ((qdg m3 hr hs).mono fun v4 m4 ⟨⟨v,r4,t4,xl⟩,u4⟩=>?_)
 subst r4
 obtain ⟨sp,sk,si,rfl,q1,q2,q3⟩:=t4.ex
 have n4:=u4.next
 have h4:=h3.qx u4
 have g4:=qA u4 (by omega) g3
 have u04:Upd [x.xb] m m4:=(u2.trans u3).qz u4
 simp -implicitDefEqProofs only [st0,qb,reduceIte,xt0,xt1]
 refine jJ (c:=[.bool n.leaf,sp,sk,si]) rfl rfl (by simp [q1.one.2,q2.one.2,q3.one.2,show (Value.bool n.leaf).oneCell'=true from rfl]) fun m5 b5 u5 n5=>?_
 have h5:=h4.qx u5
 have g5:=qA u5 (by omega) g4
 have e9:=Kg h5 he 0
 rw [show (Value.int .i64 ((0:Nat):Int))=.int .i64 0 from rfl] at e9
 simp -implicitDefEqProofs only [st0,qb,reduceIte,e9]
 have h6:XR { x with rd:=x.rd+1 } (m5.put x.xb (Wx.blk { { x with rd:=x.rd+1 } with err:=0 })):=by
  have:=h5.put (x':={ x with rd:=x.rd+1,err:=0 }) ⟨rfl,rfl⟩
  have e:({ x with rd:=x.rd+1,err:=0 }:Wx)={ x with rd:=x.rd+1 }:=by rw [← he]
  rw [e] at this
  rw [e]
  exact this
 have u6:Upd [x.xb] m5 (m5.put x.xb (Wx.blk { { x with rd:=x.rd+1 } with err:=0 })):=Upd.put _ _ (by simp)
 have g6:(m5.put x.xb (Wx.blk { { x with rd:=x.rd+1 } with err:=0 })).get m.next=_:=(Mem.qu m5 _ (by omega)).trans g5
 have b6:(m5.put x.xb (Wx.blk { { x with rd:=x.rd+1 } with err:=0 })).get m4.next=_:=(Mem.qu m5 _ (by omega)).trans b5
 generalize (m5.put x.xb (Wx.blk { { x with rd:=x.rd+1 } with err:=0 }))=m6 at h6 u6 g6 b6
 have e10:=xok h6
 rw [decide_eq_true (show ({ x with rd:=x.rd+1 }:Wx).err=0 from he)] at e10
 simp -implicitDefEqProofs only [st0,qb,reduceIte,e10,qO b6,zB g6 n.leaf q1.one.2 q2.one.2 q3.one.2,qO (Mem.qi m6 m.next _)]
 have n6:=u6.next
 have uo:Upd [m.next] m6 (m6.put m.next (qk n.leaf sp sk si)):=Upd.put _ _ (by simp)
 have l5:=(t4.low (lo':=m1.next) (by omega)).qx u5
 refine ⟨((l5.upd u6 (fun b hb=>by simp at hb; omega)).upd uo (fun b hb=>by simp at hb; omega)).low (by omega),h6.upd uo (fun b hb=>?_),(((u04.qz u5).trans u6).kr _ (.inr (Nat.le_refl _))),xl⟩
 simp at hb; subst hb
 have w1:=h.wr.lw; have w2:=h.wr.lm; have w3:=h.wr.lc; have w4:=h.wr.lp
 exact ⟨by show m.next≠x.xb; omega,by show m.next≠x.o.w; omega,by show m.next≠x.o.pm; omega,by show m.next≠x.o.c; omega,by show m.next≠x.o.p; omega⟩
theorem Js (h:XR x m) (he:x.err=0) (hrd:x.rd<1000) {page left:Nat} (hl:1≤left) (hp:page≤65536) {n:Nd} (hh:x.o.has page=true) (hn:lkL x.o.L page=some (xv n)) (hr:qT n=true) (hs:zt n≤256) :
  W (Call S tab 117 [x.v,.int .i64 (page:Int),.int .i64 (left:Int)] m) fun r m'=>TN m.next m' r n∧XR { x with rd:=x.rd+1 } m'∧Upd [x.xb] m m' :=
 (qgV h he hrd hl hp hh hn hr hs).mono fun _ _ ⟨a,b,c,_⟩=>⟨a,b,c⟩
theorem XR.XF (h:XR x m) (he:x.err=0):Call S tab 128 [x.v,.int .i64 0] m=some (.tuple #[],m.put x.xb x.blk)∧XR x (m.put x.xb x.blk)∧Upd [x.xb] m (m.put x.xb x.blk):=by
 have e:=Kg h he 0
 have e':({ x with err:=0 }:Wx)=x:=by rw [← he]
 rw [e'] at e
 exact ⟨e,h.put ⟨rfl,rfl⟩,Upd.put _ _ (by simp)⟩
theorem ZQ {lo:Nat} (h:XR x m) (he:x.err=0) {page:Nat} (hp:page≤65536) {n:Nd} {v:Value} (ht:TN lo m v n) (hh:x.o.has page=true) (hr:qT n=true) (hs:zt n≤256) :
  W (Call S tab 93 [x.v,.int .i64 (page:Int),v] m) fun r m'=>r=.tuple #[]∧(∃ c,XR { x with o:={ x.o with L:=upL x.o.L page (xv n) c } } m')∧Upd [x.o.pm,x.xb] m m':=by
 obtain ⟨sp,sk,si,rfl,q1,q2,q3⟩:=ht.ex
 have hfew:=vq hr hs
 rw [C93]
 simp -implicitDefEqProofs only [st0,qb,reduceIte,qR]
 have u1:Upd [] m (m.add (qk n.leaf sp sk si)):=Upd.add _ _ _
 have g1:(m.add (qk n.leaf sp sk si)).get m.next=some (qk n.leaf sp sk si):=Mem.qh ..
 generalize (m.add (qk n.leaf sp sk si))=m1 at u1 g1
 have h1:=h.qx u1
 simp -implicitDefEqProofs only [st0,qb,reduceIte,qO g1]
 refine qo.2 ((JE (ht.qx u1) hr (by omega) (by omega)).mono fun v2 m2 ⟨r2,u2⟩=>?_)
 rw [if_pos hs] at r2
 subst r2
 have h2:=h1.qx u2
 obtain ⟨e3,h3,u3⟩:=h2.XF he
 have e4:=xok h3
 rw [decide_eq_true he] at e4
 obtain ⟨m4,c,e5,r4,u4⟩:=qaS h3.wr hp hh (xv n) (Qr hr hs)
 have h4:=h3.work r4 ⟨rfl,rfl,rfl,rfl⟩ u4 (fun b hb=>.inr (by simpa using hb))
 obtain ⟨e6,h6,u6⟩:=h4.XF he
 have e6':Call S tab 128 [x.v,.int .i64 0] m4=_:=e6
 simp -implicitDefEqProofs only [st0,qb,reduceIte,xt0,xt1,e3,e4,nck,fa,(xld h3).1,e5,e6']
 refine ⟨trivial,⟨c,h6⟩,?_⟩
 refine ((((u1.mono (fun b hb _=>by cases hb)).qz u2).trans (u3.mono (fun b hb _=>?_))).trans (u4.mono (fun b hb _=>?_))).trans (u6.mono (fun b hb _=>?_))
 ·simp at hb; simp [hb]
 ·simp at hb; simp [hb]
 ·simp at hb; simp [hb]
theorem ZD {lo:Nat} (h:XR x m) (he:x.err≠0) (page:Value) {n:Nd} {v:Value} (ht:TN lo m v n) (hr:qT n=true) (hs:zt n≤256) :
  W (Call S tab 93 [x.v,page,v] m) fun r m'=>r=.tuple #[]∧Upd [] m m':=by
 obtain ⟨sp,sk,si,rfl,q1,q2,q3⟩:=ht.ex
 have hfew:=vq hr hs
 rw [C93]
 simp -implicitDefEqProofs only [st0,qb,reduceIte,qR]
 have u1:Upd [] m (m.add (qk n.leaf sp sk si)):=Upd.add _ _ _
 have g1:(m.add (qk n.leaf sp sk si)).get m.next=some (qk n.leaf sp sk si):=Mem.qh ..
 generalize (m.add (qk n.leaf sp sk si))=m1 at u1 g1
 have h1:=h.qx u1
 simp -implicitDefEqProofs only [st0,qb,reduceIte,qO g1]
 refine qo.2 ((JE (ht.qx u1) hr (by omega) (by omega)).mono fun v2 m2 ⟨r2,u2⟩=>?_)
 rw [if_pos hs] at r2
 subst r2
 have h2:=h1.qx u2
 have e4:=xok h2
 rw [decide_eq_false he] at e4
 simp -implicitDefEqProofs only [st0,qb,reduceIte,xt0,xt1,qgW h2 he,e4]
 exact ⟨trivial,u1.qz u2⟩
theorem qcs (h:XR x m) (he:x.err=0):W (Call S tab 92 [x.v] m) fun r m' =>
  (r=.int .i64 0∧XR { x with err:=8 } m'∧Upd [x.xb] m m')∨∃ n c,1≤n∧n<x.o.P∧xX x.o.u n=false∧r=.int .i64 (n:Int)∧XR { x with o:={ x.o with u:=xx x.o.u n,L:=upL x.o.L n (qp 256) c } } m'∧Upd [x.o.w,x.o.pm,x.xb] m m':=by
 have e1:=xok h
 rw [decide_eq_true he] at e1
 rw [C92]
 simp -implicitDefEqProofs only [st0,qb,reduceIte,e1,nck,fa,(xld h).1]
 refine qo.2 ((qeB h.wr).mono fun r m1 hc=>?_)
 rcases hc with ⟨rfl,rfl⟩|⟨n,c,n1,n2,n3,rfl,r1,u1⟩
 ·have e2:=Kg h he 8
  rw [show (Value.int .i64 ((8:Nat):Int))=.int .i64 8 from rfl] at e2
  simp -implicitDefEqProofs only [st0,qb,reduceIte,xt0,xt1,e2]
  exact .inl ⟨trivial,h.put (x':={ x with err:=8 }) ⟨rfl,rfl⟩,Upd.put _ _ (by simp)⟩
 ·have h1:=h.work r1 ⟨rfl,rfl,rfl,rfl⟩ u1 (fun b hb=>by simpa using hb)
  obtain ⟨e2,h2,u2⟩:=h1.XF he
  have e2':Call S tab 128 [x.v,.int .i64 0] m1=_:=e2
  simp -implicitDefEqProofs only [st0,qb,reduceIte,xt0,xt1,e2']
  refine .inr ⟨n,c,n1,n2,n3,rfl,h2,(u1.mono (fun b hb _=>?_)).trans (u2.mono (fun b hb _=>?_))⟩
  ·simp at hb ⊢; omega
  ·simp at hb; simp [hb]
end
end Go.Fx.Tryz
namespace Go.Fx.Tryz
open Go Go.Fx
def xg:Enc (Bs × Nat):=⟨2,fun p=>[str p.1,.int .i64 (p.2:Int)],fun _=>rfl,fun _=>rfl⟩
theorem yJ:xg.size=2:=rfl
section
variable {x:Wx} {m:Mem}
theorem Vc (a:Bs) (k:Nat):qy [.string ⟨#[]⟩,.int .i64 0] [(0,1,str a),(1,1,.int .i64 (k:Int))]=some [str a,.int .i64 (k:Int)]:=by kernel_rfl
theorem qjK {lo:Nat} (h:XR x m) (he:x.err=0) {page:Nat} (hp:page≤65536) {n:Nd} {v:Value} (ht:TN lo m v n) (hf:n.Fit) (hh:x.o.has page=true) (hr:qT n=true)
  (hs:¬ zt n≤256→(if n.leaf then 2≤n.pairs.length else 3≤n.keys.length∧n.kids.length=n.keys.length+1)∧qT (qM n).1=true∧zt (qM n).1≤256∧qT (qM n).2.1=true∧zt (qM n).2.1≤256) :
  W (Call S tab 125 [x.v,.int .i64 (page:Int),v] m) fun r m' =>
   (zt n≤256∧RSl m.next xg m' r [([],page)]∧(∃ c,XR { x with o:={ x.o with L:=upL x.o.L page (xv n) c } } m')∧Upd [x.o.pm,x.xb] m m') ∨
   (¬ zt n≤256∧XR { x with err:=8 } m'∧Upd [x.xb] m m') ∨
   (¬ zt n≤256∧∃ q c1 c2 c3,1≤q∧q<x.o.P∧xX x.o.u q=false∧RSl m.next xg m' r [([],page),((qM n).2.2,q)]∧XR { x with o:={ x.o with u:=xx x.o.u q,L:=upL (upL (upL x.o.L q (qp 256) c1) page (xv (qM n).1) c2) q (xv (qM n).2.1) c3 } } m'∧Upd [x.o.w,x.o.pm,x.xb] m m'):=by
 have hn:=ht
 obtain ⟨sp,sk,si,rfl,q1,q2,q3⟩:=ht.ex
 have w1:=h.wr.lw; have w2:=h.wr.lm; have w3:=h.wr.lc; have w4:=h.wr.lp; have w5:=h.lx
 rw [qkF]
 simp -implicitDefEqProofs only [st0,qb,reduceIte,qR]
 have u1:Upd [] m (m.add (qk n.leaf sp sk si)):=Upd.add _ _ _
 have g1:(m.add (qk n.leaf sp sk si)).get m.next=some (qk n.leaf sp sk si):=Mem.qh ..
 have n1:(m.add (qk n.leaf sp sk si)).next=m.next+1:=rfl
 generalize (m.add (qk n.leaf sp sk si))=m1 at u1 g1 n1
 simp -implicitDefEqProofs only [st0,qb,reduceIte,qO g1]
 refine qo.2 ((HK (hn.qx u1) hf).mono fun v2 m2 ⟨r2,u2⟩=>?_)
 subst r2
 have g2:=qA u2 (by omega) g1
 have u02:=u1.qz u2
 have h2:=h.qx u02
 have x2:=u2.next
 have t2:=hn.qx u02
 by_cases hsz:zt n≤256
 ·have e1:(((zt n:Nat):Int)≤256)=True:=eq_true (by omega)
  simp -implicitDefEqProofs only [st0,qb,reduceIte,e1,qO g2]
  refine qo.2 ((ZQ h2 he hp t2 hh hr hsz).mono fun v3 m3 ⟨r3,⟨c,h3⟩,u3⟩=>?_)
  have e2:=Vc [] page
  rw [← ZE] at e2
  have e3:qy [.string ⟨#[]⟩,.int .i64 0] [(0,2,.agg [.string ⟨#[]⟩,.int .i64 (page:Int)].toArray)]=some (xg.flat [([],page)]):=by kernel_rfl
  simp -implicitDefEqProofs only [st0,qb,reduceIte,e2,e3]
  have x3:=u3.next
  have tf:TAp xg 206 (m3.add ⟨.cells (xg.flat [(([]:Bs),page)]) 206,false,none⟩) (.slice (some ⟨m3.next,0,none⟩) [(([]:Bs),page)].length [(([]:Bs),page)].length) [([],page)]:=TAp.fresh m3 _
  refine .inl ⟨hsz,tf.rsl (fun b hb=>by simp [qf] at hb; omega),⟨c,h3.qx (Upd.add _ _ _)⟩,((u02.mono (fun b hb _=>by cases hb)).trans u3).qdZ _⟩
 ·obtain ⟨s1,s2,s3,s4,s5⟩:=hs hsz
  have e1:(((zt n:Nat):Int)≤256)=False:=eq_false (by omega)
  simp -implicitDefEqProofs only [st0,qb,reduceIte,e1,qO g2]
  refine qo.2 ((qbu t2 hf s1).mono fun v3 m3 ⟨⟨va,vb,r3,ta,tb⟩,u3⟩=>?_)
  subst r3
  obtain ⟨pa,ka,ia,rfl,a1,a2,a3⟩:=ta.ex
  obtain ⟨pb,kb,ib,rfl,b1,b2,b3⟩:=tb.ex
  have x3:=u3.next
  have u03:=u02.qz u3
  simp -implicitDefEqProofs only [st0,qb,reduceIte,(ex3 _ _ _).1,(ex3 _ _ _).2.1,(ex3 _ _ _).2.2]
  have u4:Upd [] m3 (m3.add (qk false (.slice none 0 0) (.slice none 0 0) (.slice none 0 0))):=Upd.add _ _ _
  have g4:(m3.add (qk false (.slice none 0 0) (.slice none 0 0) (.slice none 0 0))).get m3.next=some (qk false (.slice none 0 0) (.slice none 0 0) (.slice none 0 0)):=Mem.qh ..
  have n4:(m3.add (qk false (.slice none 0 0) (.slice none 0 0) (.slice none 0 0))).next=m3.next+1:=rfl
  generalize (m3.add (qk false (.slice none 0 0) (.slice none 0 0) (.slice none 0 0)))=m4 at u4 g4 n4
  have u5:Upd [] m4 (m4.add (qk false (.slice none 0 0) (.slice none 0 0) (.slice none 0 0))):=Upd.add _ _ _
  have k5:(m4.add (qk false (.slice none 0 0) (.slice none 0 0) (.slice none 0 0))).get m4.next=some (qk false (.slice none 0 0) (.slice none 0 0) (.slice none 0 0)):=Mem.qh ..
  have n5:(m4.add (qk false (.slice none 0 0) (.slice none 0 0) (.slice none 0 0))).next=m4.next+1:=rfl
  have g5:=qA u5 (by omega) g4
  generalize (m4.add (qk false (.slice none 0 0) (.slice none 0 0) (.slice none 0 0)))=m5 at u5 k5 n5 g5
  simp -implicitDefEqProofs only [st0,qb,reduceIte,zB g5 _ a1.one.2 a2.one.2 a3.one.2]
  have u6:Upd [m3.next] m5 (m5.put m3.next (qk (qM n).1.leaf pa ka ia)):=Upd.put _ _ (by simp)
  have g6:(m5.put m3.next (qk (qM n).1.leaf pa ka ia)).get m3.next=_:=Mem.qi ..
  have k6:(m5.put m3.next (qk (qM n).1.leaf pa ka ia)).get m4.next=_:=(Mem.qu m5 _ (by omega)).trans k5
  generalize (m5.put m3.next (qk (qM n).1.leaf pa ka ia))=m6 at u6 g6 k6
  simp -implicitDefEqProofs only [st0,qb,reduceIte,zB k6 _ b1.one.2 b2.one.2 b3.one.2]
  have u7:Upd [m4.next] m6 (m6.put m4.next (qk (qM n).2.1.leaf pb kb ib)):=Upd.put _ _ (by simp)
  have k7:(m6.put m4.next (qk (qM n).2.1.leaf pb kb ib)).get m4.next=_:=Mem.qi ..
  have g7:(m6.put m4.next (qk (qM n).2.1.leaf pb kb ib)).get m3.next=_:=(Mem.qu m6 _ (by omega)).trans g6
  generalize (m6.put m4.next (qk (qM n).2.1.leaf pb kb ib))=m7 at u7 g7 k7
  have x6:=u6.next
  have x7:=u7.next
  have u37:Upd [] m3 m7:=(((u4.qz u5).then' u6 (fun b hb=>.inr (by simp at hb; omega))).then' u7 (fun b hb=>.inr (by simp at hb; omega)))
  have ta7:=ta.qx u37
  have tb7:=tb.qx u37
  have u07:=u03.qz u37
  have h7:=h.qx u07
  refine qo.2 ((qcs h7 he).mono fun v8 m8 hc=>?_)
  have e4:=Vc [] page
  rw [← ZE] at e4
  rcases hc with ⟨rfl,h8,u8⟩|⟨q,c,y1,y2,y3,rfl,h8,u8⟩
  ·have x8:=u8.next
   have hx8:∀ b∈[x.xb],b<m3.next:=fun b hb=>by simp at hb; omega
   have g8:m8.get m3.next=_:=(u8.same _ (by omega) (by simp; omega)).trans g7
   have k8:m8.get m4.next=_:=(u8.same _ (by omega) (by simp; omega)).trans k7
   have e8:({ x with err:=8 }:Wx).err≠0:=by show (8:Nat)≠0; omega
   simp -implicitDefEqProofs only [st0,qb,reduceIte,qO g8]
   refine qo.2 ((ZD h8 e8 _ ((ta7.low (lo':=m2.next) (Nat.le_refl _)).upd u8 (fun b hb=>by simp at hb; omega)) s2 s3).mono fun v9 m9 ⟨_,u9⟩=>?_)
   have k9:=qA u9 (by omega) k8
   simp -implicitDefEqProofs only [st0,qb,reduceIte,qO k9]
   refine qo.2 ((ZD (h8.qx u9) e8 _ ((tb7.upd u8 (fun b hb=>by simp at hb; omega)).qx u9) s4 s5).mono fun v10 m10 ⟨_,u10⟩=>?_)
   have e5:=Vc (qM n).2.2 0
   rw [show (Value.int .i64 ((0:Nat):Int))=.int .i64 0 from rfl] at e5
   have e6:qy [.string ⟨#[]⟩,.int .i64 0,.string ⟨#[]⟩,.int .i64 0] [(0,2,.agg [.string ⟨#[]⟩,.int .i64 (page:Int)].toArray),(2,2,.agg [str (qM n).2.2,.int .i64 0].toArray)]=some [.string ⟨#[]⟩,.int .i64 (page:Int),str (qM n).2.2,.int .i64 0]:=by kernel_rfl
   simp -implicitDefEqProofs only [st0,qb,reduceIte,e4,e5,e6]
   exact .inr (.inl ⟨hsz,((h8.qx u9).qx u10).qx (Upd.add _ _ _),((((u07.mono (fun b hb _=>by cases hb)).trans u8).qz u9).qz u10).qdZ _⟩)
  ·have x8:=u8.next
   have g8:m8.get m3.next=_:=(u8.same _ (by omega) (by simp; omega)).trans g7
   have k8:m8.get m4.next=_:=(u8.same _ (by omega) (by simp; omega)).trans k7
   have hl8:∀ b∈[x.o.w,x.o.pm,x.xb],b<m2.next:=fun b hb=>by simp at hb; omega
   have hP:=h.wr.hP
   have hu20:=h.wr.hu
   have hb1:∀ k,xX (xx x.o.u q) k=(xX x.o.u k ^^ decide (k=q)):=ZV x.o.u (by omega)
   have hpq:page≠q:=by
    rintro rfl
    unfold Wo.has at hh
    rw [y3] at hh
    simp at hh
   have hh8:Wo.has { x.o with u:=xx x.o.u q,L:=upL x.o.L q (qp 256) c } page=true:=by
    unfold Wo.has at hh ⊢
    simp only [hb1,decide_eq_false hpq,Bool.xor_false]; exact hh
   simp -implicitDefEqProofs only [st0,qb,reduceIte,qO g8]
   refine qo.2 ((ZQ h8 he hp (ta7.upd u8 hl8) hh8 s2 s3).mono fun v9 m9 ⟨_,⟨c2,h9⟩,u9⟩=>?_)
   have x9:=u9.next
   have k9:m9.get m4.next=_:=(u9.same _ (by omega) (by simp; omega)).trans k8
   have hl9:∀ b∈[x.o.pm,x.xb],b<m2.next:=fun b hb=>by simp at hb; omega
   have hhq:Wo.has { x.o with u:=xx x.o.u q,L:=upL (upL x.o.L q (qp 256) c) page (xv (qM n).1) c2 } q=true:=by
    unfold Wo.has
    simp only [hb1,y3]
    simp [y1,y2]
   simp -implicitDefEqProofs only [st0,qb,reduceIte,qO k9]
   refine qo.2 ((ZQ h9 he (by omega) ((tb7.upd u8 hl8).upd u9 hl9) hhq s4 s5).mono fun v10 m10 ⟨_,⟨c3,h10⟩,u10⟩=>?_)
   have e5:=Vc (qM n).2.2 q
   have e6:qy [.string ⟨#[]⟩,.int .i64 0,.string ⟨#[]⟩,.int .i64 0] [(0,2,.agg [.string ⟨#[]⟩,.int .i64 (page:Int)].toArray),(2,2,.agg [str (qM n).2.2,.int .i64 (q:Int)].toArray)]=some (xg.flat [([],page),((qM n).2.2,q)]):=by kernel_rfl
   simp -implicitDefEqProofs only [st0,qb,reduceIte,e4,e5,e6]
   have x10:=u10.next
   have tf:TAp xg 206 (m10.add ⟨.cells (xg.flat [(([]:Bs),page),((qM n).2.2,q)]) 206,false,none⟩) (.slice (some ⟨m10.next,0,none⟩) [(([]:Bs),page),((qM n).2.2,q)].length [(([]:Bs),page),((qM n).2.2,q)].length) [([],page),((qM n).2.2,q)]:=TAp.fresh m10 _
   refine .inr (.inr ⟨hsz,q,c,c2,c3,y1,y2,y3,tf.rsl (fun b hb=>by simp [qf] at hb; omega),h10.qx (Upd.add _ _ _),?_⟩)
   have hsub:∀ b,b∈[x.o.pm,x.xb]→b∈[x.o.w,x.o.pm,x.xb]:=fun b hb=>List.mem_cons.2 (.inr hb)
   exact ((((u07.mono (fun b hb _=>by cases hb)).trans u8).trans (u9.mono (fun b hb _=>hsub b hb))).trans (u10.mono (fun b hb _=>hsub b hb))).qdZ _
end
end Go.Fx.Tryz
namespace Go.Fx.Tryz
open Go Go.Fx
abbrev Pt:=Bs × Nat
def wK (n:Nd) (k:Nat) (ps:List Pt) (i:Nat):List Bs:=(List.range i).flatMap fun j=>(if 0<j then [n.keys.getD (j - 1) []] else [])++(if j=k then ps.tail.map (·.1) else [])
def wI (n:Nd) (k:Nat) (ps:List Pt) (i:Nat):List Nat:=(List.range i).flatMap fun j=>if j=k then ps.map (·.2) else [n.kids.getD j 0]
def wg (n:Nd) (k:Nat) (ps:List Pt):Nd:=Nd.nd (wK n k ps n.kids.length) (wI n k ps n.kids.length)
theorem wJ (n:Nd) (k:Nat) (ps:List Pt) (i:Nat):wK n k ps (i+1)=wK n k ps i++((if 0<i then [n.keys.getD (i - 1) []] else [])++(if i=k then ps.tail.map (·.1) else [])):=by
 unfold wK; rw [List.range_succ,List.flatMap_append,List.flatMap_singleton]
theorem wL (n:Nd) (k:Nat) (ps:List Pt) (i:Nat):wI n k ps (i+1)=wI n k ps i++(if i=k then ps.map (·.2) else [n.kids.getD i 0]):=by
 unfold wI; rw [List.range_succ,List.flatMap_append,List.flatMap_singleton]
structure Ou (m0:Mem) (ob:Nat) (m:Mem) (kv iv:Value) (ks:List Bs) (is:List Nat):Prop where
 g:m.get ob=some (qk false (.slice none 0 0) kv iv)
 tk:TAp encS 9 m kv ks
 ti:TAp xd 3 m iv is
 bk:∀ b∈qf kv,m0.next≤b
 bi:∀ b∈qf iv,m0.next≤b
 dj:∀ b∈qf kv,b∉qf iv
 lo:ob<m0.next
 up:Upd [ob] m0 m
section
variable {m0 m m':Mem} {ob:Nat} {kv iv v':Value} {ks:List Bs} {is:List Nat}
theorem Ou.qx (h:Ou m0 ob m kv iv ks is) (hu:Upd [] m m'):Ou m0 ob m' kv iv ks is :=
 ⟨qA hu (Nat.lt_of_lt_of_le h.lo h.up.next) h.g,h.tk.qx hu,h.ti.qx hu,h.bk,h.bi,h.dj,h.lo,h.up.qz hu⟩
theorem Ou.qjz (h:Ou m0 ob m kv iv ks is) {l:List Bs} (q1:TAp encS 9 m' v' l) (q2:Upd (qf kv) m m') (q3:∀ b∈qf v',b∈qf kv∨m.next≤b) :
  m'.get ob=some (qk false (.slice none 0 0) kv iv)∧Ou m0 ob (m'.put ob (qk false (.slice none 0 0) v' iv)) v' iv l is:=by
 have hn:=h.up.next
 have hlo:=h.lo
 have hg:m'.get ob=some (qk false (.slice none 0 0) kv iv):=(q2.same ob (by omega) (fun hb=>by have:=h.bk _ hb; omega)).trans h.g
 have hb:∀ b∈qf v',m0.next≤b:=fun b hb=>(q3 b hb).elim (h.bk b) (fun h=>by omega)
 have hp:Upd [ob] m' (m'.put ob (qk false (.slice none 0 0) v' iv)):=Upd.put _ _ (by simp)
 refine ⟨hg,⟨Mem.qi ..,q1.upd hp (fun b hb' hm=>by simp at hm; have:=hb b hb'; omega),(h.ti.upd q2 (fun b hb' hm=>h.dj b hm hb')).upd hp (fun b hb' hm=>by simp at hm; have:=h.bi b hb'; omega),hb,h.bi,fun b hb1 hb2=>?_,h.lo,(h.up.then' q2 (fun b hb'=>.inr (h.bk b hb'))).kr _ (.inl (by simp))⟩⟩
 rcases q3 b hb1 with h1|h1
 ·exact h.dj b h1 hb2
 ·have:=h.ti.lt b hb2; omega
theorem Ou.qjA (h:Ou m0 ob m kv iv ks is) {l:List Nat} (q1:TAp xd 3 m' v' l) (q2:Upd (qf iv) m m') (q3:∀ b∈qf v',b∈qf iv∨m.next≤b) :
  m'.get ob=some (qk false (.slice none 0 0) kv iv)∧Ou m0 ob (m'.put ob (qk false (.slice none 0 0) kv v')) kv v' ks l:=by
 have hn:=h.up.next
 have hlo:=h.lo
 have hg:m'.get ob=some (qk false (.slice none 0 0) kv iv):=(q2.same ob (by omega) (fun hb=>by have:=h.bi _ hb; omega)).trans h.g
 have hb:∀ b∈qf v',m0.next≤b:=fun b hb=>(q3 b hb).elim (h.bi b) (fun h=>by omega)
 have hp:Upd [ob] m' (m'.put ob (qk false (.slice none 0 0) kv v')):=Upd.put _ _ (by simp)
 refine ⟨hg,⟨Mem.qi ..,(h.tk.upd q2 (fun b hb' hm=>h.dj b hb' hm)).upd hp (fun b hb' hm=>by simp at hm; have:=h.bk b hb'; omega),q1.upd hp (fun b hb' hm=>by simp at hm; have:=hb b hb'; omega),h.bk,hb,fun b hb1 hb2=>?_,h.lo,(h.up.then' q2 (fun b hb'=>.inr (h.bi b hb'))).kr _ (.inl (by simp))⟩⟩
 rcases q3 b hb2 with h1|h1
 ·exact h.dj b hb1 h1
 ·have:=h.tk.lt b hb1; omega
theorem Ou.ld (h:Ou m0 ob m kv iv ks is):qc (.pointer (some ⟨ob,0+2,none⟩)) m=some kv∧qc (.pointer (some ⟨ob,0+3,none⟩)) m=some iv:=⟨zl h.g rfl,zl h.g rfl⟩
end
theorem WU (s:Bs):qy [.string ⟨#[]⟩] [(0,1,str s)]=some (encS.flat [s]):=by kernel_rfl
theorem qgI (k:Nat):qy [.int .i64 0] [(0,1,.int .i64 (k:Int))]=some (xd.flat [k]):=by kernel_rfl
theorem Yv {m0:Mem} {ob lo:Nat} {x1 x3 x6 x14 x15 x16 vp:Value} {ps:List Pt} (hps:ps.length≤2) (hlo:lo≤m0.next) (hvp:∀ b∈qf vp,b<m0.next∧b≠ob) {K0:List Bs} {I0:List Nat} (hK:K0.length≤1000) (hI:I0.length≤1000) {Q:Value→Mem→Prop}
  (hQ:∀ m kv iv,Ou m0 ob m kv iv (K0++ps.tail.map (·.1)) (I0++ps.map (·.2))→RSl lo xg m vp ps→W ((arith .add x16 (.int .i64 1)).bind fun v19=>Zc x1 vp x3 x6 (.pointer (some ⟨ob,0,none⟩)) x14 x15 v19 m) Q) :
  ∀ (d j:Nat) (m:Mem) (kv iv:Value),ps.length - j=d→j≤ps.length→Ou m0 ob m kv iv (K0++((ps.take j).drop 1).map (·.1)) (I0++(ps.take j).map (·.2))→RSl lo xg m vp ps →
  W (VE x1 vp x3 x6 (.pointer (some ⟨ob,0,none⟩)) x14 x15 x16 vp (.int .i64 (ps.length:Int)) (.int .i64 (j:Int)) m) Q:=by
 intro d
 induction d with
 | zero =>
  intro j m kv iv hd hj h hv
  obtain rfl:j=ps.length:=by omega
  rw [P126_2_eq]
  simp -implicitDefEqProofs only [st0,qb,reduceIte,Int.lt_irrefl]
  rw [List.take_length,List.drop_one] at h
  exact hQ m kv iv h hv
 | succ d ih =>
  intro j m kv iv hd hj h hv
  have hlt:j<ps.length:=by omega
  have e1:((j:Int)<(ps.length:Int))=True:=eq_true (by omega)
  obtain ⟨b,off,h1,h2⟩:=hv.1.at .i64 (jE hlt)
  rw [yJ] at h1 h2
  have h2:=h2 m hv.1
  rw [P126_2_eq]
  simp -implicitDefEqProofs only [st0,qb,reduceIte,e1,h1,h2.1]
  refine jJ (c:=xg.cells ps[j]) rfl rfl rfl fun m1 g1 u1 n1=>?_
  have o1:=h.qx u1
  have hv1:=hv.qx u1
  have hkp:∀ {M M':Mem} {kv iv:Value} {ks:List Bs} {is:List Nat},Ou m0 ob M kv iv ks is→Upd (ob::qf kv++qf iv) M M'→RSl lo xg M vp ps→RSl lo xg M' vp ps:=by
   intro M M' kv iv ks is ho hu hr
   refine hr.jB hu (fun b hb hm=>?_)
   have:=hvp b hb
   simp only [List.cons_append,List.mem_cons,List.mem_append] at hm
   rcases hm with hm|hm|hm
   ·exact this.2 hm
   ·have:=ho.bk b hm; omega
   ·have:=ho.bi b hm; omega
  have hm0:m0.next≤m.next:=h.up.next
  have tail:∀ {M:Mem} {kv iv:Value} {ks:List Bs},Ou m0 ob M kv iv ks (I0++(ps.take j).map (·.2))→K0++((ps.take (j+1)).drop 1).map (·.1)=ks→RSl lo xg M vp ps→M.get m.next=some ⟨.cells (xg.cells ps[j]) 206,false,none⟩ →
    W (VD x1 vp x3 x6 (.pointer (some ⟨ob,0,none⟩)) (.pointer (some ⟨m.next,0,none⟩)) x14 x15 x16 vp (.int .i64 (ps.length:Int)) (.int .i64 (j:Int)) M) Q:=by
   intro M kv iv ks ho hks hr hg
   rw [P126_3_eq]
   have hl:(I0++(ps.take j).map (·.2)).length≤1002:=by simp; omega
   simp -implicitDefEqProofs only [st0,qb,reduceIte,fa,ho.ld.2,qs hg (show (xg.cells ps[j])[0+1]? = some (.int .i64 (ps[j].2:Int)) from rfl),qgI]
   refine zX (E:=xd) [ps[j].2] (by decide) ho.ti (by simp only [List.length_cons,List.length_nil]; omega) fun v2 m2 q1 q2 q3=>?_
   obtain ⟨g2,o2⟩:=ho.qjA q1 q2 q3
   simp -implicitDefEqProofs only [st0,qb,reduceIte,fa,hJ g2 q1.one,qH (i:=j) (by omega)]
   have e5:(I0++(ps.take j).map (·.2))++[ps[j].2]=I0++(ps.take (j+1)).map (·.2):=by rw [List.take_succ_eq_append_getElem hlt,List.map_append,List.append_assoc]; rfl
   rw [e5,← hks] at o2
   refine ih (j+1) _ kv v2 (by omega) hlt o2 (hkp ho ((q2.mono (fun b hb _=>by simp [hb])).trans (Upd.put _ _ (by simp))) hr)
  by_cases h0:j=0
  ·have e2:((0:Int)<(j:Int))=False:=eq_false (by omega)
   simp -implicitDefEqProofs only [st0,qb,reduceIte,e2]
   subst h0
   exact tail o1 (by simp [List.take_succ_eq_append_getElem hlt]) hv1 g1
  ·have e2:((0:Int)<(j:Int))=True:=eq_true (by omega)
   have hl:(K0++((ps.take j).drop 1).map (·.1)).length≤1002:=by simp; omega
   simp -implicitDefEqProofs only [st0,qb,reduceIte,e2,fa,o1.ld.1,qs g1 (show (xg.cells ps[j])[0+0]? = some (str ps[j].1) from rfl),WU]
   refine zX (E:=encS) [ps[j].1] (by decide) o1.tk (by simp only [List.length_cons,List.length_nil]; omega) fun v2 m2 q1 q2 q3=>?_
   obtain ⟨g2,o2⟩:=o1.qjz q1 q2 q3
   simp -implicitDefEqProofs only [st0,qb,reduceIte,fa,XG g2 q1.one]
   refine tail o2 ?_ (hkp o1 ((q2.mono (fun b hb _=>by simp [hb])).trans (Upd.put _ _ (by simp))) hv1) ?_
   ·rw [List.take_succ_eq_append_getElem hlt,List.drop_append_of_le_length (by rw [List.length_take]; omega),List.map_append,List.append_assoc]; rfl
   ·have hlo':=h.lo
    rw [Mem.qu _ _ (by omega),q2.same _ n1 (fun hm=>by have:=h.tk.lt _ hm; omega)]; exact g1
end Go.Fx.Tryz
namespace Go.Fx.Tryz
open Go Go.Fx
structure We (lo:Nat) (n:Nd) (nb rb:Nat) (sp sk si vp:Value) (ps:List Pt) (m:Mem):Prop where
 gn:m.get nb=some (qk n.leaf sp sk si)
 gr:m.get rb=some (qk false (.slice none 0 0) (.slice none 0 0) (.slice none 0 0))
 k2:RSl lo encS m sk n.keys
 k3:RSl lo xd m si n.kids
 kp:RSl lo xg m vp ps
theorem We.jB {lo:Nat} {n:Nd} {nb rb ob:Nat} {sp sk si vp:Value} {ps:List Pt} {m m' m0:Mem} (h:We lo n nb rb sp sk si vp ps m) {fp:List Nat} (hu:Upd fp m m') (hf:∀ b∈fp,b=ob∨m0.next≤b) (h0:m0.next≤m.next)
  (hb:(nb<m0.next∧nb≠ob)∧(rb<m0.next∧rb≠ob)∧(∀ b∈qf sk,b<m0.next∧b≠ob)∧(∀ b∈qf si,b<m0.next∧b≠ob)∧∀ b∈qf vp,b<m0.next∧b≠ob):We lo n nb rb sp sk si vp ps m':=by
 obtain ⟨b1,b2,b3,b4,b5⟩:=hb
 have no:∀ {b:Nat},(b<m0.next∧b≠ob)→b∉fp:=fun hb hm=>by
  rcases hf _ hm with e|e
  ·exact hb.2 e
  ·omega
 exact ⟨(hu.same _ (by omega) (no b1)).trans h.gn,(hu.same _ (by omega) (no b2)).trans h.gr,h.k2.jB hu (fun b hb=>no (b3 b hb)),h.k3.jB hu (fun b hb=>no (b4 b hb)),h.kp.jB hu (fun b hb=>no (b5 b hb))⟩
theorem qaT {lo:Nat} {n:Nd} {nb rb ob k:Nat} {sp sk si vp:Value} {ps:List Pt} {m0:Mem} (hps:ps.length≤2) (hlo:lo≤m0.next) (hkl:n.kids.length≤n.keys.length+1) (hf:n.kids.length≤200)
  (hb:(nb<m0.next∧nb≠ob)∧(rb<m0.next∧rb≠ob)∧(∀ b∈qf sk,b<m0.next∧b≠ob)∧(∀ b∈qf si,b<m0.next∧b≠ob)∧∀ b∈qf vp,b<m0.next∧b≠ob) (he0:We lo n nb rb sp sk si vp ps m0) :
  ∀ (d i:Nat) (m:Mem) (kv iv:Value),n.kids.length - i=d→i≤n.kids.length→(wK n k ps i).length≤2 * i∧(wI n k ps i).length≤2 * i→Ou m0 ob m kv iv (wK n k ps i) (wI n k ps i) →
  W (Zc (.int .i64 (k:Int)) vp (.pointer (some ⟨nb,0,none⟩)) (.pointer (some ⟨rb,0,none⟩)) (.pointer (some ⟨ob,0,none⟩)) si (.int .i64 (n.kids.length:Int)) (.int .i64 (i:Int)) m) fun r m'=>TN m0.next m' r (wg n k ps)∧Upd [ob,rb] m0 m':=by
 have hW:∀ {M:Mem},Upd [ob] m0 M→We lo n nb rb sp sk si vp ps M:=fun hu=>he0.jB (ob:=ob) (m0:=m0) hu (fun b hb'=>.inl (by simpa using hb')) (Nat.le_refl _) hb
 intro d
 induction d with
 | zero =>
  intro i m kv iv hd hi hwl h
  have he:=hW h.up
  obtain rfl:i=n.kids.length:=by omega
  rw [P126_0_eq]
  simp -implicitDefEqProofs only [st0,qb,reduceIte,Int.lt_irrefl,qO h.g,zB he.gr false (sp':=.slice none 0 0) (sk':=kv) (si':=iv) rfl h.tk.one.2 h.ti.one.2,qO (Mem.qi m rb _)]
  have hp:Upd [rb] m (m.put rb (qk false (.slice none 0 0) kv iv)):=Upd.put _ _ (by simp)
  refine ⟨⟨_,_,_,rfl,RSl.nil _ _ _,(h.tk.rsl h.bk).upd hp (fun b hb'=>by simp at hb'; omega),(h.ti.rsl h.bi).upd hp (fun b hb'=>by simp at hb'; omega)⟩,(h.up.mono (fun b hb' _=>by simp at hb'; simp [hb'])).trans (hp.mono (fun b hb' _=>by simp at hb'; simp [hb']))⟩
 | succ d ih =>
  intro i m kv iv hd hi hwl h
  have he:=hW h.up
  have hlt:i<n.kids.length:=by omega
  have hm0:m0.next≤m.next:=h.up.next
  have e1:((i:Int)<(n.kids.length:Int))=True:=eq_true (by omega)
  obtain ⟨p,h1,_,h2⟩:=he.k3.1.index .i64 (jE hlt)
  rw [jy] at h1
  have h2:=h2 (.int .i64 (n.kids[i]:Int)) rfl
  have hgk:n.kids.getD i 0=n.kids[i]:=by rw [List.getD_eq_getElem?_getD,List.getElem?_eq_getElem hlt]; rfl
  have hKl:(wK n k ps (i+1)).length≤2 * (i+1)∧(wI n k ps (i+1)).length≤2 * (i+1):=by
   rw [wJ,wL]
   have:ps.tail.length≤1:=by rw [List.length_tail]; omega
   constructor
   ·simp only [List.length_append]; split<;>split<;>simp<;>omega
   ·simp only [List.length_append]; split<;>simp<;>omega
  have tail:∀ {M:Mem} {kv iv:Value},Ou m0 ob M kv iv (wK n k ps i++(if 0<i then [n.keys.getD (i - 1) []] else [])) (wI n k ps i) →
    W (VF (.int .i64 (k:Int)) vp (.pointer (some ⟨nb,0,none⟩)) (.pointer (some ⟨rb,0,none⟩)) (.pointer (some ⟨ob,0,none⟩)) (.int .i64 (i:Int)) (.int .i64 (n.kids[i]:Int)) si (.int .i64 (n.kids.length:Int)) (.int .i64 (i:Int)) M) fun r m'=>TN m0.next m' r (wg n k ps)∧Upd [ob,rb] m0 m':=by
   intro M kv iv ho
   have hE:=hW ho.up
   have hM:=ho.up.next
   rw [P126_1_eq]
   by_cases hk:i=k
   ·have e2:((i:Int)=(k:Int))=True:=eq_true (by omega)
    have e3:=hE.kp.1.len
    simp -implicitDefEqProofs only [st0,qb,reduceIte,e2,e3]
    refine Yv (lo:=lo) (m0:=m0) (K0:=wK n k ps i++(if 0<i then [n.keys.getD (i - 1) []] else [])) (I0:=wI n k ps i) hps hlo hb.2.2.2.2 (by simp only [List.length_append]; split<;>simp<;>omega) (by omega) (fun M' kv' iv' ho' hp'=>?_) _ 0 M kv iv rfl (by omega) (by simpa using ho) hE.kp
    simp -implicitDefEqProofs only [st0,qb,reduceIte,qH (i:=i) (by omega)]
    refine ih (i+1) M' kv' iv' (by omega) hlt hKl ?_
    rw [wJ,wL,if_pos hk,if_pos hk,← List.append_assoc]; exact ho'
   ·have e2:((i:Int)=(k:Int))=False:=eq_false (by omega)
    simp -implicitDefEqProofs only [st0,qb,reduceIte,e2,fa,ho.ld.2,qgI]
    refine zX (E:=xd) [n.kids[i]] (by decide) ho.ti (by simp only [List.length_cons,List.length_nil]; omega) fun v2 m2 q1 q2 q3=>?_
    obtain ⟨g2,o2⟩:=ho.qjA q1 q2 q3
    simp -implicitDefEqProofs only [st0,qb,reduceIte,fa,hJ g2 q1.one,qH (i:=i) (by omega)]
    refine ih (i+1) _ kv v2 (by omega) hlt hKl ?_
    rw [wJ,wL,if_neg hk,if_neg hk,List.append_nil,hgk]; exact o2
  rw [P126_0_eq]
  by_cases h0:i=0
  ·have e2:((0:Int)<(i:Int))=False:=eq_false (by omega)
   simp -implicitDefEqProofs only [st0,qb,reduceIte,e1,h1,h2,e2]
   exact tail (by rw [if_neg (by omega),List.append_nil]; exact h)
  ·have e2:((0:Int)<(i:Int))=True:=eq_true (by omega)
   have hlk:i - 1<n.keys.length:=by omega
   obtain ⟨pk,y1,_,y2⟩:=he.k2.1.index .i64 (jE hlk)
   rw [zZ] at y1
   have y2:=y2 (str n.keys[i - 1]) rfl
   have hgd:n.keys.getD (i - 1) []=n.keys[i - 1]:=by rw [List.getD_eq_getElem?_getD,List.getElem?_eq_getElem hlk]; rfl
   have e3:arith .sub (.int .i64 (i:Int)) (.int .i64 1)=some (.int .i64 ((i - 1:Nat):Int)):=by rw [jf (by omega) (by omega)]; congr 2; omega
   simp -implicitDefEqProofs only [st0,qb,reduceIte,e1,h1,h2,e2,fa,h.ld.1,zl he.gn (o:=0+2) rfl,e3,y1,y2,WU]
   refine zX (E:=encS) [n.keys[i - 1]] (by decide) h.tk (by simp only [List.length_cons,List.length_nil]; omega) fun v2 m2 q1 q2 q3=>?_
   obtain ⟨g2,o2⟩:=h.qjz q1 q2 q3
   simp -implicitDefEqProofs only [st0,qb,reduceIte,fa,XG g2 q1.one]
   refine kJ (fun r hr=>?_) (tail (by rw [if_pos (by omega),hgd]; exact o2))
   simp only [List.mem_cons,List.not_mem_nil,or_false] at hr
   rcases hr with rfl|rfl|rfl
   ·exact okR fun k _ hk=>by
     have:k=0∨k=1:=by omega
     rcases this with rfl|rfl
     ·exact ⟨_,rfl,h.ld.1⟩
     ·exact ⟨_,rfl,(h.qx (Upd.add _ _ _)).ld.1⟩
   ·exact okR fun k _ hk=>by
     obtain rfl:k=0:=by omega
     exact ⟨_,rfl,zl he.gn rfl⟩
   ·exact okR fun k _ hk=>by
     obtain rfl:k=0:=by omega
     exact ⟨_,rfl,y2⟩
theorem qes {lo:Nat} {v vp:Value} {n:Nd} {m:Mem} {k:Nat} {ps:List Pt} (h:TN lo m v n) (hv:RSl lo xg m vp ps) (hps:ps.length≤2) (hlo:lo≤m.next) (hkl:n.kids.length≤n.keys.length+1) (hf:n.kids.length≤200) :
  W (Call S tab 126 [v,.int .i64 (k:Int),vp] m) fun r m'=>TN m.next m' r (wg n k ps)∧Upd [] m m':=by
 obtain ⟨sp,sk,si,rfl,a1,a2,a3⟩:=h.ex
 rw [qkE]
 have e0:qy [.bool false,.slice none 0 0,.slice none 0 0,.slice none 0 0] []=some [.bool false,.slice none 0 0,.slice none 0 0,.slice none 0 0]:=rfl
 simp -implicitDefEqProofs only [st0,qb,reduceIte,qR,e0]
 have u1:Upd [] m (m.add (qk n.leaf sp sk si)):=Upd.add _ _ _
 have g1:(m.add (qk n.leaf sp sk si)).get m.next=some (qk n.leaf sp sk si):=Mem.qh ..
 have n1:(m.add (qk n.leaf sp sk si)).next=m.next+1:=rfl
 generalize (m.add (qk n.leaf sp sk si))=m1 at u1 g1 n1
 have u2:Upd [] m1 (m1.add (qk false (.slice none 0 0) (.slice none 0 0) (.slice none 0 0))):=Upd.add _ _ _
 have r2:(m1.add (qk false (.slice none 0 0) (.slice none 0 0) (.slice none 0 0))).get m1.next=some (qk false (.slice none 0 0) (.slice none 0 0) (.slice none 0 0)):=Mem.qh ..
 have n2:(m1.add (qk false (.slice none 0 0) (.slice none 0 0) (.slice none 0 0))).next=m1.next+1:=rfl
 have g2:=qA u2 (by omega) g1
 generalize (m1.add (qk false (.slice none 0 0) (.slice none 0 0) (.slice none 0 0)))=m2 at u2 r2 n2 g2
 refine jJ (c:=[.bool false,.slice none 0 0,.slice none 0 0,.slice none 0 0]) rfl rfl rfl fun m3 o3 u3 n3=>?_
 have g3:=qA u3 (by omega) g2
 have r3:=qA u3 (by omega) r2
 have u03:=(u1.qz u2).qz u3
 simp -implicitDefEqProofs only [st0,qb,reduceIte,fa,zl g3 (o:=0+3) rfl,zv a3]
 have hlt:∀ {α:Type} {E:Enc α} {x:Value} {xs:List α},RSl lo E m x xs→∀ b∈qf x,b<m3.next∧b≠m2.next:=fun hr b hb=>by have:=(hr.2 b hb).2; omega
 refine (qaT (lo:=lo) (n:=n) (nb:=m.next) (rb:=m1.next) (ob:=m2.next) (k:=k) (m0:=m3) hps (by omega) hkl hf ⟨⟨by omega,by omega⟩,⟨by omega,by omega⟩,hlt a2,hlt a3,hlt hv⟩ ⟨g3,r3,a2.qx u03,a3.qx u03,hv.qx u03⟩ _ 0 m3 _ _ rfl (by omega) (by simp [wK,wI]) ⟨o3,TAp.nil _,TAp.nil _,fun b hb=>by simp [qf] at hb,fun b hb=>by simp [qf] at hb,fun b hb=>by simp [qf] at hb,n3,Upd.refl _ _⟩).mono fun r m' ⟨t,u⟩=>⟨t.low (by omega),u03.then' u (fun b hb=>.inr (by simp at hb; omega))⟩
end Go.Fx.Tryz
namespace Go.Fx.Tryz
open Go Go.Fx
section
variable {x:Wx} {m:Mem}
theorem qgT {lo:Nat} (h:XR x m) (he:x.err=0) {p:Nat} {vp:Value} (hv:RSl lo xg m vp [([],p)]):Call S tab 90 [x.v,vp] m=some (.int .i64 (p:Int),m):=by
 refine W_eq ?_
 have e1:=xok h
 rw [decide_eq_true he] at e1
 have e2:qj vp=some (.int .i64 1):=hv.1.len
 have d1:decide ((1:Int)=0)=false:=rfl
 have d2:decide ((1:Int)=1)=true:=rfl
 obtain ⟨b,off,h1,h2⟩:=hv.1.at .i64 (i:=0) (a:=([],p)) rfl
 rw [yJ] at h1
 have h1':qq 2 vp (.int .i64 0)=some (.pointer (some ⟨b,off,none⟩)):=h1
 have h3:=(h2 m hv.1).2 1 (.int .i64 (p:Int)) rfl
 rw [C90]
 simp -implicitDefEqProofs only [st0,qb,reduceIte,e1,e2,d1,d2,h1',fa,h3]
 exact ⟨trivial,trivial⟩
theorem qgS {lo:Nat} (h:XR x m) (he:x.err=0) {p q:Nat} {key:Bs} {vp:Value} (hv:RSl lo xg m vp [([],p),(key,q)]) (hvx:∀ b∈qf vp,b≠x.o.w∧b≠x.o.pm∧b≠x.xb) (hr:qT (Nd.nd [key] [p,q])=true) (hs:zt (Nd.nd [key] [p,q])≤256) :
  W (Call S tab 90 [x.v,vp] m) fun r m'=>(XR { x with err:=8 } m'∧Upd [x.xb] m m') ∨
   ∃ n c1 c2,1≤n∧n<x.o.P∧xX x.o.u n=false∧r=.int .i64 (n:Int)∧XR { x with o:={ x.o with u:=xx x.o.u n,L:=upL (upL x.o.L n (qp 256) c1) n (xv (Nd.nd [key] [p,q])) c2 } } m'∧Upd [x.o.w,x.o.pm,x.xb] m m':=by
 have w1:=h.wr.lw; have w2:=h.wr.lm; have w3:=h.wr.lc; have w4:=h.wr.lp; have w5:=h.lx
 have e1:=xok h
 rw [decide_eq_true he] at e1
 have e2:qj vp=some (.int .i64 2):=hv.1.len
 have d1:decide ((2:Int)=0)=false:=rfl
 have d2:decide ((2:Int)=1)=false:=rfl
 obtain ⟨b,off,h1,h2⟩:=hv.1.at .i64 (i:=0) (a:=([],p)) rfl
 obtain ⟨b',off',h1b,h2b⟩:=hv.1.at .i64 (i:=1) (a:=(key,q)) rfl
 rw [yJ] at h1 h1b
 have i0:qq 2 vp (.int .i64 0)=some (.pointer (some ⟨b,off,none⟩)):=h1
 have i1:qq 2 vp (.int .i64 1)=some (.pointer (some ⟨b',off',none⟩)):=h1b
 have l0:∀ {M:Mem},RSl lo xg M vp [([],p),(key,q)]→qc (.pointer (some ⟨b,off+1,none⟩)) M=some (.int .i64 (p:Int)):=fun hM=>(h2 _ hM.1).2 1 _ rfl
 have l1:∀ {M:Mem},RSl lo xg M vp [([],p),(key,q)]→qc (.pointer (some ⟨b',off'+0,none⟩)) M=some (str key)∧qc (.pointer (some ⟨b',off'+1,none⟩)) M=some (.int .i64 (q:Int)):=fun hM=>⟨(h2b _ hM.1).2 0 _ rfl,(h2b _ hM.1).2 1 _ rfl⟩
 rw [C90]
 simp -implicitDefEqProofs only [st0,qb,reduceIte,e1,e2,d1,d2]
 have rest:∀ {m1:Mem} {pg:Value},m.next≤m1.next→RSl lo xg m1 vp [([],p),(key,q)]→∀ {Q:Value→Mem→Prop},(∀ {m4:Mem} {v:Value},TN m1.next m4 v (Nd.nd [key] [p,q])→Upd [] m1 m4→RSl lo xg m4 vp [([],p),(key,q)]→W (Call S tab 93 [x.v,pg,v] m4) fun r m5=>RSl lo xg m5 vp [([],p),(key,q)]∧Q pg m5) →
   W ((qq 2 vp (.int .i64 1)).bind fun v15=>(qa 0 v15).bind fun v16=>(qc v16 (m1.xE 18)).bind fun v17=>(qy [(.string ⟨#[]⟩)] [(0,1,v17)]).bind fun c18=>nws (m1.xE 18) ⟨.cells c18 9,false,none⟩ 1 fun v19 m20=>(qq 2 vp (.int .i64 0)).bind fun v21=>(qa 1 v21).bind fun v22=>(qc v22 m20).bind fun v23=>(qq 2 vp (.int .i64 1)).bind fun v24=>(qa 1 v24).bind fun v25=>(qc v25 m20).bind fun v26=>(qy [(.int .i64 0),(.int .i64 0)] [(0,1,v23),(1,1,v26)]).bind fun c27=>WD (m1.next+15) m20 ⟨.cells c27 3,false,none⟩ (some 2) fun v28 m29=>(qy [(.bool .false),(.slice none 0 0),(.slice none 0 0),(.slice none 0 0)] [(2,1,v19),(3,1,v28)]).bind fun c30=>(Call S tab 93 [x.v,pg,(.agg c30.toArray)] m29).bind fun p31=>chk [(m1.xE 18),m20,m29,p31.2] [(.load1 v16,v17,0,0),(.load1 v22,v23,0,1),(.load1 v25,v26,0,1)] (some (pg,p31.2))) Q:=by
  intro m1 pg hm1 hv1 Q hw
  have ub:Upd [] m1 (m1.xE 18):=Upd.xE _ _ _
  have nb:(m1.xE 18).next=m1.next+18:=rfl
  have hv2:=hv1.qx ub
  have e4:qy [.int .i64 0,.int .i64 0] [(0,1,.int .i64 (p:Int)),(1,1,.int .i64 (q:Int))]=some (xd.flat [p,q]):=by kernel_rfl
  simp -implicitDefEqProofs only [st0,qb,reduceIte,i0,i1,fa,(l1 hv2).1,WU]
  generalize m1.xE 18=m2 at ub nb hv2
  have u3:Upd [] m2 (m2.add ⟨.cells (encS.flat [key]) 9,false,none⟩):=Upd.add _ _ _
  have t3:TAp encS 9 (m2.add ⟨.cells (encS.flat [key]) 9,false,none⟩) (.slice (some ⟨m2.next,0,none⟩) [key].length [key].length) [key]:=TAp.fresh m2 _
  have n3:(m2.add ⟨.cells (encS.flat [key]) 9,false,none⟩).next=m2.next+1:=rfl
  have hv3:=hv2.qx u3
  simp -implicitDefEqProofs only [st0,qb,reduceIte,i0,i1,fa,l0 hv3,(l1 hv3).2,e4]
  generalize (m2.add ⟨.cells (encS.flat [key]) 9,false,none⟩)=m3 at u3 t3 n3 hv3
  have u4:Upd [m1.next+15] m3 (m3.put (m1.next+15) ⟨.cells (xd.flat [p,q]) 3,false,none⟩):=Upd.put _ _ (by simp)
  have t4:TAp xd 3 (m3.put (m1.next+15) ⟨.cells (xd.flat [p,q]) 3,false,none⟩) (.slice (some ⟨m1.next+15,0,none⟩) 2 2) [p,q]:=.inr ⟨m1.next+15,2,[],none,rfl,by show m1.next+15<m3.next; omega,by rw [List.append_nil]; exact Mem.qi ..,.inl rfl,rfl,Nat.le_refl _⟩
  have u14:Upd [] m1 (m3.put (m1.next+15) ⟨.cells (xd.flat [p,q]) 3,false,none⟩):=(ub.qz u3).then' u4 (fun b hb=>.inr (by simp at hb; omega))
  have hv4:=hv1.qx u14
  have t34:=t3.upd u4 (fun b hb hm=>by simp [qf] at hb hm; omega)
  have e5:=Hi (.slice (some ⟨m2.next,0,none⟩) 1 1) (.slice (some ⟨m1.next+15,0,none⟩) 2 2) rfl rfl
  simp -implicitDefEqProofs only [st0,qb,reduceIte,e5]
  have hT:TN m1.next (m3.put (m1.next+15) ⟨.cells (xd.flat [p,q]) 3,false,none⟩) (yv false (.slice none 0 0) (.slice (some ⟨m2.next,0,none⟩) 1 1) (.slice (some ⟨m1.next+15,0,none⟩) 2 2)) (Nd.nd [key] [p,q]) :=
   ⟨_,_,_,rfl,RSl.nil _ _ _,t34.rsl (fun b hb=>by simp [qf] at hb; omega),t4.rsl (fun b hb=>by simp [qf] at hb; omega)⟩
  generalize (m3.put (m1.next+15) ⟨.cells (xd.flat [p,q]) 3,false,none⟩)=m4 at hT u14 hv4
  refine qo.2 ((hw hT u14 hv4).mono fun r m5 ⟨hv5,hq⟩=>?_)
  refine kJ (fun r hr=>?_) (zs.2 hq)
  simp only [List.mem_cons,List.not_mem_nil,or_false] at hr
  rcases hr with rfl|rfl|rfl
  ·exact okR fun k _ hk=>by
    obtain rfl:k=0:=by omega
    exact ⟨_,rfl,(l1 hv2).1⟩
  ·exact okR fun k _ hk=>by
    have:k=0∨k=1:=by omega
    rcases this with rfl|rfl
    ·exact ⟨_,rfl,l0 hv2⟩
    ·exact ⟨_,rfl,l0 hv3⟩
  ·exact okR fun k _ hk=>by
    have:k=0∨k=1:=by omega
    rcases this with rfl|rfl
    ·exact ⟨_,rfl,(l1 hv2).2⟩
    ·exact ⟨_,rfl,(l1 hv3).2⟩
 refine qo.2 ((qcs h he).mono fun v1 m1 hc=>?_)
 rcases hc with ⟨rfl,h8,u8⟩|⟨n,c,y1,y2,y3,rfl,h8,u8⟩
 ·have x8:=u8.next
  have hv8:=hv.jB u8 (fun b hb hm=>by simp at hm; exact (hvx b hb).2.2 hm)
  refine rest x8 hv8 fun {m4 v} hT u hv4=>?_
  have h9:=h8.qx u
  refine (ZD h9 (by show (8:Nat)≠0; omega) _ hT hr hs).mono fun r m5 ⟨_,u5⟩=>⟨hv4.qx u5,.inl ⟨h9.qx u5,(u8.qz u).qz u5⟩⟩
 ·have x8:=u8.next
  have hv8:=hv.jB u8 (fun b hb hm=>by
   have:=hvx b hb
   simp only [List.mem_cons,List.not_mem_nil,or_false] at hm
   rcases hm with e|e|e
   ·exact this.1 e
   ·exact this.2.1 e
   ·exact this.2.2 e)
  have hP:=h.wr.hP
  have hu20:=h.wr.hu
  have hb1:∀ k,xX (xx x.o.u n) k=(xX x.o.u k ^^ decide (k=n)):=ZV x.o.u (by omega)
  have hhq:Wo.has { x.o with u:=xx x.o.u n,L:=upL x.o.L n (qp 256) c } n=true:=by
   unfold Wo.has
   simp only [hb1,y3]
   simp [y1,y2]
  refine rest x8 hv8 fun {m4 v} hT u hv4=>?_
  refine (ZQ (h8.qx u) he (by omega) hT hhq hr hs).mono fun r m5 ⟨_,⟨c2,h5⟩,u5⟩=>⟨hv4.jB u5 (fun b hb hm=>?_),.inr ⟨n,c,c2,y1,y2,y3,rfl,h5,?_⟩⟩
  ·have:=hvx b hb
   simp only [List.mem_cons,List.not_mem_nil,or_false] at hm
   rcases hm with e|e
   ·exact this.2.1 e
   ·exact this.2.2 e
  ·exact (u8.qz u).trans (u5.mono (fun b hb _=>List.mem_cons.2 (.inr hb)))
end
end Go.Fx.Tryz
namespace Go.Fx.Tryz
open Go Go.Fx
structure Pn (s:Nat→Option Bs) (p:Nat) (n:Nd):Prop where
 pg:s p=some (xv n)
 rt:qT n=true
 sz:zt n≤256
def inR (lo:Bs) (hi:Option Bs) (k:Bs):Prop:=ltB k lo=false∧∀ h,hi=some h→ltB k h=true
abbrev TP:=Nat→Bs→Option Bs→List Pr→List Nat→Prop
def inK (lo:Bs) (hi:Option Bs) (k:Bs):Prop:=ltB lo k=true∧∀ h,hi=some h→ltB k h=true
def Fo (R:TP):Bs→Option Bs→List Bs→List Nat→List Pr→List Nat→Prop
 | lo,hi,[],[p],l,S=>R p lo hi l S
 | lo,hi,k::ks,p::ps,l,S=>∃ l1 S1 l2 S2,R p lo (some k) l1 S1∧Fo R k hi ks ps l2 S2∧l=l1++l2∧S=S1++S2
 | _,_,_,_,_,_=>False
def Nl (R:Option TP) (n:Nd) (lo:Bs) (hi:Option Bs) (l:List Pr) (S:List Nat):Prop :=
 match R with
 | none=>n=Nd.lf l∧(∀ x∈l,inR lo hi x.1)∧S=[]
 | some R=>∃ ks ps,n=Nd.nd ks ps∧(∀ k∈ks,inK lo hi k)∧Fo R lo hi ks ps l S
def neN (n:Nd):Prop:=if n.leaf then n.pairs≠[] else n.keys≠[]
def Tp (s:Nat→Option Bs) (R:Option TP):TP:=fun p lo hi l S=>∃ n S',Pn s p n∧neN n∧Nl R n lo hi l S'∧S=p::S'
def Tr (s:Nat→Option Bs):Nat→TP
 | 0=>Tp s none
 | h+1=>Tp s (some (Tr s h))
def lower (s:Nat→Option Bs):Nat→Option TP
 | 0=>none
 | h+1=>some (Tr s h)
theorem Tr_eq (s:Nat→Option Bs) (h:Nat):Tr s h=Tp s (lower s h):=by cases h<;>rfl
abbrev Nt (s:Nat→Option Bs) (h:Nat):Nd→Bs→Option Bs→List Pr→List Nat→Prop:=Nl (lower s h)
def Tw (s:Nat→Option Bs) (h:Nat):TP:=fun p lo hi l S=>∃ n S',Pn s p n∧Nt s h n lo hi l S'∧S=p::S'
theorem VH {R R':TP}:∀ (ks:List Bs) (ps:List Nat) (lo:Bs) (hi:Option Bs) (l:List Pr) (S:List Nat),(∀ p lo hi l T,(∀ q∈T,q∈S)→R p lo hi l T→R' p lo hi l T)→Fo R lo hi ks ps l S→Fo R' lo hi ks ps l S
 | [],[p],lo,hi,l,S,h,hf=>h _ _ _ _ _ (fun q hq=>hq) hf
 | k::ks,p::ps,lo,hi,l,S,h,⟨l1,S1,l2,S2,h1,h2,h3,h4⟩=>by
  subst h4
  exact ⟨l1,S1,l2,S2,h _ _ _ _ _ (fun q hq=>List.mem_append.2 (.inl hq)) h1,VH ks ps _ _ _ _ (fun p lo hi l T hT hr=>h p lo hi l T (fun q hq=>List.mem_append.2 (.inr (hT q hq))) hr) h2,h3,rfl⟩
 | [],[],_,_,_,_,_,hf=>hf.elim
 | [],_::_::_,_,_,_,_,_,hf=>hf.elim
 | _::_,[],_,_,_,_,_,hf=>hf.elim
theorem qaO {R R':TP} {n:Nd} {lo:Bs} {hi:Option Bs} {l:List Pr} {S:List Nat} (h:∀ p lo hi l T,(∀ q∈T,q∈S)→R p lo hi l T→R' p lo hi l T) (hn:Nl (some R) n lo hi l S):Nl (some R') n lo hi l S:=by
 obtain ⟨ks,ps,e,hk,hf⟩:=hn
 exact ⟨ks,ps,e,hk,VH ks ps _ _ _ _ h hf⟩
theorem kY {s s':Nat→Option Bs}:∀ (h:Nat) (p:Nat) (lo:Bs) (hi:Option Bs) (l:List Pr) (S:List Nat),(∀ q∈S,s' q=s q)→Tr s h p lo hi l S→Tr s' h p lo hi l S
 | 0,p,lo,hi,l,S,hs,⟨n,S',⟨a,b,c⟩,h2,h3,h4⟩=>by
  subst h4
  exact ⟨n,S',⟨by rw [hs p (by simp)]; exact a,b,c⟩,h2,h3,rfl⟩
 | h+1,p,lo,hi,l,S,hs,⟨n,S',⟨a,b,c⟩,h2,h3,h4⟩=>by
  subst h4
  exact ⟨n,S',⟨by rw [hs p (by simp)]; exact a,b,c⟩,h2,qaO (fun p lo hi l T hT hr=>kY h p lo hi l T (fun q hq=>hs q (List.mem_cons.2 (.inr (hT q hq)))) hr) h3,rfl⟩
theorem Jh {s s':Nat→Option Bs} (h:Nat) {n:Nd} {lo:Bs} {hi:Option Bs} {l:List Pr} {S:List Nat} (hs:∀ q∈S,s' q=s q) (hn:Nt s h n lo hi l S):Nt s' h n lo hi l S:=by
 cases h with
 | zero=>exact hn
 | succ h=>exact qaO (fun p lo hi l T hT hr=>kY h p lo hi l T (fun q hq=>hs q (hT q hq)) hr) hn
theorem js {s:Nat→Option Bs} {h p:Nat} {lo:Bs} {hi:Option Bs} {l:List Pr} {S:List Nat}:Tr s h p lo hi l S↔∃ n S',Pn s p n∧neN n∧Nt s h n lo hi l S'∧S=p::S':=by rw [Tr_eq]; exact Iff.rfl
theorem filter_all {l:List Pr} {f:Pr→Bool} (h:∀ x∈l,f x=true):l.filter f=l:=List.filter_eq_self.2 h
theorem vS {l:List Pr} {f:Pr→Bool} (h:∀ x∈l,f x=false):l.filter f=[]:=List.filter_eq_nil_iff.2 (fun x hx=>by simp [h x hx])
theorem yn {a b c:List Pr} {key:Bs} (ha:∀ x∈a,ltB x.1 key=true) (hc:∀ x∈c,ltB x.1 key=false):zx (a++(b++c)) key=a.length+zx b key:=by
 unfold zx
 rw [List.filter_append,List.filter_append,filter_all (f:=fun p:Pr=>ltB p.1 key) ha,vS (f:=fun p:Pr=>ltB p.1 key) hc,List.length_append,List.append_nil]
theorem Qz {a b c:List Pr} {key:Bs} (ha:∀ x∈a,ltB x.1 key=true) (hc:∀ x∈c,ltB x.1 key=false∧x.1≠key):zJ (a++(b++c)) key=zJ b key:=by
 unfold zJ
 rw [yn ha (fun x hx=>(hc x hx).1),List.getElem?_append_right (by omega),Nat.add_sub_cancel_left]
 by_cases h:zx b key<b.length
 ·rw [List.getElem?_append_left h]
 ·rw [List.getElem?_append_right (by omega),List.getElem?_eq_none (l:=b) (by omega)]
  cases hx:c[zx b key - b.length]? with
  | none=>rfl
  | some x=>simp [(hc x (List.mem_of_getElem? hx)).2]
theorem qfn {a b c:List Pr} {key:Bs} (ha:∀ x∈a,ltB x.1 key=true) (hc:∀ x∈c,ltB x.1 key=false∧x.1≠key):yK (a++(b++c)) key=a++(yK b key++c):=by
 unfold yK
 rw [Qz ha hc,yn ha (fun x hx=>(hc x hx).1)]
 cases ht:zJ b key with
 | false=>rfl
 | true =>
  have:=jt ht
  simp only [if_true]
  rw [List.eraseIdx_append_of_length_le (by omega),Nat.add_sub_cancel_left,List.eraseIdx_append_of_lt_length this]
theorem HW {a b c:List Pr} {key val:Bs} (ha:∀ x∈a,ltB x.1 key=true) (hc:∀ x∈c,ltB x.1 key=false∧x.1≠key):xD (a++(b++c)) key val=a++(xD b key val++c):=by
 have hle:zx b key≤(yK b key).length:=by
  have:=yo b key
  unfold yK; split
  ·rename_i ht; have:=jt ht; rw [List.length_eraseIdx,if_pos this]; omega
  ·exact this
 unfold xD
 rw [qfn ha hc,yn ha (fun x hx=>(hc x hx).1)]
 rw [List.take_append,List.drop_append,List.take_of_length_le (by omega),List.drop_of_length_le (l:=a) (by omega),Nat.add_sub_cancel_left,List.take_append_of_le_length hle,List.drop_append_of_le_length hle]
 simp only [List.append_assoc,List.nil_append]
theorem vn {α:Type} (l:List α) (d:α) {i:Nat} (h:i<l.length):l.take i++[l.getD i d]=l.take (i+1):=by
 rw [List.take_succ_eq_append_getElem h,List.getD_eq_getElem?_getD,List.getElem?_eq_getElem h]; rfl
theorem qfB (n:Nd) (k:Nat) (ps:List Pt):∀ i,i≤k→i≤n.keys.length+1→wK n k ps i=n.keys.take (i - 1)
 | 0,_,_=>by simp [wK]
 | i+1,h,hl=>by
  rw [wJ,qfB n k ps i (by omega) (by omega),if_neg (show ¬ i=k by omega),List.append_nil]
  by_cases h0:i=0
  ·subst h0; simp
  ·rw [if_pos (by omega),vn _ _ (by omega)]; congr 1; omega
theorem qfC (n:Nd) (k:Nat) (ps:List Pt):∀ d,k+d≤n.keys.length→wK n k ps (k+1+d)=n.keys.take k++(ps.tail.map (·.1)++(n.keys.drop k).take d)
 | 0,h=>by
  rw [Nat.add_zero,wJ,qfB n k ps k (Nat.le_refl _) (by omega),if_pos rfl,List.take_zero,List.append_nil,← List.append_assoc]
  congr 1
  by_cases h0:k=0
  ·subst h0; simp
  ·rw [if_pos (by omega),vn _ _ (by omega)]; congr 1; omega
 | d+1,h=>by
  rw [← Nat.add_assoc,wJ,qfC n k ps d (by omega),if_pos (by omega),if_neg (by omega),List.append_nil,List.append_assoc,List.append_assoc]
  congr 2
  rw [← vn (n.keys.drop k) [] (by rw [List.length_drop]; omega)]
  congr 2
  rw [List.getD_eq_getElem?_getD,List.getD_eq_getElem?_getD,List.getElem?_drop]
  congr 2
  omega
theorem qfD (n:Nd) (k:Nat) (ps:List Pt):∀ i,i≤k→i≤n.kids.length→wI n k ps i=n.kids.take i
 | 0,_,_=>by simp [wI]
 | i+1,h,hl=>by rw [wL,qfD n k ps i (by omega) (by omega),if_neg (show ¬ i=k by omega),vn _ _ (by omega)]
theorem qfE (n:Nd) (k:Nat) (ps:List Pt):∀ d,k+1+d≤n.kids.length→wI n k ps (k+1+d)=n.kids.take k++(ps.map (·.2)++(n.kids.drop (k+1)).take d)
 | 0,h=>by rw [Nat.add_zero,wL,qfD n k ps k (Nat.le_refl _) (by omega),if_pos rfl,List.take_zero,List.append_nil]
 | d+1,h=>by
  rw [← Nat.add_assoc,wL,qfE n k ps d (by omega),if_neg (by omega),List.append_assoc,List.append_assoc]
  congr 2
  rw [← vn (n.kids.drop (k+1)) 0 (by rw [List.length_drop]; omega)]
  congr 2
  rw [List.getD_eq_getElem?_getD,List.getD_eq_getElem?_getD,List.getElem?_drop]
theorem withN_eq (n:Nd) (k:Nat) (ps:List Pt) (h:k<n.kids.length) (hl:n.kids.length=n.keys.length+1):wg n k ps=Nd.nd (n.keys.take k++(ps.tail.map (·.1)++n.keys.drop k)) (n.kids.take k++(ps.map (·.2)++n.kids.drop (k+1))):=by
 have h1:=qfC n k ps (n.keys.length - k) (by omega)
 have h2:=qfE n k ps (n.kids.length - (k+1)) (by omega)
 rw [show k+1+(n.keys.length - k)=n.kids.length by omega,List.take_of_length_le (l:=n.keys.drop k) (by rw [List.length_drop]; omega)] at h1
 rw [show k+1+(n.kids.length - (k+1))=n.kids.length by omega,List.take_of_length_le (l:=n.kids.drop (k+1)) (by rw [List.length_drop]; omega)] at h2
 unfold wg
 rw [h1,h2]
end Go.Fx.Tryz
