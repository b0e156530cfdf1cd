/- Parts of a proof: TreeO, TreeP, TreeQ, TreeR, TreeS, TreeT. Conditions: none. -/
import Derived.Test.YtbhdhhgpfanmcaaGreatDoorQw16
set_option linter.unusedSimpArgs false
set_option linter.unusedVariables false
namespace Go.Fx.Tryz
open Go Go.Fx
structure Wx where
 o:Wo
 xb:Nat
 rest:List Value
 t:TypeId
 err:Nat
 rd:Nat
abbrev Wx.blk (x:Wx):ABlk:=⟨.cells (.pointer (some ⟨x.o.w,0,none⟩)::.int .i64 (x.err:Int)::.int .i64 (x.rd:Int)::x.rest) x.t,false,none⟩
abbrev Wx.v (x:Wx):Value:=.pointer (some ⟨x.xb,0,none⟩)
structure XR (x:Wx) (m:Mem):Prop where
 wr:WR x.o m
 hx:m.get x.xb=some x.blk
 lx:x.xb<m.next
 ne:x.xb≠x.o.w/\x.xb≠x.o.pm/\x.xb≠x.o.c/\x.xb≠x.o.p
theorem XR.upd {x:Wx} {fp:List Nat} {m m':Mem} (h:XR x m) (hu:Upd fp m m') (hf:∀ b∈fp,b≠x.xb/\b≠x.o.w/\b≠x.o.pm/\b≠x.o.c/\b≠x.o.p):XR x m' :=
 ⟨h.wr.upd hu λb hb=>(hf b hb).2,(hu.same _ h.lx λhm=>(hf _ hm).1 rfl).trans h.hx,Nat.lt_of_lt_of_le h.lx hu.next,h.ne⟩
theorem XR.qn {x:Wx} {m m':Mem} (h:XR x m) (hu:Upd [] m m'):XR x m':=h.upd hu (λb hb=>by cases hb)
theorem XR.work {x:Wx} {m m':Mem} {o':Wo} (h:XR x m) (hr:WR o' m') (he:o'.w=x.o.w/\o'.pm=x.o.pm/\o'.c=x.o.c/\o'.p=x.o.p) {fp:List Nat} (hu:Upd fp m m') (hf:∀ b∈fp,b=x.o.w∨b=x.o.pm):XR { x with o:=o' } m':=by
 obtain ⟨e1,e2,e3,e4⟩:=he;refine ⟨hr,?_,Nat.lt_of_lt_of_le h.lx hu.next,by rw [e1,e2,e3,e4]; exact h.ne⟩;rw [hu.same _ h.lx λhm=>by
  rcases hf _ hm with e|e
  ·exact h.ne.1 e
  ·exact h.ne.2.1 e]
 show m.get x.xb=some ⟨.cells (.pointer (some ⟨o'.w,0,none⟩)::_) _,false,none⟩;rw [e1]; exact h.hx
theorem XR.put {x x':Wx} {m:Mem} (h:XR x m) (he:x'.o=x.o/\x'.xb=x.xb):XR x' (m.put x.xb x'.blk):=by
 obtain ⟨e1,e2⟩:=he;obtain ⟨n1,n2,n3,n4⟩:=h.ne;refine ⟨?_,by rw [e2]; exact Mem.qe ..,by rw [e2]; exact h.lx,by rw [e1,e2]; exact h.ne⟩;rw [e1];exact h.wr.upd (fp:=[x.xb]) (Upd.put _ _ (by simp)) (λb hb=>by simp at hb; subst hb; exact ⟨n1,n2,n3,n4⟩)
section
variable {x:Wx} {m:Mem}
theorem xld (h:XR x m):qa (.pointer (some ⟨x.xb,0+0,none⟩)) m=some (.pointer (some ⟨x.o.w,0,none⟩))/\qa (.pointer (some ⟨x.xb,0+1,none⟩)) m=some (.int .i64 (x.err:Int))/\qa (.pointer (some ⟨x.xb,0+2,none⟩)) m=some (.int .i64 (x.rd:Int)) :=
 ⟨qm h.hx rfl,qm h.hx rfl,qm h.hx rfl⟩
theorem xok (h:XR x m):Call S tab 79 [x.v] m=some (.bool (decide (x.err=0)),m):=by
 refine W_eq ?_;rw [C79];have:decide ((x.err:Int)=0)=decide (x.err=0):=by simp
 simp only [st0,nck,fa,(xld h).2.1,this];exact ⟨trivial,trivial⟩
theorem VN (h:XR x m) (he:x.err=0) (e:Nat):Call S tab 128 [x.v,.int .i64 (e:Int)] m=some (.tuple #[],m.put x.xb (Wx.blk { x with err:=e })):=by
 refine W_eq ?_;have e1:=xok h;rw [decide_eq_true he] at e1;have e2:qj 1 (.pointer (some ⟨x.xb,0+1,none⟩)) (.int .i64 (e:Int)) m=some (m.put x.xb (Wx.blk { x with err:=e })):=zF h.hx (by simp) rfl rfl;rw [qln];simp only [st0,e1,nck,fa,e2];exact ⟨trivial,trivial⟩
theorem qji (h:XR x m) (he:x.err≠0) (e:Value):Call S tab 128 [x.v,e] m=some (.tuple #[],m):=by
 refine W_eq ?_;have e1:=xok h;rw [decide_eq_false he] at e1;rw [qln];simp only [st0,e1];exact ⟨trivial,trivial⟩
theorem qjh (h:XR x m) (he:x.err=0) (hrd:x.rd<1000) {page left:Nat} (hl:1<=left) (hp:page<=65536) {n:Nd} (hh:x.o.has page=true) (hn:lkL x.o.L page=some (zC n)) (hr:qO n=true) (hs:qW n<=256) :
  W (Call S tab 117 [x.v,.int .i64 (page:Int),.int .i64 (left:Int)] m) λr m'=>TN m.next m' r n/\XR { x with rd:=x.rd+1 } m'/\Upd [x.xb] m m'/\(n.leaf=true->∃ sp,r=kT true sp (.slice none 0 0) (.slice none 0 0)):=by
 rw [qmG];have u1:Upd [] m (m.add (qg false (.slice none 0 0) (.slice none 0 0) (.slice none 0 0))):=Upd.add _ _ _;have g1:(m.add (qg false (.slice none 0 0) (.slice none 0 0) (.slice none 0 0))).get m.next=some (qg false (.slice none 0 0) (.slice none 0 0) (.slice none 0 0)):=Mem.qf ..;have n1:(m.add (qg false (.slice none 0 0) (.slice none 0 0) (.slice none 0 0))).next=m.next+1:=rfl;simp only [st0];generalize (m.add (qg false (.slice none 0 0) (.slice none 0 0) (.slice none 0 0)))=m1 at u1 g1 n1;have h1:=h.qn u1;have lx:=h.lx;have e1:qj 1 (.pointer (some ⟨x.xb,0+2,none⟩)) (.int .i64 ((x.rd+1:Nat):Int)) m1=some (m1.put x.xb (Wx.blk { x with rd:=x.rd+1 })):=zF h1.hx (by simp) rfl rfl;have h2:XR { x with rd:=x.rd+1 } (m1.put x.xb (Wx.blk { x with rd:=x.rd+1 })):=h1.put ⟨rfl,rfl⟩;have u2:Upd [x.xb] m (m1.put x.xb (Wx.blk { x with rd:=x.rd+1 })):=(u1.mono (λb hb _=>by cases hb)).trans (Upd.put _ _ (by simp))
 have g2:(m1.put x.xb (Wx.blk { x with rd:=x.rd+1 })).get m.next=_:=(Mem.qs m1 _ (by omega)).trans g1;have n2:(m1.put x.xb (Wx.blk { x with rd:=x.rd+1 })).next=m1.next:=rfl;have e2:((left:Int)=0)=False:=eq_false (by omega);have e3:((1000:Int)<((x.rd+1:Nat):Int))=False:=eq_false (by omega);simp only [st0,nck,fa,(xld h1).2.2,qB (i:=x.rd) (by omega),e1];generalize (m1.put x.xb (Wx.blk { x with rd:=x.rd+1 }))=m2 at h2 u2 g2 n2;have e4:=(xld h2).2.2;simp only [st0,nck,fa,e2,e4,e3];rw [P117_0_eq];have e5:=xok h2;rw [decide_eq_true (show ({ x with rd:=x.rd+1 }:Wx).err=0 from he)] at e5;have e6:=qer h2.wr hp hh hn;have e7:=VN h2 he 0;rw [show (Value.int .i64 ((0:Nat):Int))=.int .i64 0 from rfl] at e7;have h3:XR { x with rd:=x.rd+1 } (m2.put x.xb (Wx.blk { { x with rd:=x.rd+1 } with err:=0 })):=by
  have:=h2.put (x':={ x with rd:=x.rd+1,err:=0 }) ⟨rfl,rfl⟩;have e:({ x with rd:=x.rd+1,err:=0 }:Wx)={ x with rd:=x.rd+1 }:=by rw [<- he]
  rw [e] at this;rw [e];exact this
 simp only [st0,e5,nck,fa,(xld h2).1,e6,xt0,xt1,e7];have u3:Upd [x.xb] m2 (m2.put x.xb (Wx.blk { { x with rd:=x.rd+1 } with err:=0 })):=Upd.put _ _ (by simp);have g3:(m2.put x.xb (Wx.blk { { x with rd:=x.rd+1 } with err:=0 })).get m.next=_:=(Mem.qs m2 _ (by omega)).trans g2;have n3:(m2.put x.xb (Wx.blk { { x with rd:=x.rd+1 } with err:=0 })).next=m2.next:=rfl;generalize (m2.put x.xb (Wx.blk { { x with rd:=x.rd+1 } with err:=0 }))=m3 at h3 u3 g3 n3;have e8:=xok h3;rw [decide_eq_true (show ({ x with rd:=x.rd+1 }:Wx).err=0 from he)] at e8;simp only [st0,e8];refine qh.2 ((qfh m3 hr hs).mono λv4 m4 ⟨⟨v,r4,t4,xl⟩,u4⟩=>?_);subst r4;obtain ⟨sp,sk,si,rfl,q1,q2,q3⟩:=t4.ex;have n4:=u4.next;have h4:=h3.qn u4;have g4:=qq u4 (by omega) g3;have u04:Upd [x.xb] m m4:=(u2.trans u3).qu u4;simp only [st0,xt0,xt1];refine jf (c:=[.bool n.leaf,sp,sk,si]) rfl rfl (by simp [q1.one.2,q2.one.2,q3.one.2,show (Value.bool n.leaf).oneCell'=true from rfl]) λm5 b5 u5 n5=>?_
 have h5:=h4.qn u5;have g5:=qq u5 (by omega) g4;have e9:=VN h5 he 0;rw [show (Value.int .i64 ((0:Nat):Int))=.int .i64 0 from rfl] at e9;simp only [st0,e9];have h6:XR { x with rd:=x.rd+1 } (m5.put x.xb (Wx.blk { { x with rd:=x.rd+1 } with err:=0 })):=by
  have:=h5.put (x':={ x with rd:=x.rd+1,err:=0 }) ⟨rfl,rfl⟩;have e:({ x with rd:=x.rd+1,err:=0 }:Wx)={ x with rd:=x.rd+1 }:=by rw [<- he]
  rw [e] at this;rw [e];exact this
 have u6:Upd [x.xb] m5 (m5.put x.xb (Wx.blk { { x with rd:=x.rd+1 } with err:=0 })):=Upd.put _ _ (by simp);have g6:(m5.put x.xb (Wx.blk { { x with rd:=x.rd+1 } with err:=0 })).get m.next=_:=(Mem.qs m5 _ (by omega)).trans g5;have b6:(m5.put x.xb (Wx.blk { { x with rd:=x.rd+1 } with err:=0 })).get m4.next=_:=(Mem.qs m5 _ (by omega)).trans b5;generalize (m5.put x.xb (Wx.blk { { x with rd:=x.rd+1 } with err:=0 }))=m6 at h6 u6 g6 b6;have e10:=xok h6;rw [decide_eq_true (show ({ x with rd:=x.rd+1 }:Wx).err=0 from he)] at e10;simp only [st0,e10,qD b6,qX g6 n.leaf q1.one.2 q2.one.2 q3.one.2,qD (Mem.qe m6 m.next _)];have n6:=u6.next;have uo:Upd [m.next] m6 (m6.put m.next (qg n.leaf sp sk si)):=Upd.put _ _ (by simp);have l5:=(t4.low (lo':=m1.next) (by omega)).qn u5;refine ⟨((l5.upd u6 (λb hb=>by simp at hb; omega)).upd uo (λb hb=>by simp at hb; omega)).low (by omega),h6.upd uo (λb hb=>?_),(((u04.qu u5).trans u6).ki _ (.inr (Nat.le_refl _))),xl⟩;simp at hb; subst hb;have w1:=h.wr.lw; have w2:=h.wr.lm; have w3:=h.wr.lc; have w4:=h.wr.lp;exact ⟨by show m.next≠x.xb; omega,by show m.next≠x.o.w; omega,by show m.next≠x.o.pm; omega,by show m.next≠x.o.c; omega,by show m.next≠x.o.p; omega⟩
theorem wT (h:XR x m) (he:x.err=0) (hrd:x.rd<1000) {page left:Nat} (hl:1<=left) (hp:page<=65536) {n:Nd} (hh:x.o.has page=true) (hn:lkL x.o.L page=some (zC n)) (hr:qO n=true) (hs:qW n<=256) :
  W (Call S tab 117 [x.v,.int .i64 (page:Int),.int .i64 (left:Int)] m) λr m'=>TN m.next m' r n/\XR { x with rd:=x.rd+1 } m'/\Upd [x.xb] m m' :=
 (qjh h he hrd hl hp hh hn hr hs).mono λ_ _ ⟨a,b,c,_⟩=>⟨a,b,c⟩
theorem XR.Xj (h:XR x m) (he:x.err=0):Call S tab 128 [x.v,.int .i64 0] m=some (.tuple #[],m.put x.xb x.blk)/\XR x (m.put x.xb x.blk)/\Upd [x.xb] m (m.put x.xb x.blk):=by
 have e:=VN h he 0;have e':({ x with err:=0 }:Wx)=x:=by rw [<- he]
 rw [e'] at e;exact ⟨e,h.put ⟨rfl,rfl⟩,Upd.put _ _ (by simp)⟩
theorem wY {lo:Nat} (h:XR x m) (he:x.err=0) {page:Nat} (hp:page<=65536) {n:Nd} {v:Value} (ht:TN lo m v n) (hh:x.o.has page=true) (hr:qO n=true) (hs:qW n<=256) :
  W (Call S tab 93 [x.v,.int .i64 (page:Int),v] m) λr m'=>r=.tuple #[]/\(∃ c,XR { x with o:={ x.o with L:=upL x.o.L page (zC n) c } } m')/\Upd [x.o.pm,x.xb] m m':=by
 obtain ⟨sp,sk,si,rfl,q1,q2,q3⟩:=ht.ex;have hfew:=vW hr hs;rw [C93];simp only [st0,qS];have u1:Upd [] m (m.add (qg n.leaf sp sk si)):=Upd.add _ _ _;have g1:(m.add (qg n.leaf sp sk si)).get m.next=some (qg n.leaf sp sk si):=Mem.qf ..;generalize (m.add (qg n.leaf sp sk si))=m1 at u1 g1;have h1:=h.qn u1;simp only [st0,qD g1];refine qh.2 ((Vh (ht.qn u1) hr (by omega) (by omega)).mono λv2 m2 ⟨r2,u2⟩=>?_);rw [if_pos hs] at r2;subst r2;have h2:=h1.qn u2;obtain ⟨e3,h3,u3⟩:=h2.Xj he;have e4:=xok h3;rw [decide_eq_true he] at e4;obtain ⟨m4,c,e5,r4,u4⟩:=qcV h3.wr hp hh (zC n) (Zn hr hs);have h4:=h3.work r4 ⟨rfl,rfl,rfl,rfl⟩ u4 (λb hb=>.inr (by simpa using hb));obtain ⟨e6,h6,u6⟩:=h4.Xj he;have e6':Call S tab 128 [x.v,.int .i64 0] m4=_:=e6;simp only [st0,xt0,xt1,e3,e4,nck,fa,(xld h3).1,e5,e6'];refine ⟨trivial,⟨c,h6⟩,?_⟩;refine ((((u1.mono (λb hb _=>by cases hb)).qu u2).trans (u3.mono (λb hb _=>?_))).trans (u4.mono (λb hb _=>?_))).trans (u6.mono (λb hb _=>?_))
 ·simp at hb; simp [hb]
 ·simp at hb; simp [hb]
 ·simp at hb; simp [hb]
theorem XC {lo:Nat} (h:XR x m) (he:x.err≠0) (page:Value) {n:Nd} {v:Value} (ht:TN lo m v n) (hr:qO n=true) (hs:qW n<=256) :
  W (Call S tab 93 [x.v,page,v] m) λr m'=>r=.tuple #[]/\Upd [] m m':=by
 obtain ⟨sp,sk,si,rfl,q1,q2,q3⟩:=ht.ex;have hfew:=vW hr hs;rw [C93];simp only [st0,qS];have u1:Upd [] m (m.add (qg n.leaf sp sk si)):=Upd.add _ _ _;have g1:(m.add (qg n.leaf sp sk si)).get m.next=some (qg n.leaf sp sk si):=Mem.qf ..;generalize (m.add (qg n.leaf sp sk si))=m1 at u1 g1;have h1:=h.qn u1;simp only [st0,qD g1];refine qh.2 ((Vh (ht.qn u1) hr (by omega) (by omega)).mono λv2 m2 ⟨r2,u2⟩=>?_);rw [if_pos hs] at r2;subst r2;have h2:=h1.qn u2;have e4:=xok h2;rw [decide_eq_false he] at e4;simp only [st0,xt0,xt1,qji h2 he,e4];exact ⟨trivial,u1.qu u2⟩
theorem qeo (h:XR x m) (he:x.err=0):W (Call S tab 92 [x.v] m) λr m' =>
  (r=.int .i64 0/\XR { x with err:=8 } m'/\Upd [x.xb] m m')∨∃ n c,1<=n/\n<x.o.P/\jn x.o.u n=false/\r=.int .i64 (n:Int)/\XR { x with o:={ x.o with u:=xg x.o.u n,L:=upL x.o.L n (qp 256) c } } m'/\Upd [x.o.w,x.o.pm,x.xb] m m':=by
 have e1:=xok h;rw [decide_eq_true he] at e1;rw [C92];simp only [st0,e1,nck,fa,(xld h).1];refine qh.2 ((qhu h.wr).mono λr m1 hc=>?_);rcases hc with ⟨rfl,rfl⟩|⟨n,c,n1,n2,n3,rfl,r1,u1⟩
 ·have e2:=VN h he 8;rw [show (Value.int .i64 ((8:Nat):Int))=.int .i64 8 from rfl] at e2;simp only [st0,xt0,xt1,e2];exact .inl ⟨trivial,h.put (x':={ x with err:=8 }) ⟨rfl,rfl⟩,Upd.put _ _ (by simp)⟩
 ·have h1:=h.work r1 ⟨rfl,rfl,rfl,rfl⟩ u1 (λb hb=>by simpa using hb);obtain ⟨e2,h2,u2⟩:=h1.Xj he;have e2':Call S tab 128 [x.v,.int .i64 0] m1=_:=e2;simp only [st0,xt0,xt1,e2'];refine .inr ⟨n,c,n1,n2,n3,rfl,h2,(u1.mono (λb hb _=>?_)).trans (u2.mono (λb hb _=>?_))⟩
  ·simp at hb ⊢; omega
  ·simp at hb; simp [hb]
theorem qeq (h:XR x m) (he:x.err=0) {n:Nat} (hn:n<=65536) (hh:x.o.has n=true):W (Call S tab 167 [x.v,.int .i64 (n:Int)] m) λr m' =>
  r=.tuple #[]/\XR { x with o:={ x.o with u:=xg x.o.u n } } m'/\Upd [x.o.w,x.xb] m m':=by
 have e1:=xok h;rw [decide_eq_true he] at e1;obtain ⟨m1,e2,r1,u1⟩:=qet h.wr hn hh;have h1:=h.work r1 ⟨rfl,rfl,rfl,rfl⟩ u1 (λb hb=>.inl (by simpa using hb));obtain ⟨e3,h2,u2⟩:=h1.Xj he;have e3':Call S tab 128 [x.v,.int .i64 0] m1=_:=e3;rw [qml];simp only [st0,e1,nck,fa,(xld h).1,e2,e3'];refine ⟨trivial,h2,(u1.mono (λb hb _=>?_)).trans (u2.mono (λb hb _=>?_))⟩
 ·simp at hb; simp [hb]
 ·simp at hb; simp [hb]
end
end Go.Fx.Tryz
namespace Go.Fx.Tryz
open Go Go.Fx
def Qa (n:Nd):Bool:=decide (qW n<90)||(n.leaf&&n.pairs.isEmpty)||(!n.leaf&&n.keys.isEmpty)
def zQ:Enc (Bs × Nat):=⟨2,λp=>[str p.1,.int .i64 (p.2:Int)],λ_=>rfl,λ_=>rfl⟩
theorem Qr:zQ.size=2:=rfl
theorem qhM {lo:Nat} {v:Value} {n:Nd} {m:Mem} (h:TN lo m v n) (hf:n.Fit):W (Call S tab 199 [v] m) λr m'=>r=.bool (Qa n)/\Upd [] m m':=by
 have hn:=h;obtain ⟨sp,sk,si,rfl,h1,h2,h3⟩:=h.ex;rw [qlY];simp only [st0,qS];have u1:Upd [] m (m.add (qg n.leaf sp sk si)):=Upd.add _ _ _;have g1:(m.add (qg n.leaf sp sk si)).get m.next=some (qg n.leaf sp sk si):=Mem.qf ..;have n1:(m.add (qg n.leaf sp sk si)).next=m.next+1:=rfl;generalize (m.add (qg n.leaf sp sk si))=m1 at u1 g1 n1;simp only [st0,qD g1];refine qh.2 ((XE (hn.qn u1) hf).mono λv2 m2 ⟨r2,u2⟩=>?_);subst r2;have g2:=qq u2 (by omega) g1;have u02:=u1.qu u2;have ep:decide ((n.pairs.length:Int)=0)=n.pairs.isEmpty:=by cases n.pairs<;>simp; omega
 have ek:decide ((n.keys.length:Int)=0)=n.keys.isEmpty:=by cases n.keys<;>simp; omega
 unfold Qa;by_cases hs:qW n<90
 ·have e1:(((qW n:Nat):Int)<90)=True:=eq_true (by omega);simp only [st0,e1,decide_eq_true hs,Bool.true_or];exact ⟨trivial,u02⟩
 ·have e1:(((qW n:Nat):Int)<90)=False:=eq_false (by omega);cases hl:n.leaf with
  | true =>
   rw [hl] at g2;cases hp:n.pairs.isEmpty<;>rw [hp] at ep<;>simp only [st0,e1,fa,qF g2 (o:=0+0) rfl,qF g2 (o:=0+1) rfl,zf h1,decide_eq_false hs,Bool.false_or,ep,Bool.true_and,Bool.false_and,Bool.or_false,Bool.true_or]<;>exact ⟨trivial,u02⟩
  | false =>
   rw [hl] at g2;cases hp:n.keys.isEmpty<;>rw [hp] at ek<;>simp only [st0,e1,fa,qF g2 (o:=0+0) rfl,qF g2 (o:=0+2) rfl,zf h2,decide_eq_false hs,Bool.false_or,ek,Bool.true_and,Bool.false_and,Bool.or_false,Bool.true_or]<;>exact ⟨trivial,u02⟩
section
variable {x:Wx} {m:Mem}
theorem Qp (a:Bs) (k:Nat):qt [.string ⟨#[]⟩,.int .i64 0] [(0,1,str a),(1,1,.int .i64 (k:Int))]=some [str a,.int .i64 (k:Int)]:=by kernel_rfl
theorem qls {lo:Nat} (h:XR x m) (he:x.err=0) {page:Nat} (hp:page<=65536) {n:Nd} {v:Value} (ht:TN lo m v n) (hf:n.Fit) (hh:x.o.has page=true) (hr:qO n=true)
  (hs:¬ qW n<=256->(if n.leaf then 2<=n.pairs.length else 3<=n.keys.length/\n.kids.length=n.keys.length+1)/\qO (qz n).1=true/\qW (qz n).1<=256/\qO (qz n).2.1=true/\qW (qz n).2.1<=256) :
  W (Call S tab 125 [x.v,.int .i64 (page:Int),v] m) λr m' =>
   (qW n<=256/\RSl m.next zQ m' r [([],page)]/\(∃ c,XR { x with o:={ x.o with L:=upL x.o.L page (zC n) c } } m')/\Upd [x.o.pm,x.xb] m m') ∨
   (¬ qW n<=256/\XR { x with err:=8 } m'/\Upd [x.xb] m m') ∨
   (¬ qW n<=256/\∃ q c1 c2 c3,1<=q/\q<x.o.P/\jn x.o.u q=false/\RSl m.next zQ m' r [([],page),((qz n).2.2,q)]/\XR { x with o:={ x.o with u:=xg x.o.u q,L:=upL (upL (upL x.o.L q (qp 256) c1) page (zC (qz n).1) c2) q (zC (qz n).2.1) c3 } } m'/\Upd [x.o.w,x.o.pm,x.xb] m m'):=by
 have hn:=ht;obtain ⟨sp,sk,si,rfl,q1,q2,q3⟩:=ht.ex;have w1:=h.wr.lw; have w2:=h.wr.lm; have w3:=h.wr.lc; have w4:=h.wr.lp; have w5:=h.lx;rw [qmz];simp only [st0,qS];have u1:Upd [] m (m.add (qg n.leaf sp sk si)):=Upd.add _ _ _;have g1:(m.add (qg n.leaf sp sk si)).get m.next=some (qg n.leaf sp sk si):=Mem.qf ..;have n1:(m.add (qg n.leaf sp sk si)).next=m.next+1:=rfl;generalize (m.add (qg n.leaf sp sk si))=m1 at u1 g1 n1;simp only [st0,qD g1];refine qh.2 ((XE (hn.qn u1) hf).mono λv2 m2 ⟨r2,u2⟩=>?_);subst r2;have g2:=qq u2 (by omega) g1;have u02:=u1.qu u2;have h2:=h.qn u02;have x2:=u2.next;have t2:=hn.qn u02;by_cases hsz:qW n<=256
 ·have e1:(((qW n:Nat):Int)<=256)=True:=eq_true (by omega);simp only [st0,e1,qD g2];refine qh.2 ((wY h2 he hp t2 hh hr hsz).mono λv3 m3 ⟨r3,⟨c,h3⟩,u3⟩=>?_);have e2:=Qp [] page;rw [<- wB] at e2;have e3:qt [.string ⟨#[]⟩,.int .i64 0] [(0,2,.agg [.string ⟨#[]⟩,.int .i64 (page:Int)].toArray)]=some (zQ.flat [([],page)]):=by kernel_rfl
  simp only [st0,e2,e3];have x3:=u3.next;have tf:TAp zQ 206 (m3.add ⟨.cells (zQ.flat [(([]:Bs),page)]) 206,false,none⟩) (.slice (some ⟨m3.next,0,none⟩) [(([]:Bs),page)].length [(([]:Bs),page)].length) [([],page)]:=TAp.fresh m3 _;refine .inl ⟨hsz,tf.rsl (λb hb=>by simp [qc] at hb; omega),⟨c,h3.qn (Upd.add _ _ _)⟩,((u02.mono (λb hb _=>by cases hb)).trans u3).qeg _⟩
 ·obtain ⟨s1,s2,s3,s4,s5⟩:=hs hsz;have e1:(((qW n:Nat):Int)<=256)=False:=eq_false (by omega);simp only [st0,e1,qD g2];refine qh.2 ((Vi t2 hf s1).mono λv3 m3 ⟨⟨va,vb,r3,ta,tb⟩,u3⟩=>?_);subst r3;obtain ⟨pa,ka,ia,rfl,a1,a2,a3⟩:=ta.ex;obtain ⟨pb,kb,ib,rfl,b1,b2,b3⟩:=tb.ex;have x3:=u3.next;have u03:=u02.qu u3;simp only [st0,(ex3 _ _ _).1,(ex3 _ _ _).2.1,(ex3 _ _ _).2.2];have u4:Upd [] m3 (m3.add (qg false (.slice none 0 0) (.slice none 0 0) (.slice none 0 0))):=Upd.add _ _ _;have g4:(m3.add (qg false (.slice none 0 0) (.slice none 0 0) (.slice none 0 0))).get m3.next=some (qg false (.slice none 0 0) (.slice none 0 0) (.slice none 0 0)):=Mem.qf ..;have n4:(m3.add (qg false (.slice none 0 0) (.slice none 0 0) (.slice none 0 0))).next=m3.next+1:=rfl;generalize (m3.add (qg false (.slice none 0 0) (.slice none 0 0) (.slice none 0 0)))=m4 at u4 g4 n4;have u5:Upd [] m4 (m4.add (qg false (.slice none 0 0) (.slice none 0 0) (.slice none 0 0))):=Upd.add _ _ _;have k5:(m4.add (qg false (.slice none 0 0) (.slice none 0 0) (.slice none 0 0))).get m4.next=some (qg false (.slice none 0 0) (.slice none 0 0) (.slice none 0 0)):=Mem.qf ..;have n5:(m4.add (qg false (.slice none 0 0) (.slice none 0 0) (.slice none 0 0))).next=m4.next+1:=rfl;have g5:=qq u5 (by omega) g4;generalize (m4.add (qg false (.slice none 0 0) (.slice none 0 0) (.slice none 0 0)))=m5 at u5 k5 n5 g5;simp only [st0,qX g5 _ a1.one.2 a2.one.2 a3.one.2];have u6:Upd [m3.next] m5 (m5.put m3.next (qg (qz n).1.leaf pa ka ia)):=Upd.put _ _ (by simp);have g6:(m5.put m3.next (qg (qz n).1.leaf pa ka ia)).get m3.next=_:=Mem.qe ..;have k6:(m5.put m3.next (qg (qz n).1.leaf pa ka ia)).get m4.next=_:=(Mem.qs m5 _ (by omega)).trans k5;generalize (m5.put m3.next (qg (qz n).1.leaf pa ka ia))=m6 at u6 g6 k6;simp only [st0,qX k6 _ b1.one.2 b2.one.2 b3.one.2];have u7:Upd [m4.next] m6 (m6.put m4.next (qg (qz n).2.1.leaf pb kb ib)):=Upd.put _ _ (by simp);have k7:(m6.put m4.next (qg (qz n).2.1.leaf pb kb ib)).get m4.next=_:=Mem.qe ..;have g7:(m6.put m4.next (qg (qz n).2.1.leaf pb kb ib)).get m3.next=_:=(Mem.qs m6 _ (by omega)).trans g6;generalize (m6.put m4.next (qg (qz n).2.1.leaf pb kb ib))=m7 at u7 g7 k7;have x6:=u6.next;have x7:=u7.next;have u37:Upd [] m3 m7:=(((u4.qu u5).then' u6 (λb hb=>.inr (by simp at hb; omega))).then' u7 (λb hb=>.inr (by simp at hb; omega)));have ta7:=ta.qn u37;have tb7:=tb.qn u37;have u07:=u03.qu u37;have h7:=h.qn u07;refine qh.2 ((qeo h7 he).mono λv8 m8 hc=>?_);have e4:=Qp [] page;rw [<- wB] at e4;rcases hc with ⟨rfl,h8,u8⟩|⟨q,c,y1,y2,y3,rfl,h8,u8⟩
  ·have x8:=u8.next;have hx8:∀ b∈[x.xb],b<m3.next:=λb hb=>by simp at hb; omega
   have g8:m8.get m3.next=_:=(u8.same _ (by omega) (by simp; omega)).trans g7;have k8:m8.get m4.next=_:=(u8.same _ (by omega) (by simp; omega)).trans k7;have e8:({ x with err:=8 }:Wx).err≠0:=by show (8:Nat)≠0; omega
   simp only [st0,qD g8];refine qh.2 ((XC h8 e8 _ ((ta7.low (lo':=m2.next) (Nat.le_refl _)).upd u8 (λb hb=>by simp at hb; omega)) s2 s3).mono λv9 m9 ⟨_,u9⟩=>?_);have k9:=qq u9 (by omega) k8;simp only [st0,qD k9];refine qh.2 ((XC (h8.qn u9) e8 _ ((tb7.upd u8 (λb hb=>by simp at hb; omega)).qn u9) s4 s5).mono λv10 m10 ⟨_,u10⟩=>?_);have e5:=Qp (qz n).2.2 0;rw [show (Value.int .i64 ((0:Nat):Int))=.int .i64 0 from rfl] at e5;have e6:qt [.string ⟨#[]⟩,.int .i64 0,.string ⟨#[]⟩,.int .i64 0] [(0,2,.agg [.string ⟨#[]⟩,.int .i64 (page:Int)].toArray),(2,2,.agg [str (qz n).2.2,.int .i64 0].toArray)]=some [.string ⟨#[]⟩,.int .i64 (page:Int),str (qz n).2.2,.int .i64 0]:=by kernel_rfl
   simp only [st0,e4,e5,e6];exact .inr (.inl ⟨hsz,((h8.qn u9).qn u10).qn (Upd.add _ _ _),((((u07.mono (λb hb _=>by cases hb)).trans u8).qu u9).qu u10).qeg _⟩)
  ·have x8:=u8.next;have g8:m8.get m3.next=_:=(u8.same _ (by omega) (by simp; omega)).trans g7;have k8:m8.get m4.next=_:=(u8.same _ (by omega) (by simp; omega)).trans k7;have hl8:∀ b∈[x.o.w,x.o.pm,x.xb],b<m2.next:=λb hb=>by simp at hb; omega
   have hP:=h.wr.hP;have hu20:=h.wr.hu;have hb1:∀ k,jn (xg x.o.u q) k=(jn x.o.u k ^^ decide (k=q)):=XZ x.o.u (by omega);have hpq:page≠q:=by
    rintro rfl
    unfold Wo.has at hh;rw [y3] at hh;simp at hh
   have hh8:Wo.has { x.o with u:=xg x.o.u q,L:=upL x.o.L q (qp 256) c } page=true:=by
    unfold Wo.has at hh ⊢;simp only [hb1,decide_eq_false hpq,Bool.xor_false]; exact hh
   simp only [st0,qD g8];refine qh.2 ((wY h8 he hp (ta7.upd u8 hl8) hh8 s2 s3).mono λv9 m9 ⟨_,⟨c2,h9⟩,u9⟩=>?_);have x9:=u9.next;have k9:m9.get m4.next=_:=(u9.same _ (by omega) (by simp; omega)).trans k8;have hl9:∀ b∈[x.o.pm,x.xb],b<m2.next:=λb hb=>by simp at hb; omega
   have hhq:Wo.has { x.o with u:=xg x.o.u q,L:=upL (upL x.o.L q (qp 256) c) page (zC (qz n).1) c2 } q=true:=by
    unfold Wo.has;simp only [hb1,y3];simp [y1,y2]
   simp only [st0,qD k9];refine qh.2 ((wY h9 he (by omega) ((tb7.upd u8 hl8).upd u9 hl9) hhq s4 s5).mono λv10 m10 ⟨_,⟨c3,h10⟩,u10⟩=>?_);have e5:=Qp (qz n).2.2 q;have e6:qt [.string ⟨#[]⟩,.int .i64 0,.string ⟨#[]⟩,.int .i64 0] [(0,2,.agg [.string ⟨#[]⟩,.int .i64 (page:Int)].toArray),(2,2,.agg [str (qz n).2.2,.int .i64 (q:Int)].toArray)]=some (zQ.flat [([],page),((qz n).2.2,q)]):=by kernel_rfl
   simp only [st0,e4,e5,e6];have x10:=u10.next;have tf:TAp zQ 206 (m10.add ⟨.cells (zQ.flat [(([]:Bs),page),((qz n).2.2,q)]) 206,false,none⟩) (.slice (some ⟨m10.next,0,none⟩) [(([]:Bs),page),((qz n).2.2,q)].length [(([]:Bs),page),((qz n).2.2,q)].length) [([],page),((qz n).2.2,q)]:=TAp.fresh m10 _;refine .inr (.inr ⟨hsz,q,c,c2,c3,y1,y2,y3,tf.rsl (λb hb=>by simp [qc] at hb; omega),h10.qn (Upd.add _ _ _),?_⟩);have hsub:∀ b,b∈[x.o.pm,x.xb]->b∈[x.o.w,x.o.pm,x.xb]:=λb hb=>lcI.2 (.inr hb)
   exact ((((u07.mono (λb hb _=>by cases hb)).trans u8).trans (u9.mono (λb hb _=>hsub b hb))).trans (u10.mono (λb hb _=>hsub b hb))).qeg _
end
end Go.Fx.Tryz
namespace Go.Fx.Tryz
open Go Go.Fx
abbrev Pt:=Bs × Nat
def wK (n:Nd) (k:Nat) (ps:List Pt) (i:Nat):List Bs:=(List.range i).flatMap λj=>(if 0<j then [n.keys.getD (j - 1) []] else [])++(if j=k then ps.tail.map (·.1) else [])
def wI (n:Nd) (k:Nat) (ps:List Pt) (i:Nat):List Nat:=(List.range i).flatMap λj=>if j=k then ps.map (·.2) else [n.kids.getD j 0]
def vd (n:Nd) (k:Nat) (ps:List Pt):Nd:=Nd.nd (wK n k ps n.kids.length) (wI n k ps n.kids.length)
theorem yw (n:Nd) (k:Nat) (ps:List Pt) (i:Nat):wK n k ps (i+1)=wK n k ps i++((if 0<i then [n.keys.getD (i - 1) []] else [])++(if i=k then ps.tail.map (·.1) else [])):=by
 unfold wK; rw [List.range_succ,List.flatMap_append,List.flatMap_singleton]
theorem yx (n:Nd) (k:Nat) (ps:List Pt) (i:Nat):wI n k ps (i+1)=wI n k ps i++(if i=k then ps.map (·.2) else [n.kids.getD i 0]):=by
 unfold wI; rw [List.range_succ,List.flatMap_append,List.flatMap_singleton]
structure Ou (m0:Mem) (ob:Nat) (m:Mem) (kv iv:Value) (ks:List Bs) (is:List Nat):Prop where
 g:m.get ob=some (qg false (.slice none 0 0) kv iv)
 tk:TAp encS 9 m kv ks
 ti:TAp zN 3 m iv is
 bk:∀ b∈qc kv,m0.next<=b
 bi:∀ b∈qc iv,m0.next<=b
 dj:∀ b∈qc kv,b∉qc iv
 lo:ob<m0.next
 up:Upd [ob] m0 m
section
variable {m0 m m':Mem} {ob:Nat} {kv iv v':Value} {ks:List Bs} {is:List Nat}
theorem Ou.qn (h:Ou m0 ob m kv iv ks is) (hu:Upd [] m m'):Ou m0 ob m' kv iv ks is :=
 ⟨qq hu (Nat.lt_of_lt_of_le h.lo h.up.next) h.g,h.tk.qn hu,h.ti.qn hu,h.bk,h.bi,h.dj,h.lo,h.up.qu hu⟩
theorem Ou.qko (h:Ou m0 ob m kv iv ks is) {l:List Bs} (q1:TAp encS 9 m' v' l) (q2:Upd (qc kv) m m') (q3:∀ b∈qc v',b∈qc kv∨m.next<=b) :
  m'.get ob=some (qg false (.slice none 0 0) kv iv)/\Ou m0 ob (m'.put ob (qg false (.slice none 0 0) v' iv)) v' iv l is:=by
 have hn:=h.up.next;have hlo:=h.lo;have hg:m'.get ob=some (qg false (.slice none 0 0) kv iv):=(q2.same ob (by omega) (λhb=>by have:=h.bk _ hb; omega)).trans h.g;have hb:∀ b∈qc v',m0.next<=b:=λb hb=>(q3 b hb).elim (h.bk b) (λh=>by omega)
 have hp:Upd [ob] m' (m'.put ob (qg false (.slice none 0 0) v' iv)):=Upd.put _ _ (by simp);refine ⟨hg,⟨Mem.qe ..,q1.upd hp (λb hb' hm=>by simp at hm; have:=hb b hb'; omega),(h.ti.upd q2 (λb hb' hm=>h.dj b hm hb')).upd hp (λb hb' hm=>by simp at hm; have:=h.bi b hb'; omega),hb,h.bi,λb hb1 hb2=>?_,h.lo,(h.up.then' q2 (λb hb'=>.inr (h.bk b hb'))).ki _ (.inl (by simp))⟩⟩;rcases q3 b hb1 with h1|h1
 ·exact h.dj b h1 hb2
 ·have:=h.ti.lt b hb2; omega
theorem Ou.qkp (h:Ou m0 ob m kv iv ks is) {l:List Nat} (q1:TAp zN 3 m' v' l) (q2:Upd (qc iv) m m') (q3:∀ b∈qc v',b∈qc iv∨m.next<=b) :
  m'.get ob=some (qg false (.slice none 0 0) kv iv)/\Ou m0 ob (m'.put ob (qg false (.slice none 0 0) kv v')) kv v' ks l:=by
 have hn:=h.up.next;have hlo:=h.lo;have hg:m'.get ob=some (qg false (.slice none 0 0) kv iv):=(q2.same ob (by omega) (λhb=>by have:=h.bi _ hb; omega)).trans h.g;have hb:∀ b∈qc v',m0.next<=b:=λb hb=>(q3 b hb).elim (h.bi b) (λh=>by omega)
 have hp:Upd [ob] m' (m'.put ob (qg false (.slice none 0 0) kv v')):=Upd.put _ _ (by simp);refine ⟨hg,⟨Mem.qe ..,(h.tk.upd q2 (λb hb' hm=>h.dj b hb' hm)).upd hp (λb hb' hm=>by simp at hm; have:=h.bk b hb'; omega),q1.upd hp (λb hb' hm=>by simp at hm; have:=hb b hb'; omega),h.bk,hb,λb hb1 hb2=>?_,h.lo,(h.up.then' q2 (λb hb'=>.inr (h.bi b hb'))).ki _ (.inl (by simp))⟩⟩;rcases q3 b hb2 with h1|h1
 ·exact h.dj b hb1 h1
 ·have:=h.tk.lt b hb1; omega
theorem Ou.ld (h:Ou m0 ob m kv iv ks is):qa (.pointer (some ⟨ob,0+2,none⟩)) m=some kv/\qa (.pointer (some ⟨ob,0+3,none⟩)) m=some iv:=⟨qF h.g rfl,qF h.g rfl⟩
end
theorem Vv (s:Bs):qt [.string ⟨#[]⟩] [(0,1,str s)]=some (encS.flat [s]):=by kernel_rfl
theorem qgh (k:Nat):qt [.int .i64 0] [(0,1,.int .i64 (k:Int))]=some (zN.flat [k]):=by kernel_rfl
theorem qam {m0:Mem} {ob lo:Nat} {x1 x3 x6 x14 x15 x16 vp:Value} {ps:List Pt} (hps:ps.length<=2) (hlo:lo<=m0.next) (hvp:∀ b∈qc vp,b<m0.next/\b≠ob) {K0:List Bs} {I0:List Nat} (hK:K0.length<=1000) (hI:I0.length<=1000) {Q:Value->Mem->Prop}
  (hQ:∀ m kv iv,Ou m0 ob m kv iv (K0++ps.tail.map (·.1)) (I0++ps.map (·.2))->RSl lo zQ m vp ps->W ((arith .add x16 (.int .i64 1)).bind λv19=>Xb x1 vp x3 x6 (.pointer (some ⟨ob,0,none⟩)) x14 x15 v19 m) Q) :
  ∀ (d j:Nat) (m:Mem) (kv iv:Value),ps.length - j=d->j<=ps.length->Ou m0 ob m kv iv (K0++((ps.take j).drop 1).map (·.1)) (I0++(ps.take j).map (·.2))->RSl lo zQ m vp ps ->
  W (Yx x1 vp x3 x6 (.pointer (some ⟨ob,0,none⟩)) x14 x15 x16 vp (.int .i64 (ps.length:Int)) (.int .i64 (j:Int)) m) Q:=by
 intro d
 induction d with
 | zero =>
  intro j m kv iv hd hj h hv;obtain rfl:j=ps.length:=by omega
  rw [P126_2_eq];simp only [st0,Int.lt_irrefl];rw [List.take_length,List.drop_one] at h;exact hQ m kv iv h hv
 | succ d ih =>
  intro j m kv iv hd hj h hv;have hlt:j<ps.length:=by omega
  have e1:((j:Int)<(ps.length:Int))=True:=eq_true (by omega);obtain ⟨b,off,h1,h2⟩:=hv.1.at .i64 (jB hlt);rw [Qr] at h1 h2;have h2:=h2 m hv.1;rw [P126_2_eq];simp only [st0,e1,h1,h2.1];refine jf (c:=zQ.cells ps[j]) rfl rfl rfl λm1 g1 u1 n1=>?_
  have o1:=h.qn u1;have hv1:=hv.qn u1;have hkp:∀ {M M':Mem} {kv iv:Value} {ks:List Bs} {is:List Nat},Ou m0 ob M kv iv ks is->Upd (ob::qc kv++qc iv) M M'->RSl lo zQ M vp ps->RSl lo zQ M' vp ps:=by
   intro M M' kv iv ks is ho hu hr;refine hr.zL hu (λb hb hm=>?_);have:=hvp b hb;simp only [List.cons_append,lcI,List.mem_append] at hm;rcases hm with hm|hm|hm
   ·exact this.2 hm
   ·have:=ho.bk b hm; omega
   ·have:=ho.bi b hm; omega
  have hm0:m0.next<=m.next:=h.up.next;have tail:∀ {M:Mem} {kv iv:Value} {ks:List Bs},Ou m0 ob M kv iv ks (I0++(ps.take j).map (·.2))->K0++((ps.take (j+1)).drop 1).map (·.1)=ks->RSl lo zQ M vp ps->M.get m.next=some ⟨.cells (zQ.cells ps[j]) 206,false,none⟩ ->
    W (Yw x1 vp x3 x6 (.pointer (some ⟨ob,0,none⟩)) (.pointer (some ⟨m.next,0,none⟩)) x14 x15 x16 vp (.int .i64 (ps.length:Int)) (.int .i64 (j:Int)) M) Q:=by
   intro M kv iv ks ho hks hr hg;rw [P126_3_eq];have hl:(I0++(ps.take j).map (·.2)).length<=1002:=by simp; omega
   simp only [st0,fa,ho.ld.2,qm hg (show (zQ.cells ps[j])[0+1]? = some (.int .i64 (ps[j].2:Int)) from rfl),qgh];refine zZ (E:=zN) [ps[j].2] (by decide) ho.ti (by simp only [lnI,List.length_nil]; omega) λv2 m2 q1 q2 q3=>?_
   obtain ⟨g2,o2⟩:=ho.qkp q1 q2 q3;simp only [st0,fa,yh g2 q1.one,qB (i:=j) (by omega)];have e5:(I0++(ps.take j).map (·.2))++[ps[j].2]=I0++(ps.take (j+1)).map (·.2):=by rw [tsI hlt,List.map_append,aaI]; rfl
   rw [e5,<- hks] at o2;refine ih (j+1) _ kv v2 (by omega) hlt o2 (hkp ho ((q2.mono (λb hb _=>by simp [hb])).trans (Upd.put _ _ (by simp))) hr)
  by_cases h0:j=0
  ·have e2:((0:Int)<(j:Int))=False:=eq_false (by omega);simp only [st0,e2];subst h0;exact tail o1 (by simp [tsI hlt]) hv1 g1
  ·have e2:((0:Int)<(j:Int))=True:=eq_true (by omega);have hl:(K0++((ps.take j).drop 1).map (·.1)).length<=1002:=by simp; omega
   simp only [st0,e2,fa,o1.ld.1,qm g1 (show (zQ.cells ps[j])[0+0]? = some (str ps[j].1) from rfl),Vv];refine zZ (E:=encS) [ps[j].1] (by decide) o1.tk (by simp only [lnI,List.length_nil]; omega) λv2 m2 q1 q2 q3=>?_
   obtain ⟨g2,o2⟩:=o1.qko q1 q2 q3;simp only [st0,fa,QO g2 q1.one];refine tail o2 ?_ (hkp o1 ((q2.mono (λb hb _=>by simp [hb])).trans (Upd.put _ _ (by simp))) hv1) ?_
   ·rw [tsI hlt,List.drop_append_of_le_length (by rw [ltI]; omega),List.map_append,aaI]; rfl
   ·have hlo':=h.lo;rw [Mem.qs _ _ (by omega),q2.same _ n1 (λhm=>by have:=h.tk.lt _ hm; omega)]; exact g1
end Go.Fx.Tryz
namespace Go.Fx.Tryz
open Go Go.Fx
structure We (lo:Nat) (n:Nd) (nb rb:Nat) (sp sk si vp:Value) (ps:List Pt) (m:Mem):Prop where
 gn:m.get nb=some (qg n.leaf sp sk si)
 gr:m.get rb=some (qg false (.slice none 0 0) (.slice none 0 0) (.slice none 0 0))
 k2:RSl lo encS m sk n.keys
 k3:RSl lo zN m si n.kids
 kp:RSl lo zQ m vp ps
theorem We.zL {lo:Nat} {n:Nd} {nb rb ob:Nat} {sp sk si vp:Value} {ps:List Pt} {m m' m0:Mem} (h:We lo n nb rb sp sk si vp ps m) {fp:List Nat} (hu:Upd fp m m') (hf:∀ b∈fp,b=ob∨m0.next<=b) (h0:m0.next<=m.next)
  (hb:(nb<m0.next/\nb≠ob)/\(rb<m0.next/\rb≠ob)/\(∀ b∈qc sk,b<m0.next/\b≠ob)/\(∀ b∈qc si,b<m0.next/\b≠ob)/\∀ b∈qc vp,b<m0.next/\b≠ob):We lo n nb rb sp sk si vp ps m':=by
 obtain ⟨b1,b2,b3,b4,b5⟩:=hb;have no:∀ {b:Nat},(b<m0.next/\b≠ob)->b∉fp:=λhb hm=>by
  rcases hf _ hm with e|e
  ·exact hb.2 e
  ·omega
 exact ⟨(hu.same _ (by omega) (no b1)).trans h.gn,(hu.same _ (by omega) (no b2)).trans h.gr,h.k2.zL hu (λb hb=>no (b3 b hb)),h.k3.zL hu (λb hb=>no (b4 b hb)),h.kp.zL hu (λb hb=>no (b5 b hb))⟩
theorem qcW {lo:Nat} {n:Nd} {nb rb ob k:Nat} {sp sk si vp:Value} {ps:List Pt} {m0:Mem} (hps:ps.length<=2) (hlo:lo<=m0.next) (hkl:n.kids.length<=n.keys.length+1) (hf:n.kids.length<=200)
  (hb:(nb<m0.next/\nb≠ob)/\(rb<m0.next/\rb≠ob)/\(∀ b∈qc sk,b<m0.next/\b≠ob)/\(∀ b∈qc si,b<m0.next/\b≠ob)/\∀ b∈qc vp,b<m0.next/\b≠ob) (he0:We lo n nb rb sp sk si vp ps m0) :
  ∀ (d i:Nat) (m:Mem) (kv iv:Value),n.kids.length - i=d->i<=n.kids.length->(wK n k ps i).length<=2 * i/\(wI n k ps i).length<=2 * i->Ou m0 ob m kv iv (wK n k ps i) (wI n k ps i) ->
  W (Xb (.int .i64 (k:Int)) vp (.pointer (some ⟨nb,0,none⟩)) (.pointer (some ⟨rb,0,none⟩)) (.pointer (some ⟨ob,0,none⟩)) si (.int .i64 (n.kids.length:Int)) (.int .i64 (i:Int)) m) λr m'=>TN m0.next m' r (vd n k ps)/\Upd [ob,rb] m0 m':=by
 have hW:∀ {M:Mem},Upd [ob] m0 M->We lo n nb rb sp sk si vp ps M:=λhu=>he0.zL (ob:=ob) (m0:=m0) hu (λb hb'=>.inl (by simpa using hb')) (Nat.le_refl _) hb
 intro d
 induction d with
 | zero =>
  intro i m kv iv hd hi hwl h;have he:=hW h.up;obtain rfl:i=n.kids.length:=by omega
  rw [P126_0_eq];simp only [st0,Int.lt_irrefl,qD h.g,qX he.gr false (sp':=.slice none 0 0) (sk':=kv) (si':=iv) rfl h.tk.one.2 h.ti.one.2,qD (Mem.qe m rb _)];have hp:Upd [rb] m (m.put rb (qg false (.slice none 0 0) kv iv)):=Upd.put _ _ (by simp);refine ⟨⟨_,_,_,rfl,RSl.nil _ _ _,(h.tk.rsl h.bk).upd hp (λb hb'=>by simp at hb'; omega),(h.ti.rsl h.bi).upd hp (λb hb'=>by simp at hb'; omega)⟩,(h.up.mono (λb hb' _=>by simp at hb'; simp [hb'])).trans (hp.mono (λb hb' _=>by simp at hb'; simp [hb']))⟩
 | succ d ih =>
  intro i m kv iv hd hi hwl h;have he:=hW h.up;have hlt:i<n.kids.length:=by omega
  have hm0:m0.next<=m.next:=h.up.next;have e1:((i:Int)<(n.kids.length:Int))=True:=eq_true (by omega);obtain ⟨p,h1,_,h2⟩:=he.k3.1.index .i64 (jB hlt);rw [jU] at h1;have h2:=h2 (.int .i64 (n.kids[i]:Int)) rfl;have hgk:n.kids.getD i 0=n.kids[i]:=by rw [List.getD_eq_getElem?_getD,List.getElem?_eq_getElem hlt]; rfl
  have hKl:(wK n k ps (i+1)).length<=2 * (i+1)/\(wI n k ps (i+1)).length<=2 * (i+1):=by
   rw [yw,yx];have:ps.tail.length<=1:=by rw [List.length_tail]; omega
   constructor
   ·simp only [laI]; split<;>split<;>simp<;>omega
   ·simp only [laI]; split<;>simp<;>omega
  have tail:∀ {M:Mem} {kv iv:Value},Ou m0 ob M kv iv (wK n k ps i++(if 0<i then [n.keys.getD (i - 1) []] else [])) (wI n k ps i) ->
    W (Yy (.int .i64 (k:Int)) vp (.pointer (some ⟨nb,0,none⟩)) (.pointer (some ⟨rb,0,none⟩)) (.pointer (some ⟨ob,0,none⟩)) (.int .i64 (i:Int)) (.int .i64 (n.kids[i]:Int)) si (.int .i64 (n.kids.length:Int)) (.int .i64 (i:Int)) M) λr m'=>TN m0.next m' r (vd n k ps)/\Upd [ob,rb] m0 m':=by
   intro M kv iv ho;have hE:=hW ho.up;have hM:=ho.up.next;rw [P126_1_eq];by_cases hk:i=k
   ·have e2:((i:Int)=(k:Int))=True:=eq_true (by omega);have e3:=hE.kp.1.len;simp only [st0,e2,e3];refine qam (lo:=lo) (m0:=m0) (K0:=wK n k ps i++(if 0<i then [n.keys.getD (i - 1) []] else [])) (I0:=wI n k ps i) hps hlo hb.2.2.2.2 (by simp only [laI]; split<;>simp<;>omega) (by omega) (λM' kv' iv' ho' hp'=>?_) _ 0 M kv iv rfl (by omega) (by simpa using ho) hE.kp
    simp only [st0,qB (i:=i) (by omega)];refine ih (i+1) M' kv' iv' (by omega) hlt hKl ?_;rw [yw,yx,if_pos hk,if_pos hk,<- aaI]; exact ho'
   ·have e2:((i:Int)=(k:Int))=False:=eq_false (by omega);simp only [st0,e2,fa,ho.ld.2,qgh];refine zZ (E:=zN) [n.kids[i]] (by decide) ho.ti (by simp only [lnI,List.length_nil]; omega) λv2 m2 q1 q2 q3=>?_
    obtain ⟨g2,o2⟩:=ho.qkp q1 q2 q3;simp only [st0,fa,yh g2 q1.one,qB (i:=i) (by omega)];refine ih (i+1) _ kv v2 (by omega) hlt hKl ?_;rw [yw,yx,if_neg hk,if_neg hk,List.append_nil,hgk]; exact o2
  rw [P126_0_eq];by_cases h0:i=0
  ·have e2:((0:Int)<(i:Int))=False:=eq_false (by omega);simp only [st0,e1,h1,h2,e2];exact tail (by rw [if_neg (by omega),List.append_nil]; exact h)
  ·have e2:((0:Int)<(i:Int))=True:=eq_true (by omega);have hlk:i - 1<n.keys.length:=by omega
   obtain ⟨pk,y1,_,y2⟩:=he.k2.1.index .i64 (jB hlk);rw [xw] at y1;have y2:=y2 (str n.keys[i - 1]) rfl;have hgd:n.keys.getD (i - 1) []=n.keys[i - 1]:=by rw [List.getD_eq_getElem?_getD,List.getElem?_eq_getElem hlk]; rfl
   have e3:arith .sub (.int .i64 (i:Int)) (.int .i64 1)=some (.int .i64 ((i - 1:Nat):Int)):=by rw [xh (by omega) (by omega)]; congr 2; omega
   simp only [st0,e1,h1,h2,e2,fa,h.ld.1,qF he.gn (o:=0+2) rfl,e3,y1,y2,Vv];refine zZ (E:=encS) [n.keys[i - 1]] (by decide) h.tk (by simp only [lnI,List.length_nil]; omega) λv2 m2 q1 q2 q3=>?_
   obtain ⟨g2,o2⟩:=h.qko q1 q2 q3;simp only [st0,fa,QO g2 q1.one];refine jC (λr hr=>?_) (tail (by rw [if_pos (by omega),hgd]; exact o2));simp only [lcI,nmI,or_false] at hr;rcases hr with rfl|rfl|rfl
   ·exact okR λk _ hk=>by
     have:k=0∨k=1:=by omega
     rcases this with rfl|rfl
     ·exact ⟨_,rfl,h.ld.1⟩
     ·exact ⟨_,rfl,(h.qn (Upd.add _ _ _)).ld.1⟩
   ·exact okR λk _ hk=>by
     obtain rfl:k=0:=by omega
     exact ⟨_,rfl,qF he.gn rfl⟩
   ·exact okR λk _ hk=>by
     obtain rfl:k=0:=by omega
     exact ⟨_,rfl,y2⟩
theorem VP {lo:Nat} {v vp:Value} {n:Nd} {m:Mem} {k:Nat} {ps:List Pt} (h:TN lo m v n) (hv:RSl lo zQ m vp ps) (hps:ps.length<=2) (hlo:lo<=m.next) (hkl:n.kids.length<=n.keys.length+1) (hf:n.kids.length<=200) :
  W (Call S tab 126 [v,.int .i64 (k:Int),vp] m) λr m'=>TN m.next m' r (vd n k ps)/\Upd [] m m':=by
 obtain ⟨sp,sk,si,rfl,a1,a2,a3⟩:=h.ex;rw [qmy];have e0:qt [.bool false,.slice none 0 0,.slice none 0 0,.slice none 0 0] []=some [.bool false,.slice none 0 0,.slice none 0 0,.slice none 0 0]:=rfl;simp only [st0,qS,e0];have u1:Upd [] m (m.add (qg n.leaf sp sk si)):=Upd.add _ _ _;have g1:(m.add (qg n.leaf sp sk si)).get m.next=some (qg n.leaf sp sk si):=Mem.qf ..;have n1:(m.add (qg n.leaf sp sk si)).next=m.next+1:=rfl;generalize (m.add (qg n.leaf sp sk si))=m1 at u1 g1 n1;have u2:Upd [] m1 (m1.add (qg false (.slice none 0 0) (.slice none 0 0) (.slice none 0 0))):=Upd.add _ _ _;have r2:(m1.add (qg false (.slice none 0 0) (.slice none 0 0) (.slice none 0 0))).get m1.next=some (qg false (.slice none 0 0) (.slice none 0 0) (.slice none 0 0)):=Mem.qf ..;have n2:(m1.add (qg false (.slice none 0 0) (.slice none 0 0) (.slice none 0 0))).next=m1.next+1:=rfl;have g2:=qq u2 (by omega) g1;generalize (m1.add (qg false (.slice none 0 0) (.slice none 0 0) (.slice none 0 0)))=m2 at u2 r2 n2 g2;refine jf (c:=[.bool false,.slice none 0 0,.slice none 0 0,.slice none 0 0]) rfl rfl rfl λm3 o3 u3 n3=>?_
 have g3:=qq u3 (by omega) g2;have r3:=qq u3 (by omega) r2;have u03:=(u1.qu u2).qu u3;simp only [st0,fa,qF g3 (o:=0+3) rfl,zf a3];have hlt:∀ {α:Type} {E:Enc α} {x:Value} {xs:List α},RSl lo E m x xs->∀ b∈qc x,b<m3.next/\b≠m2.next:=λhr b hb=>by have:=(hr.2 b hb).2; omega
 refine (qcW (lo:=lo) (n:=n) (nb:=m.next) (rb:=m1.next) (ob:=m2.next) (k:=k) (m0:=m3) hps (by omega) hkl hf ⟨⟨by omega,by omega⟩,⟨by omega,by omega⟩,hlt a2,hlt a3,hlt hv⟩ ⟨g3,r3,a2.qn u03,a3.qn u03,hv.qn u03⟩ _ 0 m3 _ _ rfl (by omega) (by simp [wK,wI]) ⟨o3,TAp.nil _,TAp.nil _,λb hb=>by simp [qc] at hb,λb hb=>by simp [qc] at hb,λb hb=>by simp [qc] at hb,n3,Upd.refl _ _⟩).mono λr m' ⟨t,u⟩=>⟨t.low (by omega),u03.then' u (λb hb=>.inr (by simp at hb; omega))⟩
end Go.Fx.Tryz
namespace Go.Fx.Tryz
open Go Go.Fx
section
variable {x:Wx} {m:Mem}
theorem qjg {lo:Nat} (h:XR x m) (he:x.err=0) {p:Nat} {vp:Value} (hv:RSl lo zQ m vp [([],p)]):Call S tab 90 [x.v,vp] m=some (.int .i64 (p:Int),m):=by
 refine W_eq ?_;have e1:=xok h;rw [decide_eq_true he] at e1;have e2:qd vp=some (.int .i64 1):=hv.1.len;have d1:decide ((1:Int)=0)=false:=rfl;have d2:decide ((1:Int)=1)=true:=rfl;obtain ⟨b,off,h1,h2⟩:=hv.1.at .i64 (i:=0) (a:=([],p)) rfl;rw [Qr] at h1;have h1':qi 2 vp (.int .i64 0)=some (.pointer (some ⟨b,off,none⟩)):=h1;have h3:=(h2 m hv.1).2 1 (.int .i64 (p:Int)) rfl;rw [C90];simp only [st0,e1,e2,d1,d2,h1',fa,h3];exact ⟨trivial,trivial⟩
theorem qjf {lo:Nat} (h:XR x m) (he:x.err=0) {p q:Nat} {key:Bs} {vp:Value} (hv:RSl lo zQ m vp [([],p),(key,q)]) (hvx:∀ b∈qc vp,b≠x.o.w/\b≠x.o.pm/\b≠x.xb) (hr:qO (Nd.nd [key] [p,q])=true) (hs:qW (Nd.nd [key] [p,q])<=256) :
  W (Call S tab 90 [x.v,vp] m) λr m'=>(XR { x with err:=8 } m'/\Upd [x.xb] m m') ∨
   ∃ n c1 c2,1<=n/\n<x.o.P/\jn x.o.u n=false/\r=.int .i64 (n:Int)/\XR { x with o:={ x.o with u:=xg x.o.u n,L:=upL (upL x.o.L n (qp 256) c1) n (zC (Nd.nd [key] [p,q])) c2 } } m'/\Upd [x.o.w,x.o.pm,x.xb] m m':=by
 have w1:=h.wr.lw; have w2:=h.wr.lm; have w3:=h.wr.lc; have w4:=h.wr.lp; have w5:=h.lx;have e1:=xok h;rw [decide_eq_true he] at e1;have e2:qd vp=some (.int .i64 2):=hv.1.len;have d1:decide ((2:Int)=0)=false:=rfl;have d2:decide ((2:Int)=1)=false:=rfl;obtain ⟨b,off,h1,h2⟩:=hv.1.at .i64 (i:=0) (a:=([],p)) rfl;obtain ⟨b',off',h1b,h2b⟩:=hv.1.at .i64 (i:=1) (a:=(key,q)) rfl;rw [Qr] at h1 h1b;have i0:qi 2 vp (.int .i64 0)=some (.pointer (some ⟨b,off,none⟩)):=h1;have i1:qi 2 vp (.int .i64 1)=some (.pointer (some ⟨b',off',none⟩)):=h1b;have l0:∀ {M:Mem},RSl lo zQ M vp [([],p),(key,q)]->qa (.pointer (some ⟨b,off+1,none⟩)) M=some (.int .i64 (p:Int)):=λhM=>(h2 _ hM.1).2 1 _ rfl
 have l1:∀ {M:Mem},RSl lo zQ M vp [([],p),(key,q)]->qa (.pointer (some ⟨b',off'+0,none⟩)) M=some (str key)/\qa (.pointer (some ⟨b',off'+1,none⟩)) M=some (.int .i64 (q:Int)):=λhM=>⟨(h2b _ hM.1).2 0 _ rfl,(h2b _ hM.1).2 1 _ rfl⟩
 rw [C90];simp only [st0,e1,e2,d1,d2];have rest:∀ {m1:Mem} {pg:Value},m.next<=m1.next->RSl lo zQ m1 vp [([],p),(key,q)]->∀ {Q:Value->Mem->Prop},(∀ {m4:Mem} {v:Value},TN m1.next m4 v (Nd.nd [key] [p,q])->Upd [] m1 m4->RSl lo zQ m4 vp [([],p),(key,q)]->W (Call S tab 93 [x.v,pg,v] m4) λr m5=>RSl lo zQ m5 vp [([],p),(key,q)]/\Q pg m5) ->
   W ((qi 2 vp (.int .i64 1)).bind λv15=>(qb 0 v15).bind λv16=>(qa v16 (m1.zu 18)).bind λv17=>(qt [(.string ⟨#[]⟩)] [(0,1,v17)]).bind λc18=>nws (m1.zu 18) ⟨.cells c18 9,false,none⟩ 1 λv19 m20=>(qi 2 vp (.int .i64 0)).bind λv21=>(qb 1 v21).bind λv22=>(qa v22 m20).bind λv23=>(qi 2 vp (.int .i64 1)).bind λv24=>(qb 1 v24).bind λv25=>(qa v25 m20).bind λv26=>(qt [(.int .i64 0),(.int .i64 0)] [(0,1,v23),(1,1,v26)]).bind λc27=>QN (m1.next+15) m20 ⟨.cells c27 3,false,none⟩ (some 2) λv28 m29=>(qt [(.bool .false),(.slice none 0 0),(.slice none 0 0),(.slice none 0 0)] [(2,1,v19),(3,1,v28)]).bind λc30=>(Call S tab 93 [x.v,pg,(.agg c30.toArray)] m29).bind λp31=>chk [(m1.zu 18),m20,m29,p31.2] [(.load1 v16,v17,0,0),(.load1 v22,v23,0,1),(.load1 v25,v26,0,1)] (some (pg,p31.2))) Q:=by
  intro m1 pg hm1 hv1 Q hw;have ub:Upd [] m1 (m1.zu 18):=Upd.zu _ _ _;have nb:(m1.zu 18).next=m1.next+18:=rfl;have hv2:=hv1.qn ub;have e4:qt [.int .i64 0,.int .i64 0] [(0,1,.int .i64 (p:Int)),(1,1,.int .i64 (q:Int))]=some (zN.flat [p,q]):=by kernel_rfl
  simp only [st0,i0,i1,fa,(l1 hv2).1,Vv];generalize m1.zu 18=m2 at ub nb hv2;have u3:Upd [] m2 (m2.add ⟨.cells (encS.flat [key]) 9,false,none⟩):=Upd.add _ _ _;have t3:TAp encS 9 (m2.add ⟨.cells (encS.flat [key]) 9,false,none⟩) (.slice (some ⟨m2.next,0,none⟩) [key].length [key].length) [key]:=TAp.fresh m2 _;have n3:(m2.add ⟨.cells (encS.flat [key]) 9,false,none⟩).next=m2.next+1:=rfl;have hv3:=hv2.qn u3;simp only [st0,i0,i1,fa,l0 hv3,(l1 hv3).2,e4];generalize (m2.add ⟨.cells (encS.flat [key]) 9,false,none⟩)=m3 at u3 t3 n3 hv3;have u4:Upd [m1.next+15] m3 (m3.put (m1.next+15) ⟨.cells (zN.flat [p,q]) 3,false,none⟩):=Upd.put _ _ (by simp);have t4:TAp zN 3 (m3.put (m1.next+15) ⟨.cells (zN.flat [p,q]) 3,false,none⟩) (.slice (some ⟨m1.next+15,0,none⟩) 2 2) [p,q]:=.inr ⟨m1.next+15,2,[],none,rfl,by show m1.next+15<m3.next; omega,by rw [List.append_nil]; exact Mem.qe ..,.inl rfl,rfl,Nat.le_refl _⟩;have u14:Upd [] m1 (m3.put (m1.next+15) ⟨.cells (zN.flat [p,q]) 3,false,none⟩):=(ub.qu u3).then' u4 (λb hb=>.inr (by simp at hb; omega));have hv4:=hv1.qn u14;have t34:=t3.upd u4 (λb hb hm=>by simp [qc] at hb hm; omega);have e5:=WJ (.slice (some ⟨m2.next,0,none⟩) 1 1) (.slice (some ⟨m1.next+15,0,none⟩) 2 2) rfl rfl;simp only [st0,e5];have hT:TN m1.next (m3.put (m1.next+15) ⟨.cells (zN.flat [p,q]) 3,false,none⟩) (kT false (.slice none 0 0) (.slice (some ⟨m2.next,0,none⟩) 1 1) (.slice (some ⟨m1.next+15,0,none⟩) 2 2)) (Nd.nd [key] [p,q]) :=
   ⟨_,_,_,rfl,RSl.nil _ _ _,t34.rsl (λb hb=>by simp [qc] at hb; omega),t4.rsl (λb hb=>by simp [qc] at hb; omega)⟩
  generalize (m3.put (m1.next+15) ⟨.cells (zN.flat [p,q]) 3,false,none⟩)=m4 at hT u14 hv4;refine qh.2 ((hw hT u14 hv4).mono λr m5 ⟨hv5,hq⟩=>?_);refine jC (λr hr=>?_) (zv.2 hq);simp only [lcI,nmI,or_false] at hr;rcases hr with rfl|rfl|rfl
  ·exact okR λk _ hk=>by
    obtain rfl:k=0:=by omega
    exact ⟨_,rfl,(l1 hv2).1⟩
  ·exact okR λk _ hk=>by
    have:k=0∨k=1:=by omega
    rcases this with rfl|rfl
    ·exact ⟨_,rfl,l0 hv2⟩
    ·exact ⟨_,rfl,l0 hv3⟩
  ·exact okR λk _ hk=>by
    have:k=0∨k=1:=by omega
    rcases this with rfl|rfl
    ·exact ⟨_,rfl,(l1 hv2).2⟩
    ·exact ⟨_,rfl,(l1 hv3).2⟩
 refine qh.2 ((qeo h he).mono λv1 m1 hc=>?_);rcases hc with ⟨rfl,h8,u8⟩|⟨n,c,y1,y2,y3,rfl,h8,u8⟩
 ·have x8:=u8.next;have hv8:=hv.zL u8 (λb hb hm=>by simp at hm; exact (hvx b hb).2.2 hm);refine rest x8 hv8 λ{m4 v} hT u hv4=>?_
  have h9:=h8.qn u;refine (XC h9 (by show (8:Nat)≠0; omega) _ hT hr hs).mono λr m5 ⟨_,u5⟩=>⟨hv4.qn u5,.inl ⟨h9.qn u5,(u8.qu u).qu u5⟩⟩
 ·have x8:=u8.next;have hv8:=hv.zL u8 (λb hb hm=>by
   have:=hvx b hb;simp only [lcI,nmI,or_false] at hm;rcases hm with e|e|e
   ·exact this.1 e
   ·exact this.2.1 e
   ·exact this.2.2 e)
  have hP:=h.wr.hP;have hu20:=h.wr.hu;have hb1:∀ k,jn (xg x.o.u n) k=(jn x.o.u k ^^ decide (k=n)):=XZ x.o.u (by omega);have hhq:Wo.has { x.o with u:=xg x.o.u n,L:=upL x.o.L n (qp 256) c } n=true:=by
   unfold Wo.has;simp only [hb1,y3];simp [y1,y2]
  refine rest x8 hv8 λ{m4 v} hT u hv4=>?_
  refine (wY (h8.qn u) he (by omega) hT hhq hr hs).mono λr m5 ⟨_,⟨c2,h5⟩,u5⟩=>⟨hv4.zL u5 (λb hb hm=>?_),.inr ⟨n,c,c2,y1,y2,y3,rfl,h5,?_⟩⟩
  ·have:=hvx b hb;simp only [lcI,nmI,or_false] at hm;rcases hm with e|e
   ·exact this.2.1 e
   ·exact this.2.2 e
  ·exact (u8.qu u).trans (u5.mono (λb hb _=>lcI.2 (.inr hb)))
end
end Go.Fx.Tryz
namespace Go.Fx.Tryz
open Go Go.Fx
structure Pn (s:Nat->Option Bs) (p:Nat) (n:Nd):Prop where
 pg:s p=some (zC n)
 rt:qO n=true
 sz:qW n<=256
def inR (lo:Bs) (hi:Option Bs) (k:Bs):Prop:=ltB k lo=false/\∀ h,hi=some h->ltB k h=true
abbrev TP:=Nat->Bs->Option Bs->List Pr->List Nat->Prop
def inK (lo:Bs) (hi:Option Bs) (k:Bs):Prop:=ltB lo k=true/\∀ h,hi=some h->ltB k h=true
def Fo (R:TP):Bs->Option Bs->List Bs->List Nat->List Pr->List Nat->Prop
 | lo,hi,[],[p],l,S=>R p lo hi l S
 | lo,hi,k::ks,p::ps,l,S=>∃ l1 S1 l2 S2,R p lo (some k) l1 S1/\Fo R k hi ks ps l2 S2/\l=l1++l2/\S=S1++S2
 | _,_,_,_,_,_=>False
def Nl (R:Option TP) (n:Nd) (lo:Bs) (hi:Option Bs) (l:List Pr) (S:List Nat):Prop :=
 match R with
 | none=>n=Nd.lf l/\(∀ x∈l,inR lo hi x.1)/\S=[]
 | some R=>∃ ks ps,n=Nd.nd ks ps/\(∀ k∈ks,inK lo hi k)/\Fo R lo hi ks ps l S
def neN (n:Nd):Prop:=if n.leaf then n.pairs≠[] else n.keys≠[]
def Tp (s:Nat->Option Bs) (R:Option TP):TP:=λp lo hi l S=>∃ n S',Pn s p n/\neN n/\Nl R n lo hi l S'/\S=p::S'
def Tr (s:Nat->Option Bs):Nat->TP
 | 0=>Tp s none
 | h+1=>Tp s (some (Tr s h))
def lower (s:Nat->Option Bs):Nat->Option TP
 | 0=>none
 | h+1=>some (Tr s h)
theorem Tr_eq (s:Nat->Option Bs) (h:Nat):Tr s h=Tp s (lower s h):=by cases h<;>rfl
abbrev Nt (s:Nat->Option Bs) (h:Nat):Nd->Bs->Option Bs->List Pr->List Nat->Prop:=Nl (lower s h)
def Tw (s:Nat->Option Bs) (h:Nat):TP:=λp lo hi l S=>∃ n S',Pn s p n/\Nt s h n lo hi l S'/\S=p::S'
theorem YC {R R':TP}:∀ (ks:List Bs) (ps:List Nat) (lo:Bs) (hi:Option Bs) (l:List Pr) (S:List Nat),(∀ p lo hi l T,(∀ q∈T,q∈S)->R p lo hi l T->R' p lo hi l T)->Fo R lo hi ks ps l S->Fo R' lo hi ks ps l S
 | [],[p],lo,hi,l,S,h,hf=>h _ _ _ _ _ (λq hq=>hq) hf
 | k::ks,p::ps,lo,hi,l,S,h,⟨l1,S1,l2,S2,h1,h2,h3,h4⟩=>by
  subst h4;exact ⟨l1,S1,l2,S2,h _ _ _ _ _ (λq hq=>List.mem_append.2 (.inl hq)) h1,YC ks ps _ _ _ _ (λp lo hi l T hT hr=>h p lo hi l T (λq hq=>List.mem_append.2 (.inr (hT q hq))) hr) h2,h3,rfl⟩
 | [],[],_,_,_,_,_,hf=>hf.elim
 | [],_::_::_,_,_,_,_,_,hf=>hf.elim
 | _::_,[],_,_,_,_,_,hf=>hf.elim
theorem qcQ {R R':TP} {n:Nd} {lo:Bs} {hi:Option Bs} {l:List Pr} {S:List Nat} (h:∀ p lo hi l T,(∀ q∈T,q∈S)->R p lo hi l T->R' p lo hi l T) (hn:Nl (some R) n lo hi l S):Nl (some R') n lo hi l S:=by
 obtain ⟨ks,ps,e,hk,hf⟩:=hn;exact ⟨ks,ps,e,hk,YC ks ps _ _ _ _ h hf⟩
theorem xJ {s s':Nat->Option Bs}:∀ (h:Nat) (p:Nat) (lo:Bs) (hi:Option Bs) (l:List Pr) (S:List Nat),(∀ q∈S,s' q=s q)->Tr s h p lo hi l S->Tr s' h p lo hi l S
 | 0,p,lo,hi,l,S,hs,⟨n,S',⟨a,b,c⟩,h2,h3,h4⟩=>by
  subst h4;exact ⟨n,S',⟨by rw [hs p (by simp)]; exact a,b,c⟩,h2,h3,rfl⟩
 | h+1,p,lo,hi,l,S,hs,⟨n,S',⟨a,b,c⟩,h2,h3,h4⟩=>by
  subst h4;exact ⟨n,S',⟨by rw [hs p (by simp)]; exact a,b,c⟩,h2,qcQ (λp lo hi l T hT hr=>xJ h p lo hi l T (λq hq=>hs q (lcI.2 (.inr (hT q hq)))) hr) h3,rfl⟩
theorem wz {s s':Nat->Option Bs} (h:Nat) {n:Nd} {lo:Bs} {hi:Option Bs} {l:List Pr} {S:List Nat} (hs:∀ q∈S,s' q=s q) (hn:Nt s h n lo hi l S):Nt s' h n lo hi l S:=by
 cases h with
 | zero=>exact hn
 | succ h=>exact qcQ (λp lo hi l T hT hr=>xJ h p lo hi l T (λq hq=>hs q (hT q hq)) hr) hn
theorem xf {s:Nat->Option Bs} {h p:Nat} {lo:Bs} {hi:Option Bs} {l:List Pr} {S:List Nat}:Tr s h p lo hi l S↔∃ n S',Pn s p n/\neN n/\Nt s h n lo hi l S'/\S=p::S':=by rw [Tr_eq]; exact Iff.rfl
theorem Tr.qlu {s:Nat->Option Bs} {h p:Nat} {lo:Bs} {hi:Option Bs} {l:List Pr} {S:List Nat} (ht:Tr s h p lo hi l S):Tw s h p lo hi l S:=by
 obtain ⟨n,S',h1,_,h3,h4⟩:=xf.1 ht;exact ⟨n,S',h1,h3,h4⟩
theorem filter_all {l:List Pr} {f:Pr->Bool} (h:∀ x∈l,f x=true):l.filter f=l:=List.filter_eq_self.2 h
theorem wO {l:List Pr} {f:Pr->Bool} (h:∀ x∈l,f x=false):l.filter f=[]:=List.filter_eq_nil_iff.2 (λx hx=>by simp [h x hx])
theorem vw {a b c:List Pr} {key:Bs} (ha:∀ x∈a,ltB x.1 key=true) (hc:∀ x∈c,ltB x.1 key=false):za (a++(b++c)) key=a.length+za b key:=by
 unfold za;rw [List.filter_append,List.filter_append,filter_all (f:=λp:Pr=>ltB p.1 key) ha,wO (f:=λp:Pr=>ltB p.1 key) hc,laI,List.append_nil]
theorem yz {a b c:List Pr} {key:Bs} (ha:∀ x∈a,ltB x.1 key=true) (hc:∀ x∈c,ltB x.1 key=false/\x.1≠key):zb (a++(b++c)) key=zb b key:=by
 unfold zb;rw [vw ha (λx hx=>(hc x hx).1),List.getElem?_append_right (by omega),Nat.add_sub_cancel_left];by_cases h:za b key<b.length
 ·rw [List.getElem?_append_left h]
 ·rw [List.getElem?_append_right (by omega),List.getElem?_eq_none (l:=b) (by omega)];cases hx:c[za b key - b.length]? with
  | none=>rfl
  | some x=>simp [(hc x (List.mem_of_getElem? hx)).2]
theorem WV {a b c:List Pr} {key:Bs} (ha:∀ x∈a,ltB x.1 key=true) (hc:∀ x∈c,ltB x.1 key=false/\x.1≠key):xA (a++(b++c)) key=a++(xA b key++c):=by
 unfold xA;rw [yz ha hc,vw ha (λx hx=>(hc x hx).1)];cases ht:zb b key with
 | false=>rfl
 | true =>
  have:=xF ht;simp only [if_true];rw [List.eraseIdx_append_of_length_le (by omega),Nat.add_sub_cancel_left,List.eraseIdx_append_of_lt_length this]
theorem qcc {a b c:List Pr} {key val:Bs} (ha:∀ x∈a,ltB x.1 key=true) (hc:∀ x∈c,ltB x.1 key=false/\x.1≠key):xO (a++(b++c)) key val=a++(xO b key val++c):=by
 have hle:za b key<=(xA b key).length:=by
  have:=wy b key;unfold xA; split
  ·rename_i ht; have:=xF ht; rw [List.length_eraseIdx,if_pos this]; omega
  ·exact this
 unfold xO;rw [WV ha hc,vw ha (λx hx=>(hc x hx).1)];rw [List.take_append,List.drop_append,List.take_of_length_le (by omega),List.drop_of_length_le (l:=a) (by omega),Nat.add_sub_cancel_left,List.take_append_of_le_length hle,List.drop_append_of_le_length hle];simp only [aaI,List.nil_append]
theorem vU {α:Type} (l:List α) (d:α) {i:Nat} (h:i<l.length):l.take i++[l.getD i d]=l.take (i+1):=by
 rw [tsI h,List.getD_eq_getElem?_getD,List.getElem?_eq_getElem h]; rfl
theorem qiy (n:Nd) (k:Nat) (ps:List Pt):∀ i,i<=k->i<=n.keys.length+1->wK n k ps i=n.keys.take (i - 1)
 | 0,_,_=>by simp [wK]
 | i+1,h,hl=>by
  rw [yw,qiy n k ps i (by omega) (by omega),if_neg (show ¬ i=k by omega),List.append_nil];by_cases h0:i=0
  ·subst h0; simp
  ·rw [if_pos (by omega),vU _ _ (by omega)]; congr 1; omega
theorem qiz (n:Nd) (k:Nat) (ps:List Pt):∀ d,k+d<=n.keys.length->wK n k ps (k+1+d)=n.keys.take k++(ps.tail.map (·.1)++(n.keys.drop k).take d)
 | 0,h=>by
  rw [Nat.add_zero,yw,qiy n k ps k (Nat.le_refl _) (by omega),if_pos rfl,List.take_zero,List.append_nil,<- aaI];congr 1;by_cases h0:k=0
  ·subst h0; simp
  ·rw [if_pos (by omega),vU _ _ (by omega)]; congr 1; omega
 | d+1,h=>by
  rw [<- Nat.add_assoc,yw,qiz n k ps d (by omega),if_pos (by omega),if_neg (by omega),List.append_nil,aaI,aaI];congr 2;rw [<- vU (n.keys.drop k) [] (by rw [ldI]; omega)];congr 2;rw [List.getD_eq_getElem?_getD,List.getD_eq_getElem?_getD,List.getElem?_drop];congr 2;omega
theorem qiA (n:Nd) (k:Nat) (ps:List Pt):∀ i,i<=k->i<=n.kids.length->wI n k ps i=n.kids.take i
 | 0,_,_=>by simp [wI]
 | i+1,h,hl=>by rw [yx,qiA n k ps i (by omega) (by omega),if_neg (show ¬ i=k by omega),vU _ _ (by omega)]
theorem qiB (n:Nd) (k:Nat) (ps:List Pt):∀ d,k+1+d<=n.kids.length->wI n k ps (k+1+d)=n.kids.take k++(ps.map (·.2)++(n.kids.drop (k+1)).take d)
 | 0,h=>by rw [Nat.add_zero,yx,qiA n k ps k (Nat.le_refl _) (by omega),if_pos rfl,List.take_zero,List.append_nil]
 | d+1,h=>by
  rw [<- Nat.add_assoc,yx,qiB n k ps d (by omega),if_neg (by omega),aaI,aaI];congr 2;rw [<- vU (n.kids.drop (k+1)) 0 (by rw [ldI]; omega)];congr 2;rw [List.getD_eq_getElem?_getD,List.getD_eq_getElem?_getD,List.getElem?_drop]
theorem withN_eq (n:Nd) (k:Nat) (ps:List Pt) (h:k<n.kids.length) (hl:n.kids.length=n.keys.length+1):vd n k ps=Nd.nd (n.keys.take k++(ps.tail.map (·.1)++n.keys.drop k)) (n.kids.take k++(ps.map (·.2)++n.kids.drop (k+1))):=by
 have h1:=qiz n k ps (n.keys.length - k) (by omega);have h2:=qiB n k ps (n.kids.length - (k+1)) (by omega);rw [show k+1+(n.keys.length - k)=n.kids.length by omega,List.take_of_length_le (l:=n.keys.drop k) (by rw [ldI]; omega)] at h1;rw [show k+1+(n.kids.length - (k+1))=n.kids.length by omega,List.take_of_length_le (l:=n.kids.drop (k+1)) (by rw [ldI]; omega)] at h2;unfold vd;rw [h1,h2]
end Go.Fx.Tryz
