/- Parts of a proof: DuB, TreeGe, TreeSc, TreeRp. Conditions: none. -/
import Derived.Test.YtbhdhhgpfanmcaaGreatDoorQw20
set_option linter.unusedSimpArgs false
set_option linter.unusedVariables false
namespace Go.Fx.Tryz
open Go Go.Fx
structure Tab1 where
 nm:Bs
 root:Nat
 l:List Pr
 U:List Nat
 born:Nat
abbrev tbV (root n:Nat):Value:=.agg #[.int .i64 (root:Int),.int .i64 (n:Int)]
def enT (t:Tab1):MapEntry:={ key:=str t.nm,val:=tbV t.root t.l.length,born:=t.born }
def esT (ts:List Tab1):List MapEntry:=ts.map enT
theorem qhy (a b:Bs):((⟨a.toArray⟩:ByteArray) == ⟨b.toArray⟩)=decide (a=b):=by
 by_cases h:a=b
 ·rw [decide_eq_true h,h]; exact (WW _ _).2 rfl
 ·rw [decide_eq_false h];cases hc:((⟨a.toArray⟩:ByteArray) == ⟨b.toArray⟩) with
  | false=>rfl
  | true=>have:=(WW _ _).1 hc; simp at this; exact absurd this h
theorem ZB (a b:Bs):KU .str (str a) (str b)=some (decide (a=b)):=by show some _=_; rw [qhy]
theorem Kc {nm:Bs}:∀ (ts:List Tab1) (i:Nat),(∀ t∈ts,t.nm≠nm)->kV .str (str nm) (esT ts) i=some none
 | [],i,_=>rfl
 | t::ts,i,h=>by
  have h1:=h t (by simp);have ih:=Kc ts (i+1) λq hq=>h q (by simp [hq])
  simp only [esT,List.map_cons,kV,enT] at ih ⊢;rw [ZB,decide_eq_false (λe=>h1 e.symm)];exact ih
theorem Zj {q:Tab1} {b:List Tab1}:∀ (a:List Tab1) (i:Nat),(∀ t∈a,t.nm≠q.nm)->kV .str (str q.nm) (esT (a++q::b)) i=some (some (i+a.length,tbV q.root q.l.length))
 | [],i,_=>by
  simp only [esT,List.nil_append,List.map_cons,kV,enT];rw [ZB,decide_eq_true rfl]; rfl
 | t::a,i,h=>by
  have h1:=h t (by simp);have ih:=Zj (b:=b) a (i+1) λq hq=>h q (by simp [hq])
  simp only [esT,List.cons_append,List.map_cons,kV,enT] at ih ⊢;rw [ZB,decide_eq_false (λe=>h1 e.symm)];simp only [lnI] at ih ⊢;rw [ih];congr 3; omega
theorem Vk {α:Type} (f:α->α) (x:α) (b:List α):∀ a:List α,(a++x::b).modify a.length f=a++f x::b
 | []=>rfl
 | y::a=>by simp only [List.cons_append,lnI,List.modify_succ_cons,Vk f x b a]
section
variable {m:Mem} {tm K:Nat} {ts:List Tab1} {nm:Bs}
theorem Ht (h:m.get tm=some ⟨.map (esT ts) K,false,none⟩) (hn:∀ t∈ts,t.nm≠nm) (z:Value):zl .str z true (.map (some tm)) (str nm) m=some (.tuple #[z,.bool false]):=by
 have:m.xq tm=some (esT ts,K):=by simp [Mem.xq,h]
 simp only [zl,this,bmI,Kc ts 0 hn]; rfl
theorem Hu {a b:List Tab1} {q:Tab1} (h:m.get tm=some ⟨.map (esT (a++q::b)) K,false,none⟩) (hn:∀ t∈a,t.nm≠q.nm) (z:Value):zl .str z true (.map (some tm)) (str q.nm) m=some (.tuple #[tbV q.root q.l.length,.bool true]):=by
 have:m.xq tm=some (esT (a++q::b),K):=by simp [Mem.xq,h]
 simp only [zl,this,bmI,Zj a 0 hn]; rfl
theorem qdD {a b:List Tab1} {q:Tab1} (h:m.get tm=some ⟨.map (esT (a++q::b)) K,false,none⟩) (hn:∀ t∈a,t.nm≠q.nm) (z:Value):zl .str z false (.map (some tm)) (str q.nm) m=some (tbV q.root q.l.length):=by
 have:m.xq tm=some (esT (a++q::b),K):=by simp [Mem.xq,h]
 simp only [zl,this,bmI,Zj a 0 hn]; rfl
theorem qhj (h:m.get tm=some ⟨.map (esT ts) K,false,none⟩) (hn:∀ t∈ts,t.nm≠nm) (r:Nat) (l:List Pr) (U:List Nat):zt .str (.map (some tm)) (str nm) (tbV r l.length) m=some (m.put tm ⟨.map (esT (ts++[⟨nm,r,l,U,K⟩])) (K+1),false,none⟩):=by
 have:m.jL tm=some (esT ts,K,none):=by simp [Mem.jL,h]
 simp only [zt,this,bmI,QY,if_true,Kc ts 0 hn,Option.map_some];simp only [esT,List.map_append]; rfl
theorem qhk {a b:List Tab1} {q:Tab1} (h:m.get tm=some ⟨.map (esT (a++q::b)) K,false,none⟩) (hn:∀ t∈a,t.nm≠q.nm) (r:Nat) (l:List Pr) (U:List Nat):zt .str (.map (some tm)) (str q.nm) (tbV r l.length) m=some (m.put tm ⟨.map (esT (a++⟨q.nm,r,l,U,q.born⟩::b)) K,false,none⟩):=by
 have:m.jL tm=some (esT (a++q::b),K,none):=by simp [Mem.jL,h]
 have e:(esT (a++q::b)).modify (0+a.length) (λe=>{ e with val:=tbV r l.length })=esT (a++⟨q.nm,r,l,U,q.born⟩::b):=by
  have hl:0+a.length=(a.map enT).length:=by simp
  simp only [esT,List.map_append,List.map_cons];rw [hl,Vk]; rfl
 simp only [zt,this,bmI,QY,if_true,Zj a 0 hn,Option.map_some,e]
theorem qkM (h:m.get tm=some ⟨.map (esT ts) K,false,none⟩):yA (.map (some tm)) m=some (.int .i64 (ts.length:Int)):=by
 have:m.xq tm=some (esT ts,K):=by simp [Mem.xq,h]
 simp [yA,this,esT]
end
def wo:List Tb->Bs->List Tb
 | [],nm=>[(nm,[])]
 | t::T,nm=>if ltB t.1 nm then t::wo T nm else (nm,[])::t::T
def vI (T:List Tb) (nm:Bs) (l:List Pr):List Tb:=T.map λt=>if t.1=nm then (nm,l) else t
abbrev pT (t:Tab1):Tb:=(t.nm,t.l)
structure Mo (ts:List Tab1) (T:List Tb):Prop where
 perm:(ts.map pT).Perm T
 rise:T.Pairwise λa b=>ltB a.1 b.1=true
theorem yM (nm:Bs):∀ T:List Tb,(wo T nm).Perm ((nm,[])::T)
 | []=>.refl _
 | t::T=>by
  unfold wo;split
  ·exact ((yM nm T).cons t).trans (.swap _ _ _)
  ·exact .refl _
theorem QZ {nm:Bs} {T:List Tb} {t:Tb}:t∈wo T nm↔t=(nm,[])∨t∈T:=by rw [(yM nm T).mem_iff,lcI]
theorem ZP {nm:Bs}:∀ T:List Tb,(T.Pairwise λa b=>ltB a.1 b.1=true)->(∀ t∈T,t.1≠nm)->(wo T nm).Pairwise λa b=>ltB a.1 b.1=true
 | [],_,_=>by simp [wo]
 | t::T,h,hn=>by
  obtain ⟨h1,h2⟩:=List.pairwise_cons.1 h;unfold wo;split
  ·rename_i hc;refine List.pairwise_cons.2 ⟨λq hq=>?_,ZP T h2 λq hq=>hn q (by simp [hq])⟩;rcases QZ.1 hq with rfl|hq
   ·exact hc
   ·exact h1 q hq
  ·rename_i hc;have hc':ltB t.1 nm=false:=by simpa using hc
   have hlt:ltB nm t.1=true:=by
    cases hx:ltB nm t.1 with
    | true=>rfl
    | false=>exact absurd (XN hc' hx) (hn t (by simp))
   refine List.pairwise_cons.2 ⟨λq hq=>?_,h⟩;rcases lcI.1 hq with rfl|hq
   ·exact hlt
   ·exact zT hlt (h1 q hq)
theorem Ju (T:List Tb) (nm:Bs) (l:List Pr):(vI T nm l).map (·.1)=T.map (·.1):=by
 unfold vI;rw [List.map_map];refine List.map_congr_left λt _=>?_
 simp only [Function.comp];split
 ·rename_i h; exact h.symm
 ·rfl
theorem kD {T:List Tb}:(T.Pairwise λa b=>ltB a.1 b.1=true)↔(T.map (·.1)).Pairwise λa b=>ltB a b=true:=by rw [List.pairwise_map]
theorem JH {T:List Tb} (h:T.Pairwise λa b=>ltB a.1 b.1=true):(T.map (·.1)).Nodup:=(kD.1 h).imp λ{a b} h=>Qn h
section
variable {ts:List Tab1} {T:List Tb}
theorem Mo.names (h:Mo ts T):(ts.map (·.nm)).Perm (T.map (·.1)):=by
 have:=h.perm.map (·.1)
 rwa [List.map_map] at this
theorem Mo.nodup (h:Mo ts T):(ts.map (·.nm)).Nodup:=h.names.nodup_iff.2 (JH h.rise)
theorem Mo.mem (h:Mo ts T) {t:Tab1} (ht:t∈ts):(t.nm,t.l)∈T:=h.perm.mem_iff.1 (List.mem_map.2 ⟨t,ht,rfl⟩)
theorem Mo.len (h:Mo ts T):ts.length=T.length:=by have:=h.perm.length_eq; simpa using this
theorem Mo.no (h:Mo ts T) {nm:Bs} (hn:∀ t∈ts,t.nm≠nm):∀ t∈T,t.1≠nm:=λt ht e=>by
 obtain ⟨q,hq,hqe⟩:=List.mem_map.1 (h.perm.mem_iff.2 ht);exact hn q hq (by rw [<- e,<- hqe])
theorem Mo.make (h:Mo ts T) {nm:Bs} (hn:∀ t∈ts,t.nm≠nm) (r:Nat) (U:List Nat) (k:Nat):Mo (ts++[⟨nm,r,[],U,k⟩]) (wo T nm):=by
 refine ⟨?_,ZP T h.rise (h.no hn)⟩;rw [List.map_append];exact (List.perm_append_comm.trans (List.Perm.cons _ h.perm)).trans (yM nm T).symm
theorem kS {a b:List Tab1} {q:Tab1} (h:((a++q::b).map (·.nm)).Nodup):(∀ t∈a,t.nm≠q.nm)/\∀ t∈b,t.nm≠q.nm:=by
 rw [List.map_append,List.map_cons] at h;obtain ⟨h1,h2,h3⟩:=List.nodup_append.1 h;obtain ⟨h4,h5⟩:=List.nodup_cons.1 h2;exact ⟨λt ht=>h3 t.nm (List.mem_map.2 ⟨t,ht,rfl⟩) q.nm (by simp),λt ht e=>h4 (List.mem_map.2 ⟨t,ht,e⟩)⟩
theorem Mo.set {a b:List Tab1} {q:Tab1} (h:Mo (a++q::b) T) (l:List Pr) (r:Nat) (U:List Nat) (k:Nat):Mo (a++⟨q.nm,r,l,U,k⟩::b) (vI T q.nm l):=by
 obtain ⟨n1,n2⟩:=kS h.nodup;have e:∀ c:List Tab1,(∀ t∈c,t.nm≠q.nm)->(c.map pT).map (λt:Tb=>if t.1=q.nm then (q.nm,l) else t)=c.map pT:=λc hc=>by
  rw [List.map_map];exact List.map_congr_left λt ht=>by simp [pT,hc t ht]
 refine ⟨?_,?_⟩
 ·have:=h.perm.map λt:Tb=>if t.1=q.nm then (q.nm,l) else t
  rw [List.map_append,List.map_cons,List.map_append,List.map_cons,e a n1,e b n2] at this;simpa [vI] using this
 ·rw [kD,Ju,<- kD]; exact h.rise
end
theorem Kb (ts:List Tab1) (nm:Bs):(∀ t∈ts,t.nm≠nm)∨∃ a q b,ts=a++q::b/\q.nm=nm:=by
 by_cases h:∃ t∈ts,t.nm=nm
 ·obtain ⟨t,ht,e⟩:=h;obtain ⟨a,b,rfl⟩:=List.append_of_mem ht;exact .inr ⟨a,t,b,rfl,e⟩
 ·exact .inl λt ht e=>h ⟨t,ht,e⟩
theorem Mo.sorted {ts:List Tab1} {T:List Tb} (h:Mo ts T):ya leb (ts.map (·.nm))=T.map (·.1):=by
 refine List.Perm.eq_of_pairwise (le:=λa b=>leb a b=true) (λa b _ _ h1 h2=>List.le_antisymm ((je _ _).1 h1) ((je _ _).1 h2)) (Jt (λa b c h1 h2=>?_) (λa b=>?_) _) ?_ ((wC leb _).trans h.names)
 ·rw [je] at *; exact List.le_trans h1 h2
 ·rw [Bool.or_eq_true,je,je]; exact List.le_total a b
 ·exact (kD.1 h.rise).imp λ{a b} h=>(je _ _).2 (List.le_of_lt (yJ.1 h))
end Go.Fx.Tryz
namespace Go.Fx.Tryz
open Go Go.Fx
def YF (l:List Pr) (key:Bs):Bs:=if zb l key then (l.getD (za l key) ([],[])).2 else []
theorem qhi {a b c:List Pr} {key:Bs} (ha:∀ x∈a,ltB x.1 key=true) (hc:∀ x∈c,ltB x.1 key=false/\x.1≠key):YF (a++(b++c)) key=YF b key:=by
 unfold YF;rw [yz ha hc,vw ha (λx hx=>(hc x hx).1)];cases ht:zb b key with
 | false=>rfl
 | true =>
  have:=xF ht;simp only [if_true];rw [List.getD_eq_getElem?_getD,List.getElem?_append_right (by omega),Nat.add_sub_cancel_left,List.getElem?_append_left this,<- List.getD_eq_getElem?_getD]
set_option maxRecDepth 4000 in
theorem qfD {key:Bs}:∀ (h:Nat) (x:Wx) (m:Mem) (page left:Nat) (lo:Bs) (hi:Option Bs) (l:List Pr) (U:List Nat),XR x m->x.err=0->x.rd+h<1000->h<left->left<=40->Tr x.o.s h page lo hi l U->inR lo hi key ->
  W (qcD (.int .i64 (page:Int)) (str key) x.v (.int .i64 (left:Int)) m) λr m'=>r=.tuple #[str (YF l key),.bool (zb l key),.int .i64 0]/\Upd [x.xb] m m':=by
 intro h
 induction h with
 | zero =>
  intro x m page left lo hi l U hx he hrd hle hl40 ht hin;obtain ⟨n,U',hp,hn,hnt,rfl⟩:=xf.1 ht;have hnt0:n=Nd.lf l/\(∀ x∈l,inR lo hi x.1)/\U'=[]:=hnt;obtain ⟨rfl,hl,rfl⟩:=hnt0;obtain ⟨hh,hlk⟩:=hp.here;have hlt:=xT hh;have hP:=hx.wr.hP;have e0:((page:Int)=0)=False:=eq_false (by omega);rw [P87_0_eq];simp only [st0,e0];refine qh.2 ((wT hx he (by omega) (by omega) (by omega) hh hlk hp.rt hp.sz).mono λv1 m1 ⟨t1,h1,u1⟩=>?_);have x1:=u1.next;have hT:=t1;obtain ⟨sp,sk,si,rfl,q1,q2,q3⟩:=t1.ex;simp only [st0];refine jf (c:=[.bool (Nd.lf l).leaf,sp,sk,si]) rfl rfl (by simp [q1.one.2,q2.one.2,q3.one.2,show (Value.bool (Nd.lf l).leaf).oneCell'=true from rfl]) λm2 b2 u2 n2=>?_
  have h2:=h1.qn u2;have T2:=hT.qn u2;have e5:=xok h2;rw [decide_eq_true (show ({ x with rd:=x.rd+1 }:Wx).err=0 from he)] at e5;have hlf:(Nd.lf l).leaf=true:=rfl;rw [hlf] at b2;simp only [st0,e5,fa,qF b2 (o:=0+0) rfl,qD b2];refine qh.2 ((XP key T2 (kO hp.rt hp.sz)).mono λv3 m3 ⟨r3,u3⟩=>?_);subst r3;have b3:=qq u3 (by omega) b2;have q13:RSl m.next qK m3 sp l:=(q1.qn u2).qn u3;have u03:Upd [x.xb] m m3:=(u1.qu u2).qu u3;show W _ _;cases hth:zb l key with
  | true =>
   have hth':zb (Nd.lf l).pairs key=true:=hth;have halt:=xF hth;obtain ⟨b,off,i1,i2⟩:=q13.1.at .i64 (jB halt);rw [qT] at i1 i2;have i3:=(i2 m3 q13.1).2 1 (str l[za l key].2) rfl;have i1:qi 2 sp (.int .i64 ((za (Nd.lf l).pairs key:Nat):Int))=some (.pointer (some ⟨b,off,none⟩)):=i1;simp only [st0,xt0,xt1,hth',fa,qF b3 (o:=0+1) rfl,i1,i3];refine ⟨?_,u03⟩;unfold YF;rw [hth,if_pos rfl,List.getD_eq_getElem?_getD,List.getElem?_eq_getElem halt]; rfl
  | false =>
   have hth':zb (Nd.lf l).pairs key=false:=hth;simp only [st0,xt0,xt1,hth'];refine ⟨?_,u03⟩;unfold YF;rw [hth]; rfl
 | succ h ih =>
  intro x m page left lo hi l U hx he hrd hle hl40 ht hin;obtain ⟨n,U',hp,hn,hnt,rfl⟩:=xf.1 ht;obtain ⟨ks,ps,rfl,hks,hfo⟩:=hnt;obtain ⟨hh,hlk⟩:=hp.here;have hlt:=xT hh;have hP:=hx.wr.hP;obtain ⟨_,i1,r1,v1,p1⟩:=zo hp.rt rfl;have i1:ps.length=ks.length+1:=i1;have r1:qE ks=true:=r1;have hcl:=(vE key ks r1).2.2;obtain ⟨p,lo',hi',l0,l1,l2,S0,S1,S2,e1,e2,e3,e4,e5,e6,e7,e8,e9⟩:=qbD (Qw x.o.s h) hfo r1 hks hin;subst e5 e6;have ecl:∀ y∈l2,ltB y.1 key=false/\y.1≠key:=λy hy=>⟨zU (e9 y hy),(Qn (e9 y hy)).symm⟩
  rw [yz e8 ecl,qhi e8 ecl];have e0:((page:Int)=0)=False:=eq_false (by omega);rw [P87_0_eq];simp only [st0,e0];refine qh.2 ((wT hx he (by omega) (by omega) (by omega) hh hlk hp.rt hp.sz).mono λv1 m1 ⟨t1,h1,u1⟩=>?_);have x1:=u1.next;have hT:=t1;obtain ⟨sp,sk,si,rfl,q1,q2,q3⟩:=t1.ex;have q3:RSl m.next zN m1 si ps:=q3;simp only [st0];refine jf (c:=[.bool (Nd.nd ks ps).leaf,sp,sk,si]) rfl rfl (by simp [q1.one.2,q2.one.2,q3.one.2,show (Value.bool (Nd.nd ks ps).leaf).oneCell'=true from rfl]) λm2 b2 u2 n2=>?_
  have h2:=h1.qn u2;have T2:=hT.qn u2;have z5:=xok h2;rw [decide_eq_true (show ({ x with rd:=x.rd+1 }:Wx).err=0 from he)] at z5;have hlf:(Nd.nd ks ps).leaf=false:=rfl;rw [hlf] at b2;simp only [st0,z5,fa,qF b2 (o:=0+0) rfl,qF b2 (o:=0+3) rfl,qD b2];refine qh.2 ((Kj key T2 (kO hp.rt hp.sz)).mono λv3 m3 ⟨r3,u3⟩=>?_);subst r3;have h3:=h2.qn u3;have b3:=qq u3 (by omega) b2;have q33:=(q3.qn u2).qn u3;have hget:ps[zM ks key]? = some p:=by
   have:=congrArg (λt:List Nat=>t[zM ks key]?) e1;rw [this,List.getElem?_append_right (by rw [ltI]; omega),ltI,Nat.min_eq_left (by omega),Nat.sub_self]; rfl
  obtain ⟨pk,y1,y2⟩:=KM q33 hget;have y2:=y2 m3 q33;have esub:arith .sub (.int .i64 (left:Int)) (.int .i64 1)=some (.int .i64 ((left - 1:Nat):Int)):=by rw [xh (by omega) (by omega)]; congr 2; omega
  have y1':qi 1 si (.int .i64 ((zM (Nd.nd ks ps).keys key:Nat):Int))=some pk:=y1;simp only [st0,y1',y2,esub];have u03:Upd [x.xb] m m3:=(u1.qu u2).qu u3;refine jC (λr hr=>?_) ((ih { x with rd:=x.rd+1 } m3 p (left - 1) lo' hi' l1 S1 h3 he (by show x.rd+1+h<1000; omega) (by omega) (by omega) e3 e7).mono λr m' ⟨a,b⟩=>⟨a,u03.trans b⟩);simp only [lcI,nmI,or_false] at hr;rcases hr with rfl|rfl|rfl
  ·exact okR λk _ hk=>by
    have:k=0∨k=1:=by omega
    rcases this with rfl|rfl
    ·exact ⟨_,rfl,qF b2 rfl⟩
    ·exact ⟨_,rfl,qF b3 rfl⟩
  ·exact okR λk _ hk=>by
    obtain rfl:k=0:=by omega
    exact ⟨_,rfl,qD b2⟩
  ·exact okR λk hk1 hk=>by
    obtain rfl:k=1:=by omega
    exact ⟨_,rfl,y2⟩
theorem qfC {o:Wo} {m:Mem} (h:WR o m) {root:Nat} {l:List Pr} {U:List Nat} (ht:TrR o.s root l U) (hnd:U.Nodup) (key:Bs) :
  W (Call S tab 87 [.pointer (some ⟨o.w,0,none⟩),.int .i64 (root:Int),str key] m) λr m'=>r=.tuple #[str (YF l key),.bool (zb l key),.int .i64 0]/\Upd [] m m':=by
 rw [C87];simp only [st0,qgf,qS];have hxr:=XR.begin h;have u1:Upd [] m (m.add (x0 o m.next).blk):=Upd.add _ _ _;have eblk:(⟨.cells [.pointer (some ⟨o.w,0,none⟩),.int .i64 0,.int .i64 0] 142,false,none⟩:ABlk)=(x0 o m.next).blk:=rfl;rw [eblk];generalize (m.add (x0 o m.next).blk)=m1 at u1 hxr;rcases ht with ⟨rfl,rfl,rfl⟩|⟨g,ht⟩
 ·have e0:(((0:Nat):Int)=0)=True:=eq_true rfl;rw [P87_0_eq];simp only [st0,e0];exact ⟨rfl,u1⟩
 ·have hlow:=(Kq h.hP ht hnd).1;refine (qfD g (x0 o m.next) m1 root 40 [] none l U hxr rfl (by show 0+g<1000; omega) (by omega) (by omega) ht (WD key)).mono λr m' ⟨a,b⟩=>⟨a,u1.then' b (λc hc=>.inr (by simp at hc; omega))⟩
set_option maxRecDepth 4000 in
theorem HL {x:Wx} {m:Mem} {key:Bs} {root b1 b2 h:Nat} {l:List Pr} {U:List Nat} (hx:XR x m) (he:x.err=0) (hrd:x.rd=0) (hf:Fu x.o) (ht:Tr x.o.s h root [] none l U) (hnd:U.Nodup) (hth:zb l key=true) {t1 t2:TypeId}
  (g1:m.get b1=some ⟨.cells [.int .i64 (root:Int)] t1,false,none⟩) (g2:m.get b2=some ⟨.cells [str key] t2,false,none⟩) :
  W (Call S tab 119 [x.v,.pointer (some ⟨b1,0,none⟩),.pointer (some ⟨b2,0,none⟩)] m) λr m'=>∃ x',XR x' m'/\Kin x x'/\Upd x.fp m m'/\((x'.err=8/\4<=(xA l key).length) ∨
   (x'.err=0/\Fu x'.o/\∃ (root':Nat) (U':List Nat),r=.int .i64 (root':Int)/\TrR x'.o.s root' (xA l key) U'/\Stp x.o.s x'.o.s U U'/\U'.Nodup)):=by
 have hP:=hx.wr.hP;have l1:qa (.pointer (some ⟨b1,0,none⟩)) m=some (.int .i64 (root:Int)):=qm g1 rfl;have l2:qa (.pointer (some ⟨b2,0,none⟩)) m=some (str key):=qm g2 rfl;have hlow:=(Kq hP ht hnd).1;rw [qmE];simp only [st0,l1,l2];refine qh.2 ((qhd h x m root 40 [] none l U hx he (by omega) hf (by omega) (by omega) ht hnd (WD key) hth).mono λr1 m1 hq=>?_);obtain ⟨r1',bb,rfl,hq⟩:=hq;rcases hq with ⟨h4,x',a1,a2,a3,a4⟩|⟨rfl,x',ps,U',a1,a2,a3,a4,a5,a6,a7,a8,a9,a10⟩
 ·have z:=qep a1 (by omega) r1';have z1:=xok a1;rw [decide_eq_false (show ¬ x'.err=0 by omega)] at z1;rw [a2.v] at z z1;simp only [st0,xt0,xt1,z,z1];exact ⟨x',a1,a2,a4,.inl ⟨a3,h4⟩⟩
 ·have z:=KY a1 a3 a5 (by rw [a2.fp]; exact hx.ym) a6 a7 a9;rw [a2.v] at z;simp only [st0,xt0,xt1];refine qh.2 (z.mono λr2 m2 hq=>?_);rcases hq with ⟨h4,x'',b1',b2',b3',b4⟩|⟨x'',root',U'',rfl,b1',b2',b3',b4,b5,b6,b7,b8,b9⟩
  ·have z1:=xok b1';rw [decide_eq_false (show ¬ x''.err=0 by omega),b2'.v,a2.v] at z1;simp only [st0,z1];exact ⟨x'',b1',a2.trans b2',a10.trans (by rw [a2.fp] at b4; exact b4),.inl ⟨b3',h4⟩⟩
  ·have z1:=xok b1';rw [decide_eq_true b3',b2'.v,a2.v] at z1;have k2:=a2.trans b2';have hw:∃ g,Tw x''.o.s g root' [] none (xA l key) U'':=by
    rcases b9 with ⟨d1,rfl,rfl,d4⟩|d
    ·rw [d1]; exact ⟨h,d4⟩
    ·exact ⟨h+1,d.qlu⟩
   obtain ⟨g,hw⟩:=hw;simp only [st0,z1];have z2:=YT b1' b3' b5 (by omega) hw b7;rw [b2'.v,a2.v] at z2;refine qh.2 (z2.mono λr3 m3 hq=>?_);obtain ⟨x3,root3,U3,rfl,c1,c2,c3,c4,c5,c6,c7,c8⟩:=hq;simp only [st0];rw [a2.fp] at b8;rw [k2.fp] at c8;exact ⟨x3,c1,k2.trans c2,(a10.trans b8).trans c8,.inr ⟨c3,c4,root3,U3,rfl,c5,(a8.trans b6).trans c6,c7⟩⟩
theorem qan {o:Wo} {ns:List St} {m:Mem} (h:WI o ns m) (hnl:ns.length<=90000) {root:Nat} {l:List Pr} {U:List Nat} (ht:TrR o.s root l U) (hnd:U.Nodup) (key:Bs) :
    W (Call S tab 83 [.pointer (some ⟨o.w,0,none⟩),.int .i64 (root:Int),str key] m) λr m'=>∃ o' ns',WI o' ns' m'/\Nx o o' m m'/\Gr ns ns' /\
      ((zb l key=false/\r=.tuple #[.int .i64 (root:Int),.bool false,.int .i64 0]/\o'=o)∨(zb l key=true/\4<=(xA l key).length/\r=.tuple #[.int .i64 (root:Int),.bool false,.int .i64 8]/\o'.s=o.s) ∨
       (zb l key=true/\∃ (root':Nat) (U':List Nat),r=.tuple #[.int .i64 (root':Int),.bool true,.int .i64 0]/\TrR o'.s root' (xA l key) U'/\Stp o.s o'.s U U'/\U'.Nodup)):=by
  rw [C83];have u1:Upd [] m (m.add ⟨.cells [.int .i64 (root:Int)] 3,false,none⟩):=Upd.add _ _ _;have g1:(m.add ⟨.cells [.int .i64 (root:Int)] 3,false,none⟩).get m.next=some ⟨.cells [.int .i64 (root:Int)] 3,false,none⟩:=Mem.qf ..;have n1:(m.add ⟨.cells [.int .i64 (root:Int)] 3,false,none⟩).next=m.next+1:=rfl;simp only [st0,VD,VC];generalize (m.add ⟨.cells [.int .i64 (root:Int)] 3,false,none⟩)=m1 at u1 g1 n1;have u2:Upd [] m1 (m1.add ⟨.cells [str key] 9,false,none⟩):=Upd.add _ _ _;have k2:(m1.add ⟨.cells [str key] 9,false,none⟩).get m1.next=some ⟨.cells [str key] 9,false,none⟩:=Mem.qf ..;have n2:(m1.add ⟨.cells [str key] 9,false,none⟩).next=m1.next+1:=rfl;have g2:=qq u2 (by omega) g1;generalize (m1.add ⟨.cells [str key] 9,false,none⟩)=m2 at u2 k2 n2 g2;have u02:Upd [] m m2:=u1.qu u2;have h2:=h.qn u02;have lr:qa (.pointer (some ⟨m.next,0,none⟩)) m2=some (.int .i64 (root:Int)):=qm g2 rfl;have lk:qa (.pointer (some ⟨m1.next,0,none⟩)) m2=some (str key):=qm k2 rfl;have htt:=ht;rcases ht with ⟨rfl,rfl,rfl⟩|⟨g,ht⟩
  · have e0:(((0:Nat):Int)=0)=True:=eq_true rfl;simp only [st0,lr,e0];exact ⟨o,ns,h2,Nx.of0 u02,Gr.rfl' _,.inl ⟨rfl,rfl,rfl⟩⟩
  · have hpos:=JE ht;have e0:((root:Int)=0)=False:=eq_false (by omega);have d0:decide ((0:Int)=0)=true:=rfl;have d8:decide ((8:Int)=0)=false:=rfl;simp only [st0,lr,e0,lk];refine qh.2 ((qfC h2.wr htt hnd key).mono λr3 m3 ⟨r3e,u3⟩=>?_);subst r3e;have x3:=u3.next;have g3:=qq u3 (by omega) g2;have k3:=qq u3 (by omega) k2;have h3:=h2.qn u3;have u03:Upd [] m m3:=u02.qu u3;have lr3:qa (.pointer (some ⟨m.next,0,none⟩)) m3=some (.int .i64 (root:Int)):=qm g3 rfl;cases hth:zb l key with
    | false =>
      simp only [st0,(ex3 _ _ _).1,(ex3 _ _ _).2.1,(ex3 _ _ _).2.2,d0,lr3];exact ⟨o,ns,h3,Nx.of0 u03,Gr.rfl' _,.inl ⟨trivial,trivial,rfl⟩⟩
    | true =>
      simp only [st0,(ex3 _ _ _).1,(ex3 _ _ _).2.1,(ex3 _ _ _).2.2,d0,lr3];refine qh.2 ((qiU (f:=119) h3 hnl (by rfl) (E:=4<=(xA l key).length) (Q:=λr o'=>∃ (root':Nat) (U':List Nat),r=.int .i64 (root':Int)/\TrR o'.s root' (xA l key) U'/\Stp o.s o'.s U U'/\U'.Nodup) (λx mb hx he hrd hf hs hPx hu hub hfp=>?_)).mono λr m' hq=>?_)
      · have nfoot:∀ b,m.next<=b->b<m3.next->b∉o.w::qc o.nt:=λb h1 h2 hm=>by
          have hn:b∉o.zE:=Wo.qcr h h1;apply hn;simp only [Wo.zE,lcI] at hm ⊢;rcases hm with h|h<;>simp [h]
        refine (HL hx he hrd hf (by rw [hs]; exact ht) hnd hth (hub.boxes g3 (by omega) (nfoot _ (by omega) (by omega))) (hub.boxes k3 (by omega) (nfoot _ (by omega) (by omega)))).mono λr m' hq=>?_
        obtain ⟨x',a1,a2,a3,a4⟩:=hq;exact ⟨x',a1,a2,a3,a4.imp id λ⟨z1,z2,root',U',z3,z4,z5,z6⟩=>⟨z1,z2,root',U',z3,z4,by rw [<- hs]; exact z5,z6⟩⟩
      · obtain ⟨o',ns',b1,b2,b3,b4⟩:=hq;have nx:Nx o o' m m':=(Nx.of0 u03).trans b2;rcases b4 with ⟨d1,rfl,d3⟩|⟨v,rfl,root',U',rfl,d3,d4,d5⟩
        · simp only [st0,xt0,xt1,d8];exact ⟨o',ns',b1,nx,b3,.inr (.inl ⟨trivial,d1,trivial,d3⟩)⟩
        · simp only [st0,xt0,xt1,d0];exact ⟨o',ns',b1,nx,b3,.inr (.inr ⟨trivial,root',U',rfl,d3,d4,d5⟩)⟩
end Go.Fx.Tryz
namespace Go.Fx.Tryz
open Go Go.Fx
def inF (a b:Bs) (p:Pr):Bool:=!ltB p.1 a&&(decide (b=[])||ltB p.1 b)
def xn (l:List Pr) (a b:Bs):List Pr:=l.filter (inF a b)
theorem Vd (l k:List Pr) (a b:Bs):xn (l++k) a b=xn l a b++xn k a b:=List.filter_append ..
theorem qbg (p:Pr):qt [.string ⟨#[]⟩,.string ⟨#[]⟩] [(0,2,.agg #[str p.1,str p.2])]=some (qK.flat [p]):=by
 obtain ⟨a,b⟩:=p
 kernel_rfl
theorem qit {R:TP} {p:Nat} {ps:List Nat} {ks:List Bs} {lo:Bs} {hi:Option Bs} {l:List Pr} {U:List Nat} (h:Fo R lo hi ks (p::ps) l U) :
  ∃ l1 U1 l2 U2,l=l1++l2/\U=U1++U2/\((ks=[]/\ps=[]/\R p lo hi l1 U1/\l2=[]/\U2=[])∨∃ k ks',ks=k::ks'/\R p lo (some k) l1 U1/\Fo R k hi ks' ps l2 U2):=by
 match ks,ps,h with
 | [],[],h=>exact ⟨l,U,[],[],by simp,by simp,.inl ⟨rfl,rfl,h,rfl,rfl⟩⟩
 | k::ks,ps,⟨l1,U1,l2,U2,h1,h2,h3,h4⟩=>exact ⟨l1,U1,l2,U2,h3,h4,.inr ⟨k,ks,rfl,h1,h2⟩⟩
theorem JP {lo0:Nat} {l:List Pr} {sp x0 x2 x12:Value} {a b:Bs} (hl:l.length<=1000) {Q:Value->Mem->Prop} {m0:Mem} (hsp:∀ c∈qc sp,c<m0.next)
  (hQ:∀ m v,TAp qK 81 m v (xn l a b)->(∀ c∈qc v,m0.next<=c)->Upd [] m0 m->W (qgN x0 x2 (str a) (str b) v x12 m) Q):∀ (d i:Nat) (m:Mem) (v:Value),l.length - i=d->i<=l.length->RSl lo0 qK m sp l->TAp qK 81 m v (xn (l.take i) a b)->(∀ c∈qc v,m0.next<=c)->Upd [] m0 m ->
  W (Kt x0 x2 (str a) (str b) v x12 sp (.int .i64 (l.length:Int)) (.int .i64 (i:Int)) m) Q:=by
 intro d
 induction d with
 | zero =>
  intro i m v hd hi h hv hvb hu;obtain rfl:i=l.length:=by omega
  rw [P78_0_eq];rw [List.take_length] at hv;simp only [st0,Int.lt_irrefl];exact hQ m v hv hvb hu
 | succ d ih =>
  intro i m v hd hi h hv hvb hu;have hlt:i<l.length:=by omega
  have e1:((i:Int)<(l.length:Int))=True:=eq_true (by omega);obtain ⟨bb,off,h1,h2⟩:=h.1.at .i64 (jB hlt);rw [qT] at h1 h2;have h2:=h2 m h.1;have hs:xn (l.take (i+1)) a b=xn (l.take i) a b++(if inF a b l[i] then [l[i]] else []):=by
   rw [tsI hlt,Vd];cases hf:inF a b l[i]<;>simp [xn,hf]
  have hlen:(xn (l.take i) a b).length<=1000:=Nat.le_trans (List.length_filter_le ..) (by rw [ltI]; omega);rw [P78_0_eq];simp only [st0,e1,h1,h2.1];refine jf (c:=qK.cells l[i]) rfl rfl rfl λm1 g1 u1 n1=>?_
  have ld:=qm (o:=0+0) (v:=str l[i].1) g1 rfl;have ldN:ql 2 (.pointer (some ⟨m.next,0,none⟩)) m1=some (.agg #[str l[i].1,str l[i].2]):=zG g1 rfl;have hv1:=hv.qn u1;have eq0:arith .eql (str b) (.string ⟨#[]⟩)=some (.bool (decide (b=[]))):=jJ b [];have skip:inF a b l[i]=false->W (Kt x0 x2 (str a) (str b) v x12 sp (.int .i64 (l.length:Int)) (.int .i64 ((i+1:Nat):Int)) m1) Q:=λhf=>by
   refine ih (i+1) m1 v (by omega) hlt (h.qn u1) ?_ hvb (hu.qu u1);rw [hs,hf,if_neg (by simp),List.append_nil]; exact hv1
  cases c1:ltB l[i].1 a with
  | true =>
   have hf:inF a b l[i]=false:=by simp [inF,c1]
   simp only [st0,fa,ld,yP,c1,qB (i:=i) (by omega)];exact skip hf
  | false =>
   have take:inF a b l[i]=true->∀ m1':Mem,m1'=m1->W ((qM 2 (.slice (some ⟨m1'.next,0,none⟩) 1 1) (m1'.add ⟨.cells (qK.flat [l[i]]) 81,false,none⟩)).bind λp28=>(qA 81 2 32 v p28.1 p28.2 (m1'.add ⟨.cells (qK.flat [l[i]]) 81,false,none⟩)).bind λp29=>(arith .add (.int .i64 (i:Int)) (.int .i64 1)).bind λv30=>Kt x0 x2 (str a) (str b) p29.1 x12 sp (.int .i64 (l.length:Int)) v30 p29.2) Q:=λhf m1' e=>by
    subst e;refine zZ (E:=qK) [l[i]] (by decide) hv1 (by simp only [lnI,List.length_nil]; omega) λv2 m2 q1 q2 q3=>?_
    simp only [st0,qB (i:=i) (by omega)];refine ih (i+1) m2 v2 (by omega) hlt ((h.qn u1).zL q2 (λc hc hm=>by have:=hsp c hc; have:=hvb c hm; omega)) ?_ (λc hc=>(q3 c hc).elim (hvb c) (λh=>by have:=hu.next; have:=u1.next; omega)) ((hu.qu u1).then' q2 (λc hc=>.inr (hvb c hc)));rw [hs,hf,if_pos rfl]; exact q1
   by_cases c2:b=[]
   ·have hf:inF a b l[i]=true:=by simp [inF,c1,c2]
    have d2:decide (b=[])=true:=decide_eq_true c2;simp only [st0,fa,ld,yP,c1,eq0,d2,ldN,qbg];exact take hf m1 rfl
   ·have d2:decide (b=[])=false:=decide_eq_false c2;cases c3:ltB l[i].1 b with
    | true =>
     have hf:inF a b l[i]=true:=by simp [inF,c1,c3]
     simp only [st0,fa,ld,yP,c1,eq0,d2,XO,c3,ldN,qbg];exact take hf m1 rfl
    | false =>
     have hf:inF a b l[i]=false:=by simp [inF,c1,c2,c3]
     simp only [st0,fa,ld,yP,c1,eq0,d2,XO,c3,qB (i:=i) (by omega)];exact skip hf
def ScQ (x:Wx) (r:Nat) (m:Mem) (N:Nat) (l:List Pr) (v:Value) (m':Mem):Prop :=
 TAp qK 81 m' v l/\(∀ c∈qc v,m.next<=c)/\Upd [x.xb] m m'/\∃ r',r'<=r+N/\XR { x with rd:=r' } m'
set_option maxRecDepth 4000 in
theorem qaQ {x:Wx} (he:x.err=0) {h left nb lo0:Nat} {ks:List Bs} {ps:List Nat} {sp sk si:Value} {a b:Bs} (hR:Rng (Tr x.o.s h)) (hks:qE ks=true) (hl40:1<=left/\left<=40) (hps:ps.length<=200) (hkp:ps.length=ks.length+1)
  (IH:∀ (r:Nat) (m:Mem) (page:Nat) (lo:Bs) (hi:Option Bs) (l:List Pr) (U:List Nat),XR { x with rd:=r } m->r+U.length<=1000->Tr x.o.s h page lo hi l U->W (Call S tab 78 [x.v,.int .i64 (page:Int),.int .i64 ((left - 1:Nat):Int),str a,str b] m) (ScQ x r m U.length (xn l a b)))
  {m0:Mem} (hxb:x.xb<m0.next) (hw0:x.o.w<m0.next/\x.o.pm<m0.next/\x.o.c<m0.next/\x.o.p<m0.next) (hnb:nb<m0.next/\nb≠x.xb) (hsk:∀ c∈qc sk,c<m0.next/\c≠x.xb) (hsi:∀ c∈qc si,c<m0.next/\c≠x.xb) (L:List Pr) (N r0:Nat) :
  ∀ (ps':List Nat) (i r:Nat) (m:Mem) (v:Value) (ks':List Bs) (lo':Bs) (hi:Option Bs) (lr:List Pr) (Ur:List Nat) (acc:List Pr),ps.drop i=ps'->ks.drop i=ks'->i<=ps.length->((ps'=[]/\lr=[]/\Ur=[])∨Fo (Tr x.o.s h) lo' hi ks' ps' lr Ur)->(0<i->i<=ks.length->ks[i - 1]? = some lo') ->
   XR { x with rd:=r } m->r+Ur.length<=1000->r+Ur.length<=r0+N->m.get nb=some (qg false sp sk si)->RSl lo0 encS m sk ks->RSl lo0 zN m si ps->TAp qK 81 m v acc->(∀ c∈qc v,m0.next<=c)->Upd [x.xb] m0 m->acc++xn lr a b=L->acc.length+lr.length<=200000 ->
   W (Xv x.v (.int .i64 (left:Int)) (str a) (str b) v (.pointer (some ⟨nb,0,none⟩)) si (.int .i64 (ps.length:Int)) (.int .i64 (i:Int)) m) λv' m'=>TAp qK 81 m' v' L/\(∀ c∈qc v',m0.next<=c)/\Upd [x.xb] m0 m'/\∃ r',r'<=r0+N/\XR { x with rd:=r' } m':=by
 intro ps'
 induction ps' with
 | nil =>
  intro i r m v ks' lo' hi lr Ur acc hi1 hk1 hil hfo hlo hx hr1 hr2 gb k2 k3 hv hvb hu hL hacc;have:ps.length<=i:=by simpa [List.drop_eq_nil_iff] using hi1
  have e1:((i:Int)<(ps.length:Int))=False:=eq_false (by omega);rw [P78_2_eq];simp only [st0,e1];have h0:lr=[]/\Ur=[]:=by
   rcases hfo with ⟨_,h2,h3⟩|h
   ·exact ⟨h2,h3⟩
   ·cases ks' with
    | nil=>exact h.elim
    | cons k ks'=>exact h.elim
  obtain ⟨rfl,rfl⟩:=h0;have hL:acc=L:=by simpa [xn] using hL
  subst hL;exact ⟨hv,hvb,hu,r,by simpa using hr2,hx⟩
 | cons p ps' ih =>
  intro i r m v ks' lo' hi lr Ur acc hi1 hk1 hil hfo hlo hx hr1 hr2 gb k2 k3 hv hvb hu hL hacc;have hlt:i<ps.length:=by
   rcases Nat.lt_or_ge i ps.length with h|h
   ·exact h
   ·rw [List.drop_of_length_le h] at hi1; cases hi1
  rw [List.drop_eq_getElem_cons hlt] at hi1;injection hi1 with hp hi1;have hfo:Fo (Tr x.o.s h) lo' hi ks' (p::ps') lr Ur:=hfo.resolve_left (λh=>by cases h.1)
  have e1:((i:Int)<(ps.length:Int))=True:=eq_true (by omega);obtain ⟨pk,y1,y2⟩:=KM k3 (i:=i) (p:=p) (by rw [List.getElem?_eq_getElem hlt,hp]);have y2:=y2 m k3;have z:=xok hx;have z:Call S tab 79 [x.v] m=some (.bool true,m):=by rw [decide_eq_true (show ({ x with rd:=r }:Wx).err=0 from he)] at z; exact z
  have esub:arith .sub (.int .i64 (left:Int)) (.int .i64 1)=some (.int .i64 ((left - 1:Nat):Int)):=by rw [xh (by omega) (by omega)]; congr 2; omega
  obtain ⟨l1,U1,l2,U2,rfl,rfl,hst⟩:=qit hfo;have hkid:∃ hi1,Tr x.o.s h p lo' hi1 l1 U1/\(∀ k,ks[i]? = some k->hi1=some k)/\∃ lo2,((ps'=[]/\l2=[]/\U2=[])∨Fo (Tr x.o.s h) lo2 hi (ks.drop (i+1)) ps' l2 U2)/\(i+1<=ks.length->ks[i]? = some lo2):=by
   rcases hst with ⟨e1,e2,e3,e4,e5⟩|⟨k,ks2,e1,e2,e3⟩
   ·refine ⟨hi,e3,λk hk=>?_,lo',.inl ⟨e2,e4,e5⟩,λh=>?_⟩
    ·have:ks.length<=i:=by rw [e1] at hk1; simpa [List.drop_eq_nil_iff] using hk1
     rw [List.getElem?_eq_none this] at hk; cases hk
    ·have:ks.length<=i:=by rw [e1] at hk1; simpa [List.drop_eq_nil_iff] using hk1
     omega
   ·rw [e1] at hk1;have hki:i<ks.length:=by
     rcases Nat.lt_or_ge i ks.length with h|h
     ·exact h
     ·rw [List.drop_of_length_le h] at hk1; cases hk1
    rw [List.drop_eq_getElem_cons hki] at hk1;injection hk1 with h1 h2;refine ⟨some k,e2,λk' hk'=>?_,k,.inr (by rw [h2]; exact e3),λ_=>by rw [List.getElem?_eq_getElem hki,h1]⟩;rw [List.getElem?_eq_getElem hki,h1] at hk'; exact hk'
  obtain ⟨hi1',ht1,hhi,lo2,hfo2,hlo2⟩:=hkid;rw [laI] at hr1 hr2 hacc;have hlen1:=List.length_filter_le (inF a b) l1;have next:∀ (r':Nat) (m':Mem) (v':Value),XR { x with rd:=r' } m'->r'<=r+U1.length->Upd [x.xb] m0 m'->m'.get nb=some (qg false sp sk si)->RSl lo0 encS m' sk ks->RSl lo0 zN m' si ps->TAp qK 81 m' v' (acc++xn l1 a b)->(∀ c∈qc v',m0.next<=c)->W (Xv x.v (.int .i64 (left:Int)) (str a) (str b) v' (.pointer (some ⟨nb,0,none⟩)) si (.int .i64 (ps.length:Int)) (.int .i64 ((i+1:Nat):Int)) m') λv' m'=>TAp qK 81 m' v' L/\(∀ c∈qc v',m0.next<=c)/\Upd [x.xb] m0 m'/\∃ r',r'<=r0+N/\XR { x with rd:=r' } m':=λr' m' v' hx' hr' hu' gb' k2' k3' hv' hvb' =>
   ih (i+1) r' m' v' (ks.drop (i+1)) lo2 hi l2 U2 (acc++xn l1 a b) hi1 rfl hlt hfo2 (λ_ h=>by rw [Nat.add_sub_cancel]; exact hlo2 h) hx' (by omega) (by omega) gb' k2' k3' hv' hvb' hu' (by rw [aaI,<- Vd]; exact hL) (by rw [laI]; show acc.length+(l1.filter _).length+l2.length<=200000; omega)
  have skip:xn l1 a b=[]->W (Xv x.v (.int .i64 (left:Int)) (str a) (str b) v (.pointer (some ⟨nb,0,none⟩)) si (.int .i64 (ps.length:Int)) (.int .i64 ((i+1:Nat):Int)) m) λv' m'=>TAp qK 81 m' v' L/\(∀ c∈qc v',m0.next<=c)/\Upd [x.xb] m0 m'/\∃ r',r'<=r0+N/\XR { x with rd:=r' } m':=λh0 =>
   next r m v hx (by omega) hu gb k2 k3 (by rw [h0,List.append_nil]; exact hv) hvb
  have go:W ((Call S tab 78 [x.v,.int .i64 (p:Int),.int .i64 ((left - 1:Nat):Int),str a,str b] m).bind λp51=>(qM 2 p51.1 p51.2).bind λp52=>(qA 81 2 32 v p52.1 p52.2 p51.2).bind λp53=>Xv x.v (.int .i64 (left:Int)) (str a) (str b) p53.1 (.pointer (some ⟨nb,0,none⟩)) si (.int .i64 (ps.length:Int)) (.int .i64 ((i+1:Nat):Int)) p53.2) λv' m'=>TAp qK 81 m' v' L/\(∀ c∈qc v',m0.next<=c)/\Upd [x.xb] m0 m'/\∃ r',r'<=r0+N/\XR { x with rd:=r' } m':=by
   refine qh.2 ((IH r m p lo' hi1' l1 U1 hx (by omega) ht1).mono λv1 m1 ⟨a1,a2,a3,r',a4,a5⟩=>?_);have hn:=hu.next;have nx:∀ c∈qc v,c∉[x.xb]:=λc hc hm=>by have:=hvb c hc; simp at hm; omega
   have hv1:=hv.upd a3 nx;refine jy (E:=qK) (xn l1 a b) (by decide) hv1 a1.tsl.src (by show (acc.length+(l1.filter _).length) * 33<=_; omega) λv2 m2 q1 q2 q3=>?_
   have hn1:=a3.next;have nv:∀ c,c<m0.next->c∉qc v:=λc hc hm=>by have:=hvb c hm; omega
   have n1:∀ c,c≠x.xb->c∉[x.xb]:=λc hc hm=>hc (by simpa using hm)
   refine next r' m2 v2 (a5.upd q2 λc hc=>?_) a4 ((hu.trans a3).then' q2 (λc hc=>.inr (hvb c hc))) ?_ ((k2.zL a3 (λc hc=>n1 c (hsk c hc).2)).zL q2 (λc hc=>nv c (hsk c hc).1)) ((k3.zL a3 (λc hc=>n1 c (hsi c hc).2)).zL q2 (λc hc=>nv c (hsi c hc).1)) q1 (λc hc=>(q3 c hc).elim (hvb c) (λh=>by omega))
   ·have:=hvb c hc;exact ⟨by show c≠x.xb; omega,by show c≠x.o.w; omega,by show c≠x.o.pm; omega,by show c≠x.o.c; omega,by show c≠x.o.p; omega⟩
   ·rw [q2.same nb (by omega) (nv nb hnb.1),a3.same nb (by omega) (n1 nb hnb.2)]; exact gb
  have hrg:=hR p lo' hi1' l1 U1 ht1;have hA:decide ((i:Int)<(ks.length:Int))=false∨(∃ pk k,decide ((i:Int)<(ks.length:Int))=true/\qi 1 sk (.int .i64 (i:Int))=some pk/\qa pk m=some (str k)/\ltB a k=true) ∨
    (∃ pk k,(decide ((i:Int)<(ks.length:Int))=true/\qi 1 sk (.int .i64 (i:Int))=some pk/\qa pk m=some (str k)/\ltB a k=false)/\xn l1 a b=[]):=by
   by_cases hik:i<ks.length
   ·obtain ⟨pk,w1,w2⟩:=HA k2 (List.getElem?_eq_getElem hik);have d1:decide ((i:Int)<(ks.length:Int))=true:=decide_eq_true (by omega);cases hc:ltB a ks[i] with
    | true=>exact .inr (.inl ⟨pk,ks[i],d1,w1,w2 m k2,hc⟩)
    | false =>
     refine .inr (.inr ⟨pk,ks[i],⟨d1,w1,w2 m k2,hc⟩,wO λy hy=>?_⟩);have:=xu ((hrg y hy).2 ks[i] (hhi ks[i] (List.getElem?_eq_getElem hik))) hc;simp [inF,this]
   ·exact .inl (decide_eq_false (by omega))
  have hB:decide ((0:Int)<(i:Int))=false∨(decide ((0:Int)<(i:Int))=true/\decide (b=[])=true) ∨
    (∃ pk,decide ((0:Int)<(i:Int))=true/\decide (b=[])=false/\arith .sub (.int .i64 (i:Int)) (.int .i64 1)=some (.int .i64 ((i - 1:Nat):Int))/\qi 1 sk (.int .i64 ((i - 1:Nat):Int))=some pk/\qa pk m=some (str lo')/\ltB lo' b=true) ∨
    (∃ pk,(decide ((0:Int)<(i:Int))=true/\decide (b=[])=false/\arith .sub (.int .i64 (i:Int)) (.int .i64 1)=some (.int .i64 ((i - 1:Nat):Int))/\qi 1 sk (.int .i64 ((i - 1:Nat):Int))=some pk/\qa pk m=some (str lo')/\ltB lo' b=false)/\xn l1 a b=[]):=by
   by_cases h0:0<i
   ·have d1:decide ((0:Int)<(i:Int))=true:=decide_eq_true (by omega);by_cases hb:b=[]
    ·exact .inr (.inl ⟨d1,decide_eq_true hb⟩)
    ·have d2:decide (b=[])=false:=decide_eq_false hb;obtain ⟨pk,w1,w2⟩:=HA k2 (hlo h0 (by omega));have d3:arith .sub (.int .i64 (i:Int)) (.int .i64 1)=some (.int .i64 ((i - 1:Nat):Int)):=by rw [xh (by omega) (by omega)]; congr 2; omega
     cases hc:ltB lo' b with
     | true=>exact .inr (.inr (.inl ⟨pk,d1,d2,d3,w1,w2 m k2,rfl⟩))
     | false =>
      refine .inr (.inr (.inr ⟨pk,⟨d1,d2,d3,w1,w2 m k2,rfl⟩,wO λy hy=>?_⟩));have h3:ltB y.1 b=false:=by
       cases h4:ltB y.1 b with
       | false=>rfl
       | true=>have:=xu h4 hc; rw [(hrg y hy).1] at this; cases this
      simp [inF,h3,hb]
   ·exact .inl (decide_eq_false (by omega))
  have neq0:arith .neq (str b) (.string ⟨#[]⟩)=some (.bool (decide (¬ b=[]))):=QS b [];have hlk:=zf k2;have hld:=qF gb (o:=0+2) rfl;rw [P78_2_eq];rcases hA with eA|⟨pkA,kA,eA⟩|⟨pkA,kA,eA,hskA⟩<;>rcases hB with eB|eB|⟨pkB,eB⟩|⟨pkB,eB,hskB⟩ <;>
   simp only [st0,e1,y1,y2,fa,hld,hlk,eA,eB,QX,yP,neq0,z,esub,qB (i:=i) (by omega)]<;>first|exact go|exact skip (by assumption)
theorem qcR {R:TP} (hR:∀ p lo hi l U,R p lo hi l U->l.length<=127 * U.length):∀ (ks:List Bs) (ps:List Nat) (lo:Bs) (hi:Option Bs) (l:List Pr) (U:List Nat),Fo R lo hi ks ps l U->l.length<=127 * U.length
 | [],[p],lo,hi,l,U,h=>hR _ _ _ _ _ h
 | k::ks,p::ps,lo,hi,l,U,⟨l1,U1,l2,U2,h1,h2,h3,h4⟩=>by
  subst h3 h4;have a:=hR _ _ _ _ _ h1;have b:=qcR hR ks ps _ _ _ _ h2;simp only [laI]; omega
 | [],[],_,_,_,_,hf=>hf.elim
 | [],_::_::_,_,_,_,_,hf=>hf.elim
 | _::_,[],_,_,_,_,hf=>hf.elim
theorem XT (s:Nat->Option Bs):∀ (h p:Nat) (lo:Bs) (hi:Option Bs) (l:List Pr) (U:List Nat),Tr s h p lo hi l U->l.length<=127 * U.length
 | 0,p,lo,hi,l,U,⟨n,S',hp,hn,⟨e1,_,e2⟩,e3⟩=>by
  subst e1 e2 e3;have:=(vW hp.rt hp.sz).1;simpa [Nd.lf] using this
 | h+1,p,lo,hi,l,U,⟨n,S',hp,hn,⟨ks,ps,e1,hk,hf⟩,e3⟩=>by
  subst e3;have:=qcR (XT s h) ks ps lo hi l S' hf;simp only [lnI]; omega
set_option maxRecDepth 4000 in
theorem qfb {x:Wx} (he:x.err=0) {a b:Bs}:∀ (h r:Nat) (m:Mem) (page left:Nat) (lo:Bs) (hi:Option Bs) (l:List Pr) (U:List Nat),XR { x with rd:=r } m->r+U.length<=1000->h<left->left<=40->Tr x.o.s h page lo hi l U ->
  W (Call S tab 78 [x.v,.int .i64 (page:Int),.int .i64 (left:Int),str a,str b] m) (ScQ x r m U.length (xn l a b)):=by
 intro h
 induction h with
 | zero =>
  intro r m page left lo hi l U hx hrd hle hl40 ht;obtain ⟨n,U',hp,hn,hnt,rfl⟩:=xf.1 ht;have hnt0:n=Nd.lf l/\(∀ x∈l,inR lo hi x.1)/\U'=[]:=hnt;obtain ⟨rfl,hl,rfl⟩:=hnt0;obtain ⟨hh,hlk⟩:=hp.here;have hlt:=xT hh;have hP:=hx.wr.hP;have hP:x.o.P<=160:=hP;have hfew:l.length<=127:=(vW hp.rt hp.sz).1;simp only [lnI,List.length_nil] at hrd ⊢;rw [C78];refine qh.2 ((wT (x:={ x with rd:=r }) hx he (by show r<1000; omega) (by omega) (by omega) hh hlk hp.rt hp.sz).mono λv1 m1 ⟨t1,h1,u1⟩=>?_);have h1:XR { x with rd:=r+1 } m1:=h1;have u1:Upd [x.xb] m m1:=u1;have x1:=u1.next;obtain ⟨sp,sk,si,rfl,q1,q2,q3⟩:=t1.ex;have q1:RSl m.next qK m1 sp l:=q1;have q3:RSl m.next zN m1 si []:=q3;simp only [st0];refine jf (c:=[.bool (Nd.lf l).leaf,sp,sk,si]) rfl rfl (by simp [q1.one.2,q2.one.2,q3.one.2,show (Value.bool (Nd.lf l).leaf).oneCell'=true from rfl]) λm2 b2 u2 n2=>?_
  have h2:=h1.qn u2;have q12:=q1.qn u2;have q32:=q3.qn u2;have x2:=u2.next;simp only [st0,fa,qF b2 (o:=0+1) rfl,zf q12];refine JP (by omega) (λc hc=>(q12.2 c hc).2) (λm3 v hv hvb u3=>?_) _ 0 m2 _ rfl (Nat.zero_le _) q12 (TAp.nil _) (λc hc=>by simp [qc] at hc) (Upd.refl _ _);have b3:=qq u3 (by omega) b2;have q33:=q32.qn u3;have e0:((0:Int)<(([]:List Nat).length:Int))=False:=eq_false (by simp);rw [P78_1_eq];simp only [st0,fa,qF b3 (o:=0+3) rfl,zf q33];rw [P78_2_eq];simp only [st0,e0];exact ⟨hv,λc hc=>by have:=hvb c hc; omega,(u1.qu u2).qu u3,r+1,by simp,h2.qn u3⟩
 | succ h ih =>
  intro r m page left lo hi l U hx hrd hle hl40 ht;have hmost:=XT x.o.s (h+1) page lo hi l U ht;obtain ⟨n,U',hp,hn,hnt,rfl⟩:=xf.1 ht;obtain ⟨ks,ps,rfl,hks,hfo⟩:=hnt;obtain ⟨hh,hlk⟩:=hp.here;have hlt:=xT hh;have hP:=hx.wr.hP;have hP:x.o.P<=160:=hP;have hfew:=Zl hp.rt hp.sz;have hfew:ps.length<=ks.length+1/\ps.length<=200:=hfew;obtain ⟨hp0,i1,r1,v1,p1⟩:=zo hp.rt rfl;have i1:ps.length=ks.length+1:=i1;have r1:qE ks=true:=r1;simp only [lnI] at hrd hmost ⊢;have w1:=hx.wr.lw; have w2:=hx.wr.lm; have w3:=hx.wr.lc; have w4:=hx.wr.lp; have w5:=hx.lx;have w1:x.o.w<m.next:=w1;have w2:x.o.pm<m.next:=w2;have w3:x.o.c<m.next:=w3;have w4:x.o.p<m.next:=w4;have w5:x.xb<m.next:=w5;rw [C78];refine qh.2 ((wT (x:={ x with rd:=r }) hx he (by show r<1000; omega) (by omega) (by omega) hh hlk hp.rt hp.sz).mono λv1 m1 ⟨t1,h1,u1⟩=>?_);have h1:XR { x with rd:=r+1 } m1:=h1;have u1:Upd [x.xb] m m1:=u1;have x1:=u1.next;obtain ⟨sp,sk,si,rfl,q1,q2,q3⟩:=t1.ex;have q1:RSl m.next qK m1 sp []:=q1;have q2:RSl m.next encS m1 sk ks:=q2;have q3:RSl m.next zN m1 si ps:=q3;simp only [st0];refine jf (c:=[.bool (Nd.nd ks ps).leaf,sp,sk,si]) rfl rfl (by simp [q1.one.2,q2.one.2,q3.one.2,show (Value.bool (Nd.nd ks ps).leaf).oneCell'=true from rfl]) λm2 b2 u2 n2=>?_
  have h2:=h1.qn u2;have q12:=q1.qn u2;have q22:=q2.qn u2;have q32:=q3.qn u2;have x2:=u2.next;simp only [st0,fa,qF b2 (o:=0+1) rfl,zf q12];refine JP (l:=[]) (by simp) (λc hc=>(q12.2 c hc).2) (λm3 v hv hvb u3=>?_) _ 0 m2 _ rfl (Nat.zero_le _) q12 (TAp.nil _) (λc hc=>by simp [qc] at hc) (Upd.refl _ _);have b3:=qq u3 (by omega) b2;have q33:=q32.qn u3;have x3:=u3.next;rw [P78_1_eq];simp only [st0,fa,qF b3 (o:=0+3) rfl,zf q33];have k2:∀ c∈qc sk,c<m2.next/\c≠x.xb:=λc hc=>⟨(q22.2 c hc).2,by have:=(q22.2 c hc).1; omega⟩
  have k3:∀ c∈qc si,c<m2.next/\c≠x.xb:=λc hc=>⟨(q32.2 c hc).2,by have:=(q32.2 c hc).1; omega⟩
  refine (qaQ (lo0:=m.next) (x:=x) he (h:=h) (m0:=m2) (r0:=r) (N:=U'.length+1) (L:=xn l a b) (Qw x.o.s h) r1 ⟨by omega,hl40⟩ hfew.2 i1 (λr m page lo hi l U hx hr ht=>ih r m page (left - 1) lo hi l U hx hr (by omega) (by omega) ht)
   (by omega) ⟨by omega,by omega,by omega,by omega⟩ ⟨by omega,by omega⟩ k2 k3 ps 0 (r+1) m3 v ks lo hi l U' [] rfl rfl (Nat.zero_le _) (.inr hfo) (λh=>by omega) (h2.qn u3) (by omega) (by omega) b3 (q22.qn u3) q33 hv hvb u3.nil' (by simp) (by simp; omega)).mono λv' m' ⟨c1,c2,c3,r',c4,c5⟩=>?_
  exact ⟨c1,λc hc=>by have:=c2 c hc; omega,(u1.qu u2).trans c3,r',c4,c5⟩
theorem qhA {o:Wo} {m:Mem} (h:WR o m) {root:Nat} {l:List Pr} {U:List Nat} (ht:TrR o.s root l U) (hnd:U.Nodup) (a b:Bs) :
  W (Call S tab 41 [.pointer (some ⟨o.w,0,none⟩),.int .i64 (root:Int),str a,str b] m) λr m'=>∃ v,r=.tuple #[v,.int .i64 0]/\TAp qK 81 m' v (xn l a b)/\(∀ c∈qc v,m.next<=c)/\Upd [] m m':=by
 rw [C41];rcases ht with ⟨rfl,rfl,rfl⟩|⟨g,ht⟩
 ·have e0:(((0:Nat):Int)=0)=True:=eq_true rfl;simp only [st0,e0];exact ⟨_,rfl,TAp.nil _,λc hc=>by simp [qc] at hc,Upd.refl _ _⟩
 ·have hpos:=JE ht;have hlow:=Kq h.hP ht hnd;have e0:((root:Int)=0)=False:=eq_false (by omega);have hxr:=XR.begin h;have u1:Upd [] m (m.add (x0 o m.next).blk):=Upd.add _ _ _;have n1:(m.add (x0 o m.next).blk).next=m.next+1:=rfl;have eblk:(⟨.cells [.pointer (some ⟨o.w,0,none⟩),.int .i64 0,.int .i64 0] 142,false,none⟩:ABlk)=(x0 o m.next).blk:=rfl;simp only [st0,e0,qgf,qS];rw [eblk];generalize (m.add (x0 o m.next).blk)=m1 at u1 hxr n1;refine qh.2 ((qfb (x:=x0 o m.next) rfl (a:=a) (b:=b) g 0 m1 root 40 [] none l U hxr (by omega) (by omega) (by omega) ht).mono λv m2 ⟨c1,c2,c3,r',c4,c5⟩=>?_);have z:=xok c5;rw [decide_eq_true (show ({ x0 o m.next with rd:=r' }:Wx).err=0 from rfl)] at z;have z:Call S tab 79 [(x0 o m.next).v] m2=some (.bool true,m2):=z;simp only [st0,z];exact ⟨_,rfl,c1,λc hc=>by have:=c2 c hc; omega,u1.then' c3 (λc hc=>.inr (by simp at hc; omega))⟩
end Go.Fx.Tryz
namespace Go.Fx.Tryz
open Go Go.Fx
theorem Hs (x y:UInt8) (a b:Bs):ltB (x::a) (y::b)=(decide (x<y)||(decide (x=y)&&ltB a b)):=by
 simp [ltB,List.cons_lt_cons_iff]
theorem qkz (x y:UInt8):decide ((x.toNat:Int)<(y.toNat:Int))=decide (x<y):=by
 have:(x<y)↔(x.toNat<y.toNat):=UInt8.lt_iff_toNat_lt;simp [this]
theorem u8_eq (x y:UInt8):decide ((x.toNat:Int)=(y.toNat:Int))=decide (x=y):=by
 have:x=y↔x.toNat=y.toNat:=UInt8.toNat_inj.symm;have h2:((x.toNat:Int)=(y.toNat:Int))↔x.toNat=y.toNat:=by omega
 simp only [this,h2]
theorem qbr (m:Mem):∀ (a c b:Bs),(c++a).length<=65536->W (qcF (str (c++a)) (str (c++b)) (.int .i64 (c.length:Int)) m) λr m'=>r=.bool (ltB a b)/\m'=m:=by
 intro a
 induction a with
 | nil =>
  intro c b hl;have e1:((c.length:Int)<((c++[]).length:Int))=False:=eq_false (by simp);have e2:decide (((c++([]:Bs)).length:Int)<((c++b).length:Int))=ltB [] b:=by
   cases b with
   | nil=>simp [ltB]
   | cons y b =>
    have:ltB [] (y::b)=true:=by simp [ltB]
    rw [this]; exact decide_eq_true (by simp; omega)
  rw [P71_0_eq];simp only [st0,qZ,e1];rw [P71_1_eq];simp only [st0,qZ,e2];exact ⟨trivial,trivial⟩
 | cons x a ih =>
  intro c b hl;have e1:((c.length:Int)<((c++x::a).length:Int))=True:=eq_true (by simp; omega);cases b with
  | nil =>
   have e2:((c.length:Int)<((c++([]:Bs)).length:Int))=False:=eq_false (by simp);have e3:decide (((c++x::a).length:Int)<((c++([]:Bs)).length:Int))=ltB (x::a) []:=by
    have:ltB (x::a) []=false:=by simp [ltB]
    rw [this]; exact decide_eq_false (by simp; omega)
   rw [P71_0_eq];simp only [st0,qZ,e1,e2];rw [P71_1_eq];simp only [st0,qZ,e3];exact ⟨trivial,trivial⟩
  | cons y b =>
   have e2:((c.length:Int)<((c++y::b).length:Int))=True:=eq_true (by simp; omega);have i1:=yN (l:=c++x::a) (i:=c.length) (b:=x) (by rw [List.getElem?_append_right (Nat.le_refl _),Nat.sub_self]; rfl);have i2:=yN (l:=c++y::b) (i:=c.length) (b:=y) (by rw [List.getElem?_append_right (Nat.le_refl _),Nat.sub_self]; rfl);rw [P71_0_eq];by_cases hxy:x=y
   ·subst hxy;have e3:decide ((x.toNat:Int)=(x.toNat:Int))=true:=decide_eq_true rfl;simp only [st0,qZ,e1,e2,i1,i2,e3,qB (i:=c.length) (show c.length<2 ^ 62 by simp at hl; omega)];have:=ih (c++[x]) b (by simpa using hl);simp only [aaI,List.singleton_append,laI,lnI,List.length_nil] at this;have hc:ltB (x::a) (x::b)=ltB a b:=by rw [Hs]; simp
    rw [hc]; exact this
   ·have e3:decide ((x.toNat:Int)=(y.toNat:Int))=false:=by rw [u8_eq]; exact decide_eq_false hxy
    simp only [st0,qZ,e1,e2,i1,i2,e3,qkz];refine ⟨?_,trivial⟩;rw [Hs,decide_eq_false hxy]; simp
theorem Ko (a b:Bs) (ha:a.length<=65536) (m:Mem):Call S tab 71 [str a,str b] m=some (.bool (ltB a b),m):=by
 refine W_eq ?_;rw [C71];exact qbr m a [] b (by simpa using ha)
theorem qgH {l:List Pr} {key:Bs} {i:Nat} (hr:qE (l.map (·.1))=true) (hp:∀ x∈l.take i,ltB x.1 key=true) (hi:i<l.length) (hn:ltB l[i].1 key=false):za l key=i:=by
 have h1:∀ x∈l.drop i,ltB x.1 key=false:=λx hx=>by
  have hr':=xU _ i hr;rw [<- List.map_drop,List.drop_eq_getElem_cons hi,List.map_cons] at hr';rw [List.drop_eq_getElem_cons hi] at hx;rcases lcI.1 hx with rfl|hx
  ·exact hn
  ·exact zU (jR hn ((qL hr').2 x.1 (List.mem_map_of_mem hx)))
 have:=vw (a:=l.take i) (b:=[]) (c:=l.drop i) hp h1;rw [List.nil_append,List.take_append_drop,ltI] at this;have h0:za [] key=0:=rfl;rw [this,h0]; omega
structure Cel (pb off:Nat) (F:Value->ABlk):Prop where
 ld:∀ {M:Mem} {v:Value},M.get pb=some (F v)->qa (.pointer (some ⟨pb,off+0,none⟩)) M=some v
 st:∀ {M:Mem} {v w:Value},M.get pb=some (F v)->w.cells=#[w]->w.oneCell'=true->qj 1 (.pointer (some ⟨pb,off+0,none⟩)) w M=some (M.put pb (F w))
theorem qkR {lo:Nat} {m:Mem} {v:Value} {l:List Pr} (h:RSl lo qK m v l) {i:Nat} {p:Pr} (hi:l[i]? = some p):∃ b off,qi 2 v (.int .i64 (i:Int))=some (.pointer (some ⟨b,off,none⟩))/\∀ M,RSl lo qK M v l->qa (.pointer (some ⟨b,off+0,none⟩)) M=some (str p.1)/\qa (.pointer (some ⟨b,off+1,none⟩)) M=some (str p.2)/\ql 2 (.pointer (some ⟨b,off,none⟩)) M=some (.agg #[str p.1,str p.2]):=by
 obtain ⟨b,off,h1,h2⟩:=h.1.at .i64 hi;rw [qT] at h1 h2;exact ⟨b,off,h1,λM hM=>⟨(h2 M hM.1).2 0 _ rfl,(h2 M hM.1).2 1 _ rfl,(h2 M hM.1).1⟩⟩
section
variable {pb off0:Nat} {F:Value->ABlk} {v:Value} {l:List Pr} {m:Mem}
theorem qaO (hF:Cel pb off0 F) {key:Bs} (hr:rowP l) (hl:l.length<=100000) (g:m.get pb=some (F v)) (hv:RSl 0 qK m v l):∀ (n i:Nat),l.length - i=n->i<=l.length->(∀ x∈l.take i,ltB x.1 key=true) ->
  W (YA (.pointer (some ⟨pb,off0,none⟩)) (str key) (.int .i64 (i:Int)) m) λr m'=>r=.tuple #[.int .i64 ((za l key:Nat):Int),.bool (zb l key)]/\m'=m:=by
 intro n
 induction n with
 | zero =>
  intro i hd hi hp;obtain rfl:i=l.length:=by omega
  rw [List.take_length] at hp;have ha:za l key=l.length:=by
   have:=vw (a:=l) (b:=[]) (c:=[]) hp (λx hx=>by cases hx)
   rw [List.nil_append,List.append_nil] at this;rw [this]; rfl
  have ht:zb l key=false:=by unfold zb; rw [ha,List.getElem?_eq_none (Nat.le_refl _)]
  rw [P113_0_eq];simp only [st0,nck,fa,hF.ld g,zf hv,Int.lt_irrefl];rw [P113_1_eq];simp only [st0,nck,fa,hF.ld g,zf hv,Int.lt_irrefl];rw [ha,ht];exact ⟨rfl,trivial⟩
 | succ n ih =>
  intro i hd hi hp;have hlt:i<l.length:=by omega
  have e1:((i:Int)<(l.length:Int))=True:=eq_true (by omega);obtain ⟨b,off,y1,y2⟩:=qkR hv (jB hlt);have y2:=(y2 m hv).1;have hkl:l[i].1.length<=65536:=by
   have:=(zW hr.1 i (by simpa using hlt)).2.1;rw [List.getElem_map] at this; omega
  rw [P113_0_eq];cases hc:ltB l[i].1 key with
  | true =>
   have ha:=Ko l[i].1 key hkl m;rw [hc] at ha;simp only [st0,nck,fa,hF.ld g,zf hv,e1,y1,y2,ha,qB (i:=i) (by omega)];refine ih (i+1) (by omega) hlt λx hx=>?_
   rw [tsI hlt] at hx;rcases List.mem_append.1 hx with hx|hx
   ·exact hp x hx
   ·simp at hx; subst hx; exact hc
  | false =>
   have ha:=Ko l[i].1 key hkl m;rw [hc] at ha;have hai:=qgH hr.1 hp hlt hc;have ht:zb l key=decide (l[i].1=key):=by unfold zb; rw [hai,List.getElem?_eq_getElem hlt]
   simp only [st0,nck,fa,hF.ld g,zf hv,e1,y1,y2,ha];rw [P113_1_eq];simp only [st0,nck,fa,hF.ld g,zf hv,e1,y1,y2,jJ];rw [hai,ht];exact ⟨rfl,trivial⟩
theorem KX (hF:Cel pb off0 F) {key:Bs} (hr:rowP l) (hl:l.length<=100000) (g:m.get pb=some (F v)) (hv:RSl 0 qK m v l):Call S tab 113 [.pointer (some ⟨pb,off0,none⟩),str key] m=some (.tuple #[.int .i64 ((za l key:Nat):Int),.bool (zb l key)],m):=by
 refine W_eq ?_;rw [qmH];exact qaO hF hr hl g hv _ 0 rfl (Nat.zero_le _) (by simp)
theorem JO (l:List Pr) (key val:Bs):xO l key val=l.take (za l key)++[(key,val)]++l.drop (za l key+(if zb l key then 1 else 0)):=by
 unfold xO xA;cases ht:zb l key with
 | false=>simp
 | true =>
  have hlt:=xF ht;simp only [if_true];rw [List.eraseIdx_eq_take_drop_succ,List.take_append_of_le_length (by rw [ltI]; omega),List.take_take,Nat.min_self,List.drop_append,ltI];rw [show za l key - min (za l key) l.length=0 by omega,List.drop_of_length_le (by rw [ltI]; omega)];simp
structure PL (pb:Nat) (F:Value->ABlk) (v:Value) (l:List Pr) (m:Mem):Prop where
 g:m.get pb=some (F v)
 tv:TAp qK 81 m v l
 lt:pb<m.next
 ne:pb∉qc v
theorem PL.rs (h:PL pb F v l m):RSl 0 qK m v l:=h.tv.rsl λb _=>Nat.zero_le _
theorem qid (k s:Bs):qt [.string ⟨#[]⟩,.string ⟨#[]⟩] [(0,1,str k),(1,1,str s)]=some [str k,str s]:=by kernel_rfl
set_option maxRecDepth 4000 in
theorem qhE (hF:Cel pb off0 F) {key val:Bs} (hr:rowP l) (hl:l.length<=100000) (h:PL pb F v l m):W (Call S tab 73 [.pointer (some ⟨pb,off0,none⟩),str key,str val] m) λr m'=>r=.tuple #[]/\∃ v',PL pb F v' (xO l key val) m'/\(∀ b∈qc v',b∈qc v∨m.next<=b)/\Upd [pb] m m':=by
 have hp:=KX hF (key:=key) hr hl h.g h.rs;have hale:=wy l key;have hle:za l key+(if zb l key then 1 else 0)<=l.length:=by
  split
  ·rename_i ht; have:=xF ht; omega
  ·omega
 have key1:∀ k:Nat,k=za l key+(if zb l key then 1 else 0)->W (qcE (.pointer (some ⟨pb,off0,none⟩)) (str key) (str val) (.int .i64 ((za l key:Nat):Int)) (.int .i64 (k:Int)) m) λr m'=>r=.tuple #[]/\∃ v',PL pb F v' (xO l key val) m'/\(∀ b∈qc v',b∈qc v∨m.next<=b)/\Upd [pb] m m':=λk hk=>by
  rw [JO,<- hk];rw [<- hk] at hle;have ub:Upd [] m (m.zu 23):=Upd.zu _ _ _;have nb:(m.zu 23).next=m.next+23:=rfl;have gb:=qq ub h.lt h.g;have hvb:=h.tv.qn ub;obtain ⟨v1,s1,s2,s3⟩:=hvb.tsl.qbK (k:=za l key) hale;rw [qT] at s1;obtain ⟨v2,w1,w2,w3⟩:=hvb.from (k:=k) hle;rw [qT] at w1;have hlt:=h.lt;have hne:=h.ne;have hvlt:=h.tv.lt;rw [P73_0_eq];simp only [st0,nck,fa,hF.ld gb,s1];generalize hmb:m.zu 23=mb at ub nb gb hvb s2 w1 w2;refine jy (E:=qK) (l:=[]) (l.take (za l key)) (by decide) (TAp.nil mb) s2.src (by simp; omega) λv3 m3 q1 q2 q3=>?_
  rw [List.nil_append] at q1;have q2:Upd [] mb m3:=q2;have q3:∀ b∈qc v3,mb.next<=b:=λb hb=>(q3 b hb).elim (λh=>by simp [qc] at h) id
  have x3:=q2.next;have g3:=qq q2 (by omega) gb;simp only [st0,qid,qbg (key,val)];have u4:Upd [m.next+11] m3 (m3.put (m.next+11) ⟨.cells (qK.flat [(key,val)]) 81,false,none⟩):=Upd.put _ _ (by simp);have t4:TAp qK 81 (m3.put (m.next+11) ⟨.cells (qK.flat [(key,val)]) 81,false,none⟩) (.slice (some ⟨m.next+11,0,none⟩) 1 1) [(key,val)]:=.inr ⟨m.next+11,1,[],none,rfl,by show m.next+11<m3.next; omega,by rw [List.append_nil]; exact Mem.qe ..,.inl rfl,rfl,Nat.le_refl _⟩;have q14:=q1.upd u4 λb hb hm=>by have:=q3 b hb; simp at hm; omega
  have n4:(m3.put (m.next+11) ⟨.cells (qK.flat [(key,val)]) 81,false,none⟩).next=m3.next:=rfl;have g4:=(u4.same pb (by omega) (by simp; omega)).trans g3;generalize (m3.put (m.next+11) ⟨.cells (qK.flat [(key,val)]) 81,false,none⟩)=m4 at u4 t4 q14 n4 g4;refine jy (E:=qK) [(key,val)] (by decide) q14 t4.tsl.src (by simp; omega) λv5 m5 r1 r2 r3=>?_
  have x5:=r2.next;have g5:=(r2.same pb (by omega) (λhm=>by have:=q3 _ hm; omega)).trans g4;have r3:∀ b∈qc v5,mb.next<=b:=λb hb=>(r3 b hb).elim (q3 b) (λh=>by omega)
  have u35:Upd [m.next+11] mb m5:=(q2.nil'.trans u4).then' r2 λb hb=>.inr (q3 b hb)
  have keepV:∀ b∈qc v,m5.get b=mb.get b:=λb hb=>by have:=hvlt b hb; exact u35.same b (by omega) (by simp; omega)
  have w25:TSl qK m5 v2 (l.drop k):=w2.mono λb hb=>keepV b (by rw [<- w3]; exact hb)
  simp only [st0,nck,fa,hF.ld g5,w1 m5 keepV];refine jy (E:=qK) (l.drop k) (by decide) r1 w25.src (by simp; omega) λv6 m6 p1 p2 p3=>?_
  have x6:=p2.next;have g6:=(p2.same pb (by omega) (λhm=>by have:=r3 _ hm; omega)).trans g5;have p3:∀ b∈qc v6,mb.next<=b:=λb hb=>(p3 b hb).elim (r3 b) (λh=>by omega)
  have st:qj 1 (.pointer (some ⟨pb,off0+0,none⟩)) v6 m6=some (m6.put pb (F v6)):=hF.st g6 p1.one.1 p1.one.2;simp only [st0,nck,fa,st];have hpb6:pb∉qc v6:=λhm=>by have:=p3 _ hm; omega
  have up:Upd [pb] m6 (m6.put pb (F v6)):=Upd.put _ _ (by simp);refine jC (λr hr=>?_) (zv.2 ⟨rfl,v6,⟨Mem.qe ..,p1.upd up λb hb hm=>by simp at hm; subst hm; exact hpb6 hb,by show pb<m6.next; omega,hpb6⟩,λb hb=>.inr (by have:=p3 b hb; omega),?_⟩)
  ·have keepV3:∀ b∈qc v,m3.get b=mb.get b:=λb hb=>by have:=hvlt b hb; exact q2.same b (by omega) (by simp)
   have keepV4:∀ b∈qc v,m4.get b=mb.get b:=λb hb=>by have:=hvlt b hb; exact (u4.same b (by omega) (by simp; omega)).trans (keepV3 b hb)
   simp only [lcI,nmI,or_false] at hr;rcases hr with rfl|rfl|rfl|rfl
   ·exact okR λk _ hk=>by
     obtain rfl:k=0:=by omega
     exact ⟨_,rfl,hF.ld gb⟩
   ·exact okR λk _ hk=>by
     obtain rfl:k=0:=by omega
     exact ⟨_,rfl,s1 mb⟩
   ·exact okR λk _ hk=>by
     have:k=0∨k=1∨k=2∨k=3:=by omega
     rcases this with rfl|rfl|rfl|rfl
     ·exact ⟨_,rfl,hF.ld gb⟩
     ·exact ⟨_,rfl,hF.ld g3⟩
     ·exact ⟨_,rfl,hF.ld g4⟩
     ·exact ⟨_,rfl,hF.ld g5⟩
   ·exact okR λk _ hk=>by
     have:k=0∨k=1∨k=2∨k=3:=by omega
     rcases this with rfl|rfl|rfl|rfl
     ·exact ⟨_,rfl,w1 mb λb hb=>rfl⟩
     ·exact ⟨_,rfl,w1 m3 keepV3⟩
     ·exact ⟨_,rfl,w1 m4 keepV4⟩
     ·exact ⟨_,rfl,w1 m5 keepV⟩
  ·exact (((ub.nil' (fp:=[pb])).then' u35 (λb hb=>.inr (by simp at hb; omega))).then' p2 (λb hb=>.inr (by have:=r3 b hb; omega))).trans up
 rw [C73];cases ht:zb l key with
 | true =>
  rw [ht] at hp;simp only [st0,hp,xt0,xt1,qB (i:=za l key) (by omega)];exact key1 _ (by rw [ht]; rfl)
 | false =>
  rw [ht] at hp;simp only [st0,hp,xt0,xt1];exact key1 _ (by rw [ht]; rfl)
set_option maxRecDepth 4000 in
theorem qaM (hF:Cel pb off0 F) {key:Bs} (hr:rowP l) (hl:l.length<=100000) (h:PL pb F v l m):W (Call S tab 84 [.pointer (some ⟨pb,off0,none⟩),str key] m) λr m'=>r=.bool (zb l key)/\∃ v',PL pb F v' (xA l key) m'/\(∀ b∈qc v',b∈qc v∨m.next<=b)/\Upd [pb] m m':=by
 have hp:=KX hF (key:=key) hr hl h.g h.rs;rw [C84];cases ht:zb l key with
 | false =>
  rw [ht] at hp;simp only [st0,hp,xt0,xt1];refine ⟨trivial,v,?_,λb hb=>.inl hb,Upd.refl _ _⟩;unfold xA; rw [ht,if_neg (by simp)]; exact h
 | true =>
  have hlt:=xF ht;rw [ht] at hp;have hcut:xA l key=l.take (za l key)++l.drop (za l key+1):=by
   unfold xA; rw [ht,if_pos rfl,List.eraseIdx_eq_take_drop_succ]
  obtain ⟨v1,s1,s2,s3⟩:=h.tv.tsl.qbK (k:=za l key) (by omega);rw [qT] at s1;obtain ⟨v2,w1,w2,w3⟩:=h.tv.from (k:=za l key+1) hlt;rw [qT] at w1;have hvlt:=h.tv.lt;have hplt:=h.lt;simp only [st0,hp,xt0,xt1,nck,fa,hF.ld h.g,s1];refine jy (E:=qK) (l:=[]) (l.take (za l key)) (by decide) (TAp.nil m) s2.src (by simp; omega) λv3 m3 q1 q2 q3=>?_
  rw [List.nil_append] at q1;have q2:Upd [] m m3:=q2;have q3:∀ b∈qc v3,m.next<=b:=λb hb=>(q3 b hb).elim (λh=>by simp [qc] at h) id
  have g3:=qq q2 h.lt h.g;have x3:=q2.next;have keepV:∀ b∈qc v,m3.get b=m.get b:=λb hb=>q2.same b (hvlt b hb) (by simp)
  have w23:TSl qK m3 v2 (l.drop (za l key+1)):=w2.mono λb hb=>keepV b (by rw [<- w3]; exact hb)
  simp only [st0,nck,fa,hF.ld g3,qB (i:=za l key) (by omega),w1 m3 keepV];refine jy (E:=qK) (l.drop (za l key+1)) (by decide) q1 w23.src (by simp; omega) λv4 m4 r1 r2 r3=>?_
  have x4:=r2.next;have g4:=(r2.same pb (by omega) (λhm=>by have:=q3 _ hm; omega)).trans g3;have r3:∀ b∈qc v4,m.next<=b:=λb hb=>(r3 b hb).elim (q3 b) (λh=>by omega)
  have st:qj 1 (.pointer (some ⟨pb,off0+0,none⟩)) v4 m4=some (m4.put pb (F v4)):=hF.st g4 r1.one.1 r1.one.2;simp only [st0,nck,fa,st];have hpb4:pb∉qc v4:=λhm=>by have:=r3 _ hm; omega
  have up:Upd [pb] m4 (m4.put pb (F v4)):=Upd.put _ _ (by simp);rw [hcut];refine jC (λr hr=>?_) (zv.2 ⟨rfl,v4,⟨Mem.qe ..,r1.upd up λb hb hm=>by simp at hm; subst hm; exact hpb4 hb,by show pb<m4.next; omega,hpb4⟩,λb hb=>.inr (r3 b hb),?_⟩)
  ·simp only [lcI,nmI,or_false] at hr;rcases hr with rfl|rfl|rfl|rfl
   ·exact okR λk _ hk=>by
     obtain rfl:k=0:=by omega
     exact ⟨_,rfl,hF.ld h.g⟩
   ·exact okR λk _ hk=>by
     obtain rfl:k=0:=by omega
     exact ⟨_,rfl,s1 m⟩
   ·exact okR λk _ hk=>by
     have:k=0∨k=1:=by omega
     rcases this with rfl|rfl
     ·exact ⟨_,rfl,hF.ld h.g⟩
     ·exact ⟨_,rfl,hF.ld g3⟩
   ·exact okR λk _ hk=>by
     have:k=0∨k=1:=by omega
     rcases this with rfl|rfl
     ·exact ⟨_,rfl,w1 m λb hb=>rfl⟩
     ·exact ⟨_,rfl,w1 m3 keepV⟩
  ·exact ((q2.nil' (fp:=[pb])).then' r2 (λb hb=>.inr (q3 b hb))).trans up
end
section
variable {l:List Pr} {m:Mem}
instance (key val:Bs):Decidable (Kv key val):=inferInstanceAs (Decidable (_/\_))
theorem qaH (key val:Bs) (m:Mem):Call S tab 72 [str key,str val] m=some (.bool (decide (Kv key val)),m):=by
 refine W_eq ?_;rw [C72];by_cases c1:key=[]
 ·have e1:((1:Int)<=(key.length:Int))=False:=eq_false (by rw [c1]; simp);have hk:decide (Kv key val)=false:=decide_eq_false λh=>h.1.1 c1
  simp only [st0,qZ,e1,hk];exact ⟨trivial,trivial⟩
 ·have e1:((1:Int)<=(key.length:Int))=True:=eq_true (by have:=List.length_pos_iff.2 c1; omega);by_cases c2:key.length<=32
  ·have e2:((key.length:Int)<=32)=True:=eq_true (by omega);by_cases c3:val.length<=40
   ·have e3:((val.length:Int)<=40)=True:=eq_true (by omega);have hk:decide (Kv key val)=true:=decide_eq_true ⟨⟨c1,c2⟩,c3⟩;simp only [st0,qZ,e1,e2,e3,hk];exact ⟨trivial,trivial⟩
   ·have e3:((val.length:Int)<=40)=False:=eq_false (by omega);have hk:decide (Kv key val)=false:=decide_eq_false λh=>c3 h.2
    simp only [st0,qZ,e1,e2,e3,hk];exact ⟨trivial,trivial⟩
  ·have e2:((key.length:Int)<=32)=False:=eq_false (by omega);have hk:decide (Kv key val)=false:=decide_eq_false λh=>c2 h.1.2
   simp only [st0,qZ,e1,e2,hk];exact ⟨trivial,trivial⟩
end
theorem TrR.row {s:Nat->Option Bs} {root:Nat} {l:List Pr} {U:List Nat} (h:TrR s root l U):rowP l:=by
 rcases h with ⟨_,rfl,_⟩|⟨g,h⟩
 ·exact ⟨rfl,by simp⟩
 ·exact qgK s g root [] none l U h
theorem TrR.zL {s s':Nat->Option Bs} {root:Nat} {l:List Pr} {U:List Nat} (h:TrR s root l U) (hs:∀ q∈U,s' q=s q):TrR s' root l U:=by
 rcases h with h|⟨g,h⟩
 ·exact .inl h
 ·exact .inr ⟨g,xJ g root [] none l U hs h⟩
theorem TrR.used {s:Nat->Option Bs} {root:Nat} {l:List Pr} {U:List Nat} (h:TrR s root l U):∀ q∈U,s q≠none:=by
 rcases h with ⟨_,_,rfl⟩|⟨g,h⟩
 ·intro q hq; cases hq
 ·exact vQ s g root [] none l U h
end Go.Fx.Tryz
