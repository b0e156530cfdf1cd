/- Parts of a proof: TreeSc, TreeLk, TreeSo. Conditions: none. -/
import Derived.Test.YtnngjdfadfblmaaGreatDoorQt22
set_option linter.unusedSimpArgs false
set_option linter.unusedVariables false
namespace Go.Fx.Tryz
open Go Go.Fx
def inF (a b:Bs) (p:Pr):Bool:=!ltB p.1 a&&(decide (b=[])||ltB p.1 b)
def xo (l:List Pr) (a b:Bs):List Pr:=l.filter (inF a b)
theorem Ju (l k:List Pr) (a b:Bs):xo (l++k) a b=xo l a b++xo k a b:=List.filter_append ..
theorem Hd (p:Pr):qy [.string ⟨#[]⟩,.string ⟨#[]⟩] [(0,2,.agg #[str p.1,str p.2])]=some (qJ.flat [p]):=by
 obtain ⟨a,b⟩:=p
 kernel_rfl
theorem qaG {R:TP} {p:Nat} {ps:List Nat} {ks:List Bs} {lo:Bs} {hi:Option Bs} {l:List Pr} {U:List Nat} (h:Fo R lo hi ks (p::ps) l U) :
  ∃ l1 U1 l2 U2,l=l1++l2∧U=U1++U2∧((ks=[]∧ps=[]∧R p lo hi l1 U1∧l2=[]∧U2=[])∨∃ k ks',ks=k::ks'∧R p lo (some k) l1 U1∧Fo R k hi ks' ps l2 U2):=by
 match ks,ps,h with
 | [],[],h=>exact ⟨l,U,[],[],by simp,by simp,.inl ⟨rfl,rfl,h,rfl,rfl⟩⟩
 | k::ks,ps,⟨l1,U1,l2,U2,h1,h2,h3,h4⟩=>exact ⟨l1,U1,l2,U2,h3,h4,.inr ⟨k,ks,rfl,h1,h2⟩⟩
theorem Xy {lo0:Nat} {l:List Pr} {sp x0 x2 x12:Value} {a b:Bs} (hl:l.length≤1000) {Q:Value→Mem→Prop} {m0:Mem} (hsp:∀ c∈qe sp,c<m0.next)
  (hQ:∀ m v,TAp qJ 61 m v (xo l a b)→(∀ c∈qe v,m0.next≤c)→Upd [] m0 m→W (qdL x0 x2 (str a) (str b) v x12 m) Q):∀ (d i:Nat) (m:Mem) (v:Value),l.length - i=d→i≤l.length→RSl lo0 qJ m sp l→TAp qJ 61 m v (xo (l.take i) a b)→(∀ c∈qe v,m0.next≤c)→Upd [] m0 m →
  W (XT x0 x2 (str a) (str b) v x12 sp (.int .i64 (l.length:Int)) (.int .i64 (i:Int)) m) Q:=by
 intro d
 induction d with
 | zero =>
  intro i m v hd hi h hv hvb hu
  obtain rfl:i=l.length:=by omega
  rw [P53_0_eq]
  rw [List.take_length] at hv
  simp -implicitDefEqProofs only [st0,qc,reduceIte,Int.lt_irrefl]
  exact hQ m v hv hvb hu
 | succ d ih =>
  intro i m v hd hi h hv hvb hu
  have hlt:i<l.length:=by omega
  have e1:((i:Int)<(l.length:Int))=True:=eq_true (by omega)
  obtain ⟨bb,off,h1,h2⟩:=h.1.at .i64 (ja hlt)
  rw [qT] at h1 h2
  have h2:=h2 m h.1
  have hs:xo (l.take (i+1)) a b=xo (l.take i) a b++(if inF a b l[i] then [l[i]] else []):=by
   rw [List.take_succ_eq_append_getElem hlt,Ju]
   cases hf:inF a b l[i]<;>simp [xo,hf]
  have hlen:(xo (l.take i) a b).length≤1000:=Nat.le_trans (List.length_filter_le ..) (by rw [List.length_take]; omega)
  rw [P53_0_eq]
  simp -implicitDefEqProofs only [st0,qc,reduceIte,e1,h1,h2.1]
  refine xR (c:=qJ.cells l[i]) rfl rfl rfl fun m1 g1 u1 n1=>?_
  have ld:=qu (o:=0+0) (v:=str l[i].1) g1 rfl
  have ldN:qm 2 (.pointer (some ⟨m.next,0,none⟩)) m1=some (.agg #[str l[i].1,str l[i].2]):=zK g1 rfl
  have hv1:=hv.qt u1
  have eq0:arith .eql (str b) (.string ⟨#[]⟩)=some (.bool (decide (b=[]))):=wa b []
  have skip:inF a b l[i]=false→W (XT x0 x2 (str a) (str b) v x12 sp (.int .i64 (l.length:Int)) (.int .i64 ((i+1:Nat):Int)) m1) Q:=fun hf=>by
   refine ih (i+1) m1 v (by omega) hlt (h.qt u1) ?_ hvb (hu.qD u1)
   rw [hs,hf,if_neg (by simp),List.append_nil]; exact hv1
  cases c1:ltB l[i].1 a with
  | true =>
   have hf:inF a b l[i]=false:=by simp [inF,c1]
   simp -implicitDefEqProofs only [st0,qc,reduceIte,fa,ld,vW,c1,qE (i:=i) (by omega)]
   exact skip hf
  | false =>
   have take:inF a b l[i]=true→∀ m1':Mem,m1'=m1→W ((qN 2 (.slice (some ⟨m1'.next,0,none⟩) 1 1) (m1'.add ⟨.cells (qJ.flat [l[i]]) 61,false,none⟩)).bind fun p28=>(qC 61 2 32 v p28.1 p28.2 (m1'.add ⟨.cells (qJ.flat [l[i]]) 61,false,none⟩)).bind fun p29=>(arith .add (.int .i64 (i:Int)) (.int .i64 1)).bind fun v30=>XT x0 x2 (str a) (str b) p29.1 x12 sp (.int .i64 (l.length:Int)) v30 p29.2) Q:=fun hf m1' e=>by
    subst e
    refine zU (E:=qJ) [l[i]] (by decide) hv1 (by simp only [List.length_cons,List.length_nil]; omega) fun v2 m2 q1 q2 q3=>?_
    simp -implicitDefEqProofs only [st0,qc,reduceIte,qE (i:=i) (by omega)]
    refine ih (i+1) m2 v2 (by omega) hlt ((h.qt u1).zF q2 (fun c hc hm=>by have:=hsp c hc; have:=hvb c hm; omega)) ?_ (fun c hc=>(q3 c hc).elim (hvb c) (fun h=>by have:=hu.next; have:=u1.next; omega)) ((hu.qD u1).then' q2 (fun c hc=>.inr (hvb c hc)))
    rw [hs,hf,if_pos rfl]; exact q1
   by_cases c2:b=[]
   ·have hf:inF a b l[i]=true:=by simp [inF,c1,c2]
    have d2:decide (b=[])=true:=decide_eq_true c2
    simp -implicitDefEqProofs only [st0,qc,reduceIte,fa,ld,vW,c1,eq0,d2,ldN,Hd]
    exact take hf m1 rfl
   ·have d2:decide (b=[])=false:=decide_eq_false c2
    cases c3:ltB l[i].1 b with
    | true =>
     have hf:inF a b l[i]=true:=by simp [inF,c1,c3]
     simp -implicitDefEqProofs only [st0,qc,reduceIte,fa,ld,vW,c1,eq0,d2,Qj,c3,ldN,Hd]
     exact take hf m1 rfl
    | false =>
     have hf:inF a b l[i]=false:=by simp [inF,c1,c2,c3]
     simp -implicitDefEqProofs only [st0,qc,reduceIte,fa,ld,vW,c1,eq0,d2,Qj,c3,qE (i:=i) (by omega)]
     exact skip hf
def ScQ (x:Wx) (r:Nat) (m:Mem) (N:Nat) (l:List Pr) (v:Value) (m':Mem):Prop :=
 TAp qJ 61 m' v l∧(∀ c∈qe v,m.next≤c)∧Upd [x.xb] m m'∧∃ r',r'≤r+N∧XR { x with rd:=r' } m'
set_option maxRecDepth 4000 in
theorem YS {x:Wx} (he:x.err=0) {h left nb lo0:Nat} {ks:List Bs} {ps:List Nat} {sp sk si:Value} {a b:Bs} (hR:Rng (Tr x.o.s h)) (hks:qH ks=true) (hl40:1≤left∧left≤40) (hps:ps.length≤200) (hkp:ps.length=ks.length+1)
  (IH:∀ (r:Nat) (m:Mem) (page:Nat) (lo:Bs) (hi:Option Bs) (l:List Pr) (U:List Nat),XR { x with rd:=r } m→r+U.length≤1000→Tr x.o.s h page lo hi l U→W (Call S tab 53 [x.v,.int .i64 (page:Int),.int .i64 ((left - 1:Nat):Int),str a,str b] m) (ScQ x r m U.length (xo l a b)))
  {m0:Mem} (hxb:x.xb<m0.next) (hw0:x.o.w<m0.next∧x.o.pm<m0.next∧x.o.c<m0.next∧x.o.p<m0.next) (hnb:nb<m0.next∧nb≠x.xb) (hsk:∀ c∈qe sk,c<m0.next∧c≠x.xb) (hsi:∀ c∈qe si,c<m0.next∧c≠x.xb) (L:List Pr) (N r0:Nat) :
  ∀ (ps':List Nat) (i r:Nat) (m:Mem) (v:Value) (ks':List Bs) (lo':Bs) (hi:Option Bs) (lr:List Pr) (Ur:List Nat) (acc:List Pr),ps.drop i=ps'→ks.drop i=ks'→i≤ps.length→((ps'=[]∧lr=[]∧Ur=[])∨Fo (Tr x.o.s h) lo' hi ks' ps' lr Ur)→(0<i→i≤ks.length→ks[i - 1]? = some lo') →
   XR { x with rd:=r } m→r+Ur.length≤1000→r+Ur.length≤r0+N→m.get nb=some (qh false sp sk si)→RSl lo0 zi m sk ks→RSl lo0 zG m si ps→TAp qJ 61 m v acc→(∀ c∈qe v,m0.next≤c)→Upd [x.xb] m0 m→acc++xo lr a b=L→acc.length+lr.length≤200000 →
   W (Zu x.v (.int .i64 (left:Int)) (str a) (str b) v (.pointer (some ⟨nb,0,none⟩)) si (.int .i64 (ps.length:Int)) (.int .i64 (i:Int)) m) fun v' m'=>TAp qJ 61 m' v' L∧(∀ c∈qe v',m0.next≤c)∧Upd [x.xb] m0 m'∧∃ r',r'≤r0+N∧XR { x with rd:=r' } m':=by
 intro ps'
 induction ps' with
 | nil =>
  intro i r m v ks' lo' hi lr Ur acc hi1 hk1 hil hfo hlo hx hr1 hr2 gb k2 k3 hv hvb hu hL hacc
  have:ps.length≤i:=by simpa [List.drop_eq_nil_iff] using hi1
  have e1:((i:Int)<(ps.length:Int))=False:=eq_false (by omega)
  rw [P53_2_eq]
  simp -implicitDefEqProofs only [st0,qc,reduceIte,e1]
  have h0:lr=[]∧Ur=[]:=by
   rcases hfo with ⟨_,h2,h3⟩|h
   ·exact ⟨h2,h3⟩
   ·cases ks' with
    | nil=>exact h.elim
    | cons k ks'=>exact h.elim
  obtain ⟨rfl,rfl⟩:=h0
  have hL:acc=L:=by simpa [xo] using hL
  subst hL
  exact ⟨hv,hvb,hu,r,by simpa using hr2,hx⟩
 | cons p ps' ih =>
  intro i r m v ks' lo' hi lr Ur acc hi1 hk1 hil hfo hlo hx hr1 hr2 gb k2 k3 hv hvb hu hL hacc
  have hlt:i<ps.length:=by
   rcases Nat.lt_or_ge i ps.length with h|h
   ·exact h
   ·rw [List.drop_of_length_le h] at hi1; cases hi1
  rw [List.drop_eq_getElem_cons hlt] at hi1
  injection hi1 with hp hi1
  have hfo:Fo (Tr x.o.s h) lo' hi ks' (p::ps') lr Ur:=hfo.resolve_left (fun h=>by cases h.1)
  have e1:((i:Int)<(ps.length:Int))=True:=eq_true (by omega)
  obtain ⟨pk,y1,y2⟩:=XG k3 (i:=i) (p:=p) (by rw [List.getElem?_eq_getElem hlt,hp])
  have y2:=y2 m k3
  have z:=xok hx
  have z:Call S tab 49 [x.v] m=some (.bool true,m):=by rw [decide_eq_true (show ({ x with rd:=r }:Wx).err=0 from he)] at z; exact z
  have esub:arith .sub (.int .i64 (left:Int)) (.int .i64 1)=some (.int .i64 ((left - 1:Nat):Int)):=by rw [zS (by omega) (by omega)]; congr 2; omega
  obtain ⟨l1,U1,l2,U2,rfl,rfl,hst⟩:=qaG hfo
  have hkid:∃ hi1,Tr x.o.s h p lo' hi1 l1 U1∧(∀ k,ks[i]? = some k→hi1=some k)∧∃ lo2,((ps'=[]∧l2=[]∧U2=[])∨Fo (Tr x.o.s h) lo2 hi (ks.drop (i+1)) ps' l2 U2)∧(i+1≤ks.length→ks[i]? = some lo2):=by
   rcases hst with ⟨e1,e2,e3,e4,e5⟩|⟨k,ks2,e1,e2,e3⟩
   ·refine ⟨hi,e3,fun k hk=>?_,lo',.inl ⟨e2,e4,e5⟩,fun h=>?_⟩
    ·have:ks.length≤i:=by rw [e1] at hk1; simpa [List.drop_eq_nil_iff] using hk1
     rw [List.getElem?_eq_none this] at hk; cases hk
    ·have:ks.length≤i:=by rw [e1] at hk1; simpa [List.drop_eq_nil_iff] using hk1
     omega
   ·rw [e1] at hk1
    have hki:i<ks.length:=by
     rcases Nat.lt_or_ge i ks.length with h|h
     ·exact h
     ·rw [List.drop_of_length_le h] at hk1; cases hk1
    rw [List.drop_eq_getElem_cons hki] at hk1
    injection hk1 with h1 h2
    refine ⟨some k,e2,fun k' hk'=>?_,k,.inr (by rw [h2]; exact e3),fun _=>by rw [List.getElem?_eq_getElem hki,h1]⟩
    rw [List.getElem?_eq_getElem hki,h1] at hk'; exact hk'
  obtain ⟨hi1',ht1,hhi,lo2,hfo2,hlo2⟩:=hkid
  rw [List.length_append] at hr1 hr2 hacc
  have hlen1:=List.length_filter_le (inF a b) l1
  have next:∀ (r':Nat) (m':Mem) (v':Value),XR { x with rd:=r' } m'→r'≤r+U1.length→Upd [x.xb] m0 m'→m'.get nb=some (qh false sp sk si)→RSl lo0 zi m' sk ks→RSl lo0 zG m' si ps→TAp qJ 61 m' v' (acc++xo l1 a b)→(∀ c∈qe v',m0.next≤c)→W (Zu x.v (.int .i64 (left:Int)) (str a) (str b) v' (.pointer (some ⟨nb,0,none⟩)) si (.int .i64 (ps.length:Int)) (.int .i64 ((i+1:Nat):Int)) m') fun v' m'=>TAp qJ 61 m' v' L∧(∀ c∈qe v',m0.next≤c)∧Upd [x.xb] m0 m'∧∃ r',r'≤r0+N∧XR { x with rd:=r' } m':=fun r' m' v' hx' hr' hu' gb' k2' k3' hv' hvb' =>
   ih (i+1) r' m' v' (ks.drop (i+1)) lo2 hi l2 U2 (acc++xo l1 a b) hi1 rfl hlt hfo2 (fun _ h=>by rw [Nat.add_sub_cancel]; exact hlo2 h) hx' (by omega) (by omega) gb' k2' k3' hv' hvb' hu' (by rw [List.append_assoc,← Ju]; exact hL) (by rw [List.length_append]; show acc.length+(l1.filter _).length+l2.length≤200000; omega)
  have skip:xo l1 a b=[]→W (Zu x.v (.int .i64 (left:Int)) (str a) (str b) v (.pointer (some ⟨nb,0,none⟩)) si (.int .i64 (ps.length:Int)) (.int .i64 ((i+1:Nat):Int)) m) fun v' m'=>TAp qJ 61 m' v' L∧(∀ c∈qe v',m0.next≤c)∧Upd [x.xb] m0 m'∧∃ r',r'≤r0+N∧XR { x with rd:=r' } m':=fun h0 =>
   next r m v hx (by omega) hu gb k2 k3 (by rw [h0,List.append_nil]; exact hv) hvb
  have go:W ((Call S tab 53 [x.v,.int .i64 (p:Int),.int .i64 ((left - 1:Nat):Int),str a,str b] m).bind fun p51=>(qN 2 p51.1 p51.2).bind fun p52=>(qC 61 2 32 v p52.1 p52.2 p51.2).bind fun p53=>Zu x.v (.int .i64 (left:Int)) (str a) (str b) p53.1 (.pointer (some ⟨nb,0,none⟩)) si (.int .i64 (ps.length:Int)) (.int .i64 ((i+1:Nat):Int)) p53.2) fun v' m'=>TAp qJ 61 m' v' L∧(∀ c∈qe v',m0.next≤c)∧Upd [x.xb] m0 m'∧∃ r',r'≤r0+N∧XR { x with rd:=r' } m':=by
   refine qo.2 ((IH r m p lo' hi1' l1 U1 hx (by omega) ht1).mono fun v1 m1 ⟨a1,a2,a3,r',a4,a5⟩=>?_)
   have hn:=hu.next
   have nx:∀ c∈qe v,c∉[x.xb]:=fun c hc hm=>by have:=hvb c hc; simp at hm; omega
   have hv1:=hv.upd a3 nx
   refine ki (E:=qJ) (xo l1 a b) (by decide) hv1 a1.tsl.src (by show (acc.length+(l1.filter _).length) * 33≤_; omega) fun v2 m2 q1 q2 q3=>?_
   have hn1:=a3.next
   have nv:∀ c,c<m0.next→c∉qe v:=fun c hc hm=>by have:=hvb c hm; omega
   have n1:∀ c,c≠x.xb→c∉[x.xb]:=fun c hc hm=>hc (by simpa using hm)
   refine next r' m2 v2 (a5.upd q2 fun c hc=>?_) a4 ((hu.trans a3).then' q2 (fun c hc=>.inr (hvb c hc))) ?_ ((k2.zF a3 (fun c hc=>n1 c (hsk c hc).2)).zF q2 (fun c hc=>nv c (hsk c hc).1)) ((k3.zF a3 (fun c hc=>n1 c (hsi c hc).2)).zF q2 (fun c hc=>nv c (hsi c hc).1)) q1 (fun c hc=>(q3 c hc).elim (hvb c) (fun h=>by omega))
   ·have:=hvb c hc
    exact ⟨by show c≠x.xb; omega,by show c≠x.o.w; omega,by show c≠x.o.pm; omega,by show c≠x.o.c; omega,by show c≠x.o.p; omega⟩
   ·rw [q2.same nb (by omega) (nv nb hnb.1),a3.same nb (by omega) (n1 nb hnb.2)]; exact gb
  have hrg:=hR p lo' hi1' l1 U1 ht1
  have hA:decide ((i:Int)<(ks.length:Int))=false∨(∃ pk k,decide ((i:Int)<(ks.length:Int))=true∧ql 1 sk (.int .i64 (i:Int))=some pk∧qb pk m=some (str k)∧ltB a k=true) ∨
    (∃ pk k,(decide ((i:Int)<(ks.length:Int))=true∧ql 1 sk (.int .i64 (i:Int))=some pk∧qb pk m=some (str k)∧ltB a k=false)∧xo l1 a b=[]):=by
   by_cases hik:i<ks.length
   ·obtain ⟨pk,w1,w2⟩:=KT k2 (List.getElem?_eq_getElem hik)
    have d1:decide ((i:Int)<(ks.length:Int))=true:=decide_eq_true (by omega)
    cases hc:ltB a ks[i] with
    | true=>exact .inr (.inl ⟨pk,ks[i],d1,w1,w2 m k2,hc⟩)
    | false =>
     refine .inr (.inr ⟨pk,ks[i],⟨d1,w1,w2 m k2,hc⟩,vY fun y hy=>?_⟩)
     have:=xk ((hrg y hy).2 ks[i] (hhi ks[i] (List.getElem?_eq_getElem hik))) hc
     simp [inF,this]
   ·exact .inl (decide_eq_false (by omega))
  have hB:decide ((0:Int)<(i:Int))=false∨(decide ((0:Int)<(i:Int))=true∧decide (b=[])=true) ∨
    (∃ pk,decide ((0:Int)<(i:Int))=true∧decide (b=[])=false∧arith .sub (.int .i64 (i:Int)) (.int .i64 1)=some (.int .i64 ((i - 1:Nat):Int))∧ql 1 sk (.int .i64 ((i - 1:Nat):Int))=some pk∧qb pk m=some (str lo')∧ltB lo' b=true) ∨
    (∃ pk,(decide ((0:Int)<(i:Int))=true∧decide (b=[])=false∧arith .sub (.int .i64 (i:Int)) (.int .i64 1)=some (.int .i64 ((i - 1:Nat):Int))∧ql 1 sk (.int .i64 ((i - 1:Nat):Int))=some pk∧qb pk m=some (str lo')∧ltB lo' b=false)∧xo l1 a b=[]):=by
   by_cases h0:0<i
   ·have d1:decide ((0:Int)<(i:Int))=true:=decide_eq_true (by omega)
    by_cases hb:b=[]
    ·exact .inr (.inl ⟨d1,decide_eq_true hb⟩)
    ·have d2:decide (b=[])=false:=decide_eq_false hb
     obtain ⟨pk,w1,w2⟩:=KT k2 (hlo h0 (by omega))
     have d3:arith .sub (.int .i64 (i:Int)) (.int .i64 1)=some (.int .i64 ((i - 1:Nat):Int)):=by rw [zS (by omega) (by omega)]; congr 2; omega
     cases hc:ltB lo' b with
     | true=>exact .inr (.inr (.inl ⟨pk,d1,d2,d3,w1,w2 m k2,rfl⟩))
     | false =>
      refine .inr (.inr (.inr ⟨pk,⟨d1,d2,d3,w1,w2 m k2,rfl⟩,vY fun y hy=>?_⟩))
      have h3:ltB y.1 b=false:=by
       cases h4:ltB y.1 b with
       | false=>rfl
       | true=>have:=xk h4 hc; rw [(hrg y hy).1] at this; cases this
      simp [inF,h3,hb]
   ·exact .inl (decide_eq_false (by omega))
  have neq0:arith .neq (str b) (.string ⟨#[]⟩)=some (.bool (decide (¬ b=[]))):=ZH b []
  have hlk:=qY k2
  have hld:=qG gb (o:=0+2) rfl
  rw [P53_2_eq]
  rcases hA with eA|⟨pkA,kA,eA⟩|⟨pkA,kA,eA,hskA⟩<;>rcases hB with eB|eB|⟨pkB,eB⟩|⟨pkB,eB,hskB⟩ <;>
   simp -implicitDefEqProofs only [st0,qc,reduceIte,e1,y1,y2,fa,hld,hlk,eA,eB,KR,vW,neq0,z,esub,qE (i:=i) (by omega)]<;>first|exact go|exact skip (by assumption)
theorem qaH {R:TP} (hR:∀ p lo hi l U,R p lo hi l U→l.length≤127 * U.length):∀ (ks:List Bs) (ps:List Nat) (lo:Bs) (hi:Option Bs) (l:List Pr) (U:List Nat),Fo R lo hi ks ps l U→l.length≤127 * U.length
 | [],[p],lo,hi,l,U,h=>hR _ _ _ _ _ h
 | k::ks,p::ps,lo,hi,l,U,⟨l1,U1,l2,U2,h1,h2,h3,h4⟩=>by
  subst h3 h4
  have a:=hR _ _ _ _ _ h1
  have b:=qaH hR ks ps _ _ _ _ h2
  simp only [List.length_append]; omega
 | [],[],_,_,_,_,hf=>hf.elim
 | [],_::_::_,_,_,_,_,hf=>hf.elim
 | _::_,[],_,_,_,_,hf=>hf.elim
theorem Vh (s:Nat→Option Bs):∀ (h p:Nat) (lo:Bs) (hi:Option Bs) (l:List Pr) (U:List Nat),Tr s h p lo hi l U→l.length≤127 * U.length
 | 0,p,lo,hi,l,U,⟨n,S',hp,hn,⟨e1,_,e2⟩,e3⟩=>by
  subst e1 e2 e3
  have:=(kY hp.rt hp.sz).1
  simpa [Nd.lf] using this
 | h+1,p,lo,hi,l,U,⟨n,S',hp,hn,⟨ks,ps,e1,hk,hf⟩,e3⟩=>by
  subst e3
  have:=qaH (Vh s h) ks ps lo hi l S' hf
  simp only [List.length_cons]; omega
set_option maxRecDepth 4000 in
theorem qcB {x:Wx} (he:x.err=0) {a b:Bs}:∀ (h r:Nat) (m:Mem) (page left:Nat) (lo:Bs) (hi:Option Bs) (l:List Pr) (U:List Nat),XR { x with rd:=r } m→r+U.length≤1000→h<left→left≤40→Tr x.o.s h page lo hi l U →
  W (Call S tab 53 [x.v,.int .i64 (page:Int),.int .i64 (left:Int),str a,str b] m) (ScQ x r m U.length (xo l a b)):=by
 intro h
 induction h with
 | zero =>
  intro r m page left lo hi l U hx hrd hle hl40 ht
  obtain ⟨n,U',hp,hn,hnt,rfl⟩:=zO.1 ht
  have hnt0:n=Nd.lf l∧(∀ x∈l,inR lo hi x.1)∧U'=[]:=hnt
  obtain ⟨rfl,hl,rfl⟩:=hnt0
  obtain ⟨hh,hlk⟩:=hp.here
  have hlt:=xu hh
  have hP:=hx.wr.hP
  have hP:x.o.P≤160:=hP
  have hfew:l.length≤127:=(kY hp.rt hp.sz).1
  simp only [List.length_cons,List.length_nil] at hrd ⊢
  rw [C53]
  refine qo.2 ((vA (x:={ x with rd:=r }) hx he (by show r<1000; omega) (by omega) (by omega) hh hlk hp.rt hp.sz).mono fun v1 m1 ⟨t1,h1,u1⟩=>?_)
  have h1:XR { x with rd:=r+1 } m1:=h1
  have u1:Upd [x.xb] m m1:=u1
  have x1:=u1.next
  obtain ⟨sp,sk,si,rfl,q1,q2,q3⟩:=t1.ex
  have q1:RSl m.next qJ m1 sp l:=q1
  have q3:RSl m.next zG m1 si []:=q3
  simp -implicitDefEqProofs only [st0,qc,reduceIte]
  refine xR (c:=[.bool (Nd.lf l).leaf,sp,sk,si]) rfl rfl (by simp [q1.one.2,q2.one.2,q3.one.2,show (Value.bool (Nd.lf l).leaf).oneCell'=true from rfl]) fun m2 b2 u2 n2=>?_
  have h2:=h1.qt u2
  have q12:=q1.qt u2
  have q32:=q3.qt u2
  have x2:=u2.next
  simp -implicitDefEqProofs only [st0,qc,reduceIte,fa,qG b2 (o:=0+1) rfl,qY q12]
  refine Xy (by omega) (fun c hc=>(q12.2 c hc).2) (fun m3 v hv hvb u3=>?_) _ 0 m2 _ rfl (Nat.zero_le _) q12 (TAp.nil _) (fun c hc=>by simp [qe] at hc) (Upd.refl _ _)
  have b3:=qA u3 (by omega) b2
  have q33:=q32.qt u3
  have e0:((0:Int)<(([]:List Nat).length:Int))=False:=eq_false (by simp)
  rw [P53_1_eq]
  simp -implicitDefEqProofs only [st0,qc,reduceIte,fa,qG b3 (o:=0+3) rfl,qY q33]
  rw [P53_2_eq]
  simp -implicitDefEqProofs only [st0,qc,reduceIte,e0]
  exact ⟨hv,fun c hc=>by have:=hvb c hc; omega,(u1.qD u2).qD u3,r+1,by simp,h2.qt u3⟩
 | succ h ih =>
  intro r m page left lo hi l U hx hrd hle hl40 ht
  have hmost:=Vh x.o.s (h+1) page lo hi l U ht
  obtain ⟨n,U',hp,hn,hnt,rfl⟩:=zO.1 ht
  obtain ⟨ks,ps,rfl,hks,hfo⟩:=hnt
  obtain ⟨hh,hlk⟩:=hp.here
  have hlt:=xu hh
  have hP:=hx.wr.hP
  have hP:x.o.P≤160:=hP
  have hfew:=wJ hp.rt hp.sz
  have hfew:ps.length≤ks.length+1∧ps.length≤200:=hfew
  obtain ⟨hp0,i1,r1,v1,p1⟩:=zd hp.rt rfl
  have i1:ps.length=ks.length+1:=i1
  have r1:qH ks=true:=r1
  simp only [List.length_cons] at hrd hmost ⊢
  have w1:=hx.wr.lw; have w2:=hx.wr.lm; have w3:=hx.wr.lc; have w4:=hx.wr.lp; have w5:=hx.lx
  have w1:x.o.w<m.next:=w1
  have w2:x.o.pm<m.next:=w2
  have w3:x.o.c<m.next:=w3
  have w4:x.o.p<m.next:=w4
  have w5:x.xb<m.next:=w5
  rw [C53]
  refine qo.2 ((vA (x:={ x with rd:=r }) hx he (by show r<1000; omega) (by omega) (by omega) hh hlk hp.rt hp.sz).mono fun v1 m1 ⟨t1,h1,u1⟩=>?_)
  have h1:XR { x with rd:=r+1 } m1:=h1
  have u1:Upd [x.xb] m m1:=u1
  have x1:=u1.next
  obtain ⟨sp,sk,si,rfl,q1,q2,q3⟩:=t1.ex
  have q1:RSl m.next qJ m1 sp []:=q1
  have q2:RSl m.next zi m1 sk ks:=q2
  have q3:RSl m.next zG m1 si ps:=q3
  simp -implicitDefEqProofs only [st0,qc,reduceIte]
  refine xR (c:=[.bool (Nd.nd ks ps).leaf,sp,sk,si]) rfl rfl (by simp [q1.one.2,q2.one.2,q3.one.2,show (Value.bool (Nd.nd ks ps).leaf).oneCell'=true from rfl]) fun m2 b2 u2 n2=>?_
  have h2:=h1.qt u2
  have q12:=q1.qt u2
  have q22:=q2.qt u2
  have q32:=q3.qt u2
  have x2:=u2.next
  simp -implicitDefEqProofs only [st0,qc,reduceIte,fa,qG b2 (o:=0+1) rfl,qY q12]
  refine Xy (l:=[]) (by simp) (fun c hc=>(q12.2 c hc).2) (fun m3 v hv hvb u3=>?_) _ 0 m2 _ rfl (Nat.zero_le _) q12 (TAp.nil _) (fun c hc=>by simp [qe] at hc) (Upd.refl _ _)
  have b3:=qA u3 (by omega) b2
  have q33:=q32.qt u3
  have x3:=u3.next
  rw [P53_1_eq]
  simp -implicitDefEqProofs only [st0,qc,reduceIte,fa,qG b3 (o:=0+3) rfl,qY q33]
  have k2:∀ c∈qe sk,c<m2.next∧c≠x.xb:=fun c hc=>⟨(q22.2 c hc).2,by have:=(q22.2 c hc).1; omega⟩
  have k3:∀ c∈qe si,c<m2.next∧c≠x.xb:=fun c hc=>⟨(q32.2 c hc).2,by have:=(q32.2 c hc).1; omega⟩
  refine (YS (lo0:=m.next) (x:=x) he (h:=h) (m0:=m2) (r0:=r) (N:=U'.length+1) (L:=xo l a b) (yP x.o.s h) r1 ⟨by omega,hl40⟩ hfew.2 i1 (fun r m page lo hi l U hx hr ht=>ih r m page (left - 1) lo hi l U hx hr (by omega) (by omega) ht)
   (by omega) ⟨by omega,by omega,by omega,by omega⟩ ⟨by omega,by omega⟩ k2 k3 ps 0 (r+1) m3 v ks lo hi l U' [] rfl rfl (Nat.zero_le _) (.inr hfo) (fun h=>by omega) (h2.qt u3) (by omega) (by omega) b3 (q22.qt u3) q33 hv hvb u3.nil' (by simp) (by simp; omega)).mono fun v' m' ⟨c1,c2,c3,r',c4,c5⟩=>?_
  exact ⟨c1,fun c hc=>by have:=c2 c hc; omega,(u1.qD u2).trans c3,r',c4,c5⟩
theorem HJ {o:Wo} {m:Mem} (h:WR o m) {root:Nat} {l:List Pr} {U:List Nat} (ht:TrR o.s root l U) (hnd:U.Nodup) (a b:Bs) :
  W (Call S tab 21 [.pointer (some ⟨o.w,0,none⟩),.int .i64 (root:Int),str a,str b] m) fun r m'=>∃ v,r=.tuple #[v,.int .i64 0]∧TAp qJ 61 m' v (xo l a b)∧(∀ c∈qe v,m.next≤c)∧Upd [] m m':=by
 rw [C21]
 rcases ht with ⟨rfl,rfl,rfl⟩|⟨g,ht⟩
 ·have e0:(((0:Nat):Int)=0)=True:=eq_true rfl
  simp -implicitDefEqProofs only [st0,qc,reduceIte,e0]
  exact ⟨_,rfl,TAp.nil _,fun c hc=>by simp [qe] at hc,Upd.refl _ _⟩
 ·have hpos:=wz ht
  have hlow:=yQ h.hP ht hnd
  have e0:((root:Int)=0)=False:=eq_false (by omega)
  have hxr:=XR.begin h
  have u1:Upd [] m (m.add (x0 o m.next).blk):=Upd.add _ _ _
  have n1:(m.add (x0 o m.next).blk).next=m.next+1:=rfl
  have eblk:(⟨.cells [.pointer (some ⟨o.w,0,none⟩),.int .i64 0,.int .i64 0] 84,false,none⟩:ABlk)=(x0 o m.next).blk:=rfl
  simp -implicitDefEqProofs only [st0,qc,reduceIte,e0,WE,qQ]
  rw [eblk]
  generalize (m.add (x0 o m.next).blk)=m1 at u1 hxr n1
  refine qo.2 ((qcB (x:=x0 o m.next) rfl (a:=a) (b:=b) g 0 m1 root 40 [] none l U hxr (by omega) (by omega) (by omega) ht).mono fun v m2 ⟨c1,c2,c3,r',c4,c5⟩=>?_)
  have z:=xok c5
  rw [decide_eq_true (show ({ x0 o m.next with rd:=r' }:Wx).err=0 from rfl)] at z
  have z:Call S tab 49 [(x0 o m.next).v] m2=some (.bool true,m2):=z
  simp -implicitDefEqProofs only [st0,qc,reduceIte,z]
  exact ⟨_,rfl,c1,fun c hc=>by have:=c2 c hc; omega,u1.then' c3 (fun c hc=>.inr (by simp at hc; omega))⟩
end Go.Fx.Tryz
namespace Go.Fx.Tryz
open Go Go.Fx
def esC (M:List (Nat × Nat)):List MapEntry:=M.map fun e=>{ key:=.int .i64 (e.1:Int),val:=.int .i64 1,born:=e.2 }
theorem qai (k:Nat):∀ (l:List (Nat × Nat)) (i:Nat),(k∉l.map (·.1)→vi .int (.int .i64 (k:Int)) (esC l) i=some none)∧(k∈l.map (·.1)→∃ j,vi .int (.int .i64 (k:Int)) (esC l) i=some (some (j,.int .i64 1)))
 | [],i=>⟨fun _=>rfl,fun h=>by simp at h⟩
 | e::l,i=>by
  have ih:=qai k l (i+1)
  simp only [esC,List.map_cons,vi,Jn,if_true] at ih ⊢
  by_cases h:e.1=k
  ·have:((k:Int) == (e.1:Int))=true:=by simp [h]
   simp only [this]
   exact ⟨fun hn=>absurd (by simp [h]) hn,fun _=>⟨i,rfl⟩⟩
  ·have:((k:Int) == (e.1:Int))=false:=by simp; omega
   simp only [this]
   exact ⟨fun hn=>ih.1 (fun hm=>hn (by simp only [List.mem_cons]; exact .inr hm)),fun hm=>ih.2 ((List.mem_cons.1 hm).resolve_left (fun e=>h e.symm))⟩
theorem qcL {m:Mem} {b c:Nat} {M:List (Nat × Nat)} {ro:Bool} {lo:Option Nat} (h:m.get b=some ⟨.map (esC M) c,ro,lo⟩) {k:Nat} (hk:k∉M.map (·.1)):zC .int (.int .i64 0) false (.map (some b)) (.int .i64 (k:Int)) m=some (.int .i64 0):=by
 have:m.xL b=some (esC M,c):=by simp [Mem.xL,h]
 simp only [zC,this,Option.bind_some,(qai k M 0).1 hk]; rfl
theorem qcK {m:Mem} {b c:Nat} {M:List (Nat × Nat)} {ro:Bool} {lo:Option Nat} (h:m.get b=some ⟨.map (esC M) c,ro,lo⟩) {k:Nat} (hk:k∈M.map (·.1)):zC .int (.int .i64 0) false (.map (some b)) (.int .i64 (k:Int)) m=some (.int .i64 1):=by
 have:m.xL b=some (esC M,c):=by simp [Mem.xL,h]
 obtain ⟨j,hj⟩:=(qai k M 0).2 hk
 simp only [zC,this,Option.bind_some,hj]; rfl
theorem qhm {m:Mem} {b c:Nat} {M:List (Nat × Nat)} {lo:Option Nat} (h:m.get b=some ⟨.map (esC M) c,false,lo⟩) {k:Nat} (hk:k∉M.map (·.1)):xc .int (.map (some b)) (.int .i64 (k:Int)) (.int .i64 1) m=some (m.put b ⟨.map (esC (M++[(k,c)])) (c+1),false,lo⟩):=by
 have:m.vg b=some (esC M,c,lo):=by simp [Mem.vg,h]
 simp only [xc,this,Option.bind_some,XE,if_true,(qai k M 0).1 hk,Option.map_some]
 simp [esC]
abbrev Xs (x:Wx) (mb r d:Nat):Wx:={ x with rd:=r,rest:=[.map (some mb),.int .i64 (d:Int),.bool false] }
structure SR (x:Wx) (mb r d:Nat) (M:List (Nat × Nat)) (m:Mem):Prop where
 xr:XR (Xs x mb r d) m
 mp:∃ c lo,m.get mb=some ⟨.map (esC M) c,false,lo⟩
 lt:mb<m.next
 ne:mb≠x.xb∧mb≠x.o.w∧mb≠x.o.pm∧mb≠x.o.c∧mb≠x.o.p
section
variable {x:Wx} {mb r d:Nat} {M:List (Nat × Nat)} {m:Mem}
theorem SR.upd {fp:List Nat} {m':Mem} (h:SR x mb r d M m) (hu:Upd fp m m') (hf:∀ b∈fp,b≠x.xb∧b≠x.o.w∧b≠x.o.pm∧b≠x.o.c∧b≠x.o.p∧b≠mb):SR x mb r d M m':=by
 obtain ⟨c,lo,g⟩:=h.mp
 exact ⟨h.xr.upd hu fun b hb=>⟨(hf b hb).1,(hf b hb).2.1,(hf b hb).2.2.1,(hf b hb).2.2.2.1,(hf b hb).2.2.2.2.1⟩,⟨c,lo,(hu.same mb h.lt fun hm=>(hf mb hm).2.2.2.2.2 rfl).trans g⟩,Nat.lt_of_lt_of_le h.lt hu.next,h.ne⟩
theorem SR.qt {m':Mem} (h:SR x mb r d M m) (hu:Upd [] m m'):SR x mb r d M m':=h.upd hu fun b hb=>by cases hb
theorem SR.ld (h:SR x mb r d M m):qb (.pointer (some ⟨x.xb,0+3,none⟩)) m=some (.map (some mb))∧qb (.pointer (some ⟨x.xb,0+4,none⟩)) m=some (.int .i64 (d:Int))∧qb (.pointer (some ⟨x.xb,0+5,none⟩)) m=some (.bool false) :=
 ⟨qu h.xr.hx rfl,qu h.xr.hx rfl,qu h.xr.hx rfl⟩
theorem SR.put {r' d':Nat} (h:SR x mb r d M m):SR x mb r' d' M (m.put x.xb (Xs x mb r' d').blk)∧Upd [x.xb] m (m.put x.xb (Xs x mb r' d').blk):=by
 obtain ⟨c,lo,g⟩:=h.mp
 exact ⟨⟨h.xr.put (x':=Xs x mb r' d') ⟨rfl,rfl⟩,⟨c,lo,(Mem.qn m _ h.ne.1).trans g⟩,h.lt,h.ne⟩,Upd.put _ _ (by simp)⟩
theorem SR.qeU (h:SR x mb r d M m):qi 1 (.pointer (some ⟨x.xb,0+5,none⟩)) (.bool false) m=some (m.put x.xb (Xs x mb r d).blk):=zr h.xr.hx (by simp) rfl rfl
theorem SR.deep (h:SR x mb r d M m) (d':Nat):qi 1 (.pointer (some ⟨x.xb,0+4,none⟩)) (.int .i64 (d':Int)) m=some (m.put x.xb (Xs x mb r d').blk):=zr h.xr.hx (by simp) rfl rfl
theorem SR.ok (h:SR x mb r d M m) (he:x.err=0):Call S tab 49 [.pointer (some ⟨x.xb,0+0,none⟩)] m=some (.bool true,m):=by
 have z:=xok h.xr
 rw [decide_eq_true (show (Xs x mb r d).err=0 from he)] at z
 exact z
def hiS (hi:Option Bs):Bs:=hi.getD []
def Ym (hi:Option Bs):Prop:=∀ e,hi=some e→e≠[]
theorem qcT {lo:Bs} {hi:Option Bs} {k:Bs} (h:inR lo hi k) (hh:Ym hi):ltB k lo=false∧(decide (hiS hi=[])=true∨(decide (hiS hi=[])=false∧ltB k (hiS hi)=true)):=by
 refine ⟨h.1,?_⟩
 cases hi with
 | none=>exact .inl rfl
 | some e=>exact .inr ⟨decide_eq_false (hh e rfl),h.2 e rfl⟩
theorem JG {lo0:Nat} {K:List Bs} {sk x2 x10 x11:Value} {lo:Bs} {hi:Option Bs} (hK:K.length≤1000) (hin:∀ k∈K,inR lo hi k) (hh:Ym hi) {Q:Value→Mem→Prop} {m0:Mem} (hxl:x.xb<lo0)
  (hQ:∀ m,SR x mb r d M m→Upd [x.xb] m0 m→W (qdP x.v x2 (str lo) (str (hiS hi)) x10 x11 m) Q):∀ (n i:Nat) (m:Mem),K.length - i=n→i≤K.length→RSl lo0 zi m sk K→SR x mb r d M m→Upd [x.xb] m0 m →
  W (qax x.v x2 (str lo) (str (hiS hi)) x10 x11 sk (.int .i64 (K.length:Int)) (.int .i64 (i:Int)) m) Q:=by
 intro n
 induction n with
 | zero =>
  intro i m hd hi' hk hs hu
  obtain rfl:i=K.length:=by omega
  rw [P36_2_eq]
  simp -implicitDefEqProofs only [st0,qc,reduceIte,Int.lt_irrefl]
  exact hQ m hs hu
 | succ n ih =>
  intro i m hd hi' hk hs hu
  have hlt:i<K.length:=by omega
  have e1:((i:Int)<(K.length:Int))=True:=eq_true (by omega)
  obtain ⟨pk,y1,y2⟩:=KT hk (ja hlt)
  have y2:=y2 m hk
  obtain ⟨c1,c2⟩:=qcT (hin K[i] (List.getElem_mem hlt)) hh
  have neq0:arith .neq (str (hiS hi)) (.string ⟨#[]⟩)=some (.bool (decide (¬ hiS hi=[]))):=ZH _ []
  obtain ⟨hs',hu'⟩:=hs.put (r':=r) (d':=d)
  have hk':RSl lo0 zi (m.put x.xb (Xs x mb r d).blk) sk K:=hk.upd hu' fun b hb=>by simp at hb; omega
  have nx:=ih (i+1) _ (by omega) hlt hk' hs' (hu.trans hu')
  rw [P36_2_eq]
  rcases c2 with c2|c2 <;>
   simp -implicitDefEqProofs only [st0,qc,reduceIte,e1,y1,y2,nck,fa,hs.ld.2.2,Qj,vW,c1,neq0,c2,hs.qeU,qE (i:=i) (by omega)]<;>exact nx
theorem qbp {lo0:Nat} {l:List Pr} {sp x0 x2 x3 x4 x10:Value} (hl:l.length≤1000) {Q:Value→Mem→Prop} {m0:Mem} (hsp:∀ c∈qe sp,c<m0.next)
  (hQ:∀ m v,TAp zi 9 m v (l.map (·.1))→(∀ c∈qe v,m0.next≤c)→Upd [] m0 m→W (qdQ x0 x2 x3 x4 x10 v m) Q):∀ (n i:Nat) (m:Mem) (v:Value),l.length - i=n→i≤l.length→RSl lo0 qJ m sp l→TAp zi 9 m v ((l.take i).map (·.1))→(∀ c∈qe v,m0.next≤c)→Upd [] m0 m →
  W (qay x0 x2 x3 x4 x10 v sp (.int .i64 (l.length:Int)) (.int .i64 (i:Int)) m) Q:=by
 intro n
 induction n with
 | zero =>
  intro i m v hd hi h hv hb hu
  obtain rfl:i=l.length:=by omega
  rw [P36_0_eq]
  simp -implicitDefEqProofs only [st0,qc,reduceIte,Int.lt_irrefl]
  rw [List.take_length] at hv
  exact hQ m v hv hb hu
 | succ n ih =>
  intro i m v hd hi h hv hb hu
  have hlt:i<l.length:=by omega
  have e1:((i:Int)<(l.length:Int))=True:=eq_true (by omega)
  rw [P36_0_eq]
  obtain ⟨b,off,h1,h2⟩:=h.1.at .i64 (ja hlt)
  rw [qT] at h1 h2
  have h2:=h2 m h.1
  simp -implicitDefEqProofs only [st0,qc,reduceIte,e1,h1,h2.1]
  refine xR (c:=qJ.cells l[i]) rfl rfl rfl fun m1 g1 u1 n1=>?_
  have e2:qy [.string ⟨#[]⟩] [(0,1,str l[i].1)]=some (zi.flat [l[i].1]):=by kernel_rfl
  simp -implicitDefEqProofs only [st0,qc,reduceIte,fa,qu g1 (show (qJ.cells l[i])[0+0]? = some (str l[i].1) from rfl),e2]
  refine zU (E:=zi) [l[i].1] (by decide) (hv.qt u1) (by simp; omega) fun v' m2 q1 q2 q3=>?_
  simp -implicitDefEqProofs only [st0,qc,reduceIte,qE (i:=i) (by omega)]
  have hu2:Upd [] m0 m2:=(hu.qD u1).then' q2 (fun b hbv=>.inr (hb b hbv))
  have e3:(l.take i).map (·.1)++[l[i].1]=(l.take (i+1)).map (·.1):=by rw [List.take_succ_eq_append_getElem hlt,List.map_append]; rfl
  rw [e3] at q1
  refine ih (i+1) m2 v' (by omega) hlt ((h.qt u1).zF q2 (fun b hbs hbv=>by have:=hb b hbv; have:=hsp b hbs; omega)) q1 (fun b hbv=>?_) hu2
  rcases q3 b hbv with hb1|hb1
  ·exact hb b hb1
  ·have:=hu.next; have:=u1.next; omega
end
def LkQ (x:Wx) (mb:Nat) (r D:Nat) (M:List (Nat × Nat)) (m:Mem) (U:List Nat) (v:Value) (m':Mem):Prop :=
 v=.tuple #[]∧Upd [x.xb,mb] m m'∧∃ M',SR x mb (r+U.length) D M' m'∧M'.length=M.length+U.length∧∀ q,q∈M'.map (·.1)↔q∈M.map (·.1)∨q∈U
set_option maxRecDepth 4000 in
theorem qbq {x:Wx} (he:x.err=0) {mb h level nb lo0:Nat} {ks:List Bs} {ps:List Nat} {sp sk si:Value} {lo:Bs} {hi:Option Bs} (hlv:level≤60) (hps:ps.length≤200) (hkp:ps.length=ks.length+1) (hk0:∀ k∈ks,k≠[]) (hh:Ym hi) {D:Nat}
  (IH:∀ (r d:Nat) (M:List (Nat × Nat)) (m:Mem) (page:Nat) (lo:Bs) (hi:Option Bs) (l:List Pr) (U:List Nat),SR x mb r d M m→Ym hi→r+U.length≤1000→(d=0∨d=D)→(∀ q∈U,q∉M.map (·.1))→U.Nodup→Tr x.o.s h page lo hi l U→W (Call S tab 36 [x.v,.int .i64 (page:Int),.int .i64 ((level+1:Nat):Int),str lo,str (hiS hi)] m) (LkQ x mb r D M m U))
  (hb:(lo0≤nb)∧x.xb<lo0∧mb<lo0) :
  ∀ (ps':List Nat) (i r d:Nat) (M:List (Nat × Nat)) (m:Mem) (ks':List Bs) (lo':Bs) (lr:List Pr) (Ur:List Nat),ps.drop i=ps'→ks.drop i=ks'→i≤ps.length→((ps'=[]∧lr=[]∧Ur=[])∨Fo (Tr x.o.s h) lo' hi ks' ps' lr Ur)→(0<i→i≤ks.length→ks[i - 1]? = some lo')→(i=0→lo'=lo) →
   SR x mb r d M m→r+Ur.length≤1000→(d=0∨d=D)→(ps'=[]→d=D)→(∀ q∈Ur,q∉M.map (·.1))→Ur.Nodup→nb<m.next→m.get nb=some (qh false sp sk si)→RSl lo0 zi m sk ks→RSl lo0 zG m si ps →
   W (Yk x.v (.int .i64 (level:Int)) (str lo) (str (hiS hi)) (.pointer (some ⟨nb,0,none⟩)) si (.int .i64 (ps.length:Int)) (.int .i64 (i:Int)) m) (LkQ x mb r D M m Ur):=by
 intro ps'
 induction ps' with
 | nil =>
  intro i r d M m ks' lo' lr Ur hi1 hk1 hil hfo hlo hlo0 hs hr1 hd hdn hM hnd hnb gb k2 k3
  have:ps.length≤i:=by simpa [List.drop_eq_nil_iff] using hi1
  have e1:((i:Int)<(ps.length:Int))=False:=eq_false (by omega)
  have h0:Ur=[]:=by
   rcases hfo with ⟨_,h2,h3⟩|h
   ·exact h3
   ·cases ks' with
    | nil=>exact h.elim
    | cons k ks'=>exact h.elim
  subst h0
  obtain rfl:=hdn rfl
  rw [P36_5_eq]
  simp -implicitDefEqProofs only [st0,qc,reduceIte,e1]
  exact ⟨rfl,Upd.refl _ _,M,hs,rfl,fun q=>by simp⟩
 | cons p ps' ih =>
  intro i r d M m ks' lo' lr Ur hi1 hk1 hil hfo hlo hlo0 hs hr1 hd hdn hM hnd hnb gb k2 k3
  have hlt:i<ps.length:=by
   rcases Nat.lt_or_ge i ps.length with h|h
   ·exact h
   ·rw [List.drop_of_length_le h] at hi1; cases hi1
  rw [List.drop_eq_getElem_cons hlt] at hi1
  injection hi1 with hp hi1
  have hfo:Fo (Tr x.o.s h) lo' hi ks' (p::ps') lr Ur:=hfo.resolve_left (fun h=>by cases h.1)
  have e1:((i:Int)<(ps.length:Int))=True:=eq_true (by omega)
  obtain ⟨pk,y1,y2⟩:=XG k3 (i:=i) (p:=p) (by rw [List.getElem?_eq_getElem hlt,hp])
  have y2:=y2 m k3
  obtain ⟨l1,U1,l2,U2,rfl,rfl,hst⟩:=qaG hfo
  have hkid:∃ hi1,Tr x.o.s h p lo' hi1 l1 U1∧((ks.length≤i∧hi1=hi)∨∃ k,ks[i]? = some k∧hi1=some k)∧∃ lo2,((ps'=[]∧l2=[]∧U2=[])∨Fo (Tr x.o.s h) lo2 hi (ks.drop (i+1)) ps' l2 U2)∧(i+1≤ks.length→ks[i]? = some lo2):=by
   rcases hst with ⟨e1,e2,e3,e4,e5⟩|⟨k,ks2,e1,e2,e3⟩
   ·have hki:ks.length≤i:=by rw [e1] at hk1; simpa [List.drop_eq_nil_iff] using hk1
    exact ⟨hi,e3,.inl ⟨hki,rfl⟩,lo',.inl ⟨e2,e4,e5⟩,fun h=>by omega⟩
   ·rw [e1] at hk1
    have hki:i<ks.length:=by
     rcases Nat.lt_or_ge i ks.length with h|h
     ·exact h
     ·rw [List.drop_of_length_le h] at hk1; cases hk1
    rw [List.drop_eq_getElem_cons hki] at hk1
    injection hk1 with h1 h2
    exact ⟨some k,e2,.inr ⟨k,by rw [List.getElem?_eq_getElem hki,h1],rfl⟩,k,.inr (by rw [h2]; exact e3),fun _=>by rw [List.getElem?_eq_getElem hki,h1]⟩
  obtain ⟨hi1',ht1,hhi,lo2,hfo2,hlo2⟩:=hkid
  have hh1:Ym hi1':=by
   rcases hhi with ⟨_,rfl⟩|⟨k,hk,rfl⟩
   ·exact hh
   ·intro e he; cases he; exact hk0 k (List.mem_of_getElem? hk)
  rw [List.length_append] at hr1
  rw [List.nodup_append] at hnd
  obtain ⟨d1,d2,d3⟩:=hnd
  have esub:arith .add (.int .i64 (level:Int)) (.int .i64 1)=some (.int .i64 ((level+1:Nat):Int)):=qE (by omega)
  have go:W (qau x.v (.int .i64 (level:Int)) (str lo) (str (hiS hi)) (.pointer (some ⟨nb,0,none⟩)) (.int .i64 (p:Int)) (str lo') (str (hiS hi1')) si (.int .i64 (ps.length:Int)) (.int .i64 (i:Int)) m) (LkQ x mb r D M m (U1++U2)):=by
   rw [P36_7_eq]
   simp -implicitDefEqProofs only [st0,qc,reduceIte,nck,fa,hs.ld.2.2,esub]
   refine qo.2 ((IH r d M m p lo' hi1' l1 U1 hs hh1 (by omega) hd (fun q hq=>hM q (by simp [hq])) d1 ht1).mono fun v1 m1 ⟨_,a2,M',a3,a4,a5⟩=>?_)
   have nf:∀ {b:Nat},lo0≤b→b∉[x.xb,mb]:=fun hb' hm=>by simp at hm; omega
   have hlow:∀ b∈[x.xb,mb],b<lo0:=fun b hb'=>by simp at hb'; omega
   simp -implicitDefEqProofs only [st0,qc,reduceIte,qE (i:=i) (by omega)]
   refine (ih (i+1) (r+U1.length) D M' m1 (ks.drop (i+1)) lo2 l2 U2 hi1 rfl hlt hfo2 (fun _ h=>by rw [Nat.add_sub_cancel]; exact hlo2 h) (fun h=>by omega) a3 (by omega) (.inr rfl) (fun _=>rfl) (fun q hq hm=>?_) d2 (Nat.lt_of_lt_of_le hnb a2.next) ((a2.same nb hnb (nf hb.1)).trans gb) (k2.upd a2 hlow) (k3.upd a2 hlow)).mono fun v2 m2 ⟨b1,b2,M'',b3,b4,b5⟩=>⟨b1,a2.trans b2,M'',by rw [List.length_append,← Nat.add_assoc]; exact b3,by rw [List.length_append]; omega,fun q=>?_⟩
   ·rcases (a5 q).1 hm with h1|h1
    ·exact hM q (by simp [hq]) h1
    ·exact d3 q h1 q hq rfl
   ·rw [b5 q,a5 q,List.mem_append,or_assoc]
  have six:W (qav x.v (.int .i64 (level:Int)) (str lo) (str (hiS hi)) (.pointer (some ⟨nb,0,none⟩)) (.int .i64 (i:Int)) (.int .i64 (p:Int)) (str lo') (str (hiS hi)) si (.int .i64 (ps.length:Int)) (.int .i64 (i:Int)) m) (LkQ x mb r D M m (U1++U2)):=by
   rw [P36_6_eq]
   rcases hhi with ⟨hki,rfl⟩|⟨k,hk,rfl⟩
   ·have e2:((i:Int)<(ks.length:Int))=False:=eq_false (by omega)
    simp -implicitDefEqProofs only [st0,qc,reduceIte,fa,qG gb (o:=0+2) rfl,qY k2,e2]
    exact go
   ·have hki:i<ks.length:=by
     rcases Nat.lt_or_ge i ks.length with h|h
     ·exact h
     ·rw [List.getElem?_eq_none h] at hk; cases hk
    have e2:((i:Int)<(ks.length:Int))=True:=eq_true (by omega)
    obtain ⟨pk2,w1,w2⟩:=KT k2 hk
    simp -implicitDefEqProofs only [st0,qc,reduceIte,fa,qG gb (o:=0+2) rfl,qY k2,e2,w1,w2 m k2]
    exact go
  rw [P36_5_eq]
  by_cases h0:i=0
  ·have e3:((0:Int)<(i:Int))=False:=eq_false (by omega)
   obtain rfl:=hlo0 h0
   simp -implicitDefEqProofs only [st0,qc,reduceIte,e1,y1,y2,e3]
   exact six
  ·have e3:((0:Int)<(i:Int))=True:=eq_true (by omega)
   obtain ⟨pk3,w1,w2⟩:=KT k2 (hlo (by omega) (by omega))
   have e4:arith .sub (.int .i64 (i:Int)) (.int .i64 1)=some (.int .i64 ((i - 1:Nat):Int)):=by rw [zS (by omega) (by omega)]; congr 2; omega
   simp -implicitDefEqProofs only [st0,qc,reduceIte,e1,y1,y2,e3,fa,qG gb (o:=0+2) rfl,e4,w1,w2 m k2]
   exact six
end Go.Fx.Tryz
namespace Go.Fx.Tryz
open Go Go.Fx
theorem qbh {a b:Bool} {p q r p' q' r':Value} (h:jM a p q r=jM b p' q' r'):a=b∧p=p'∧q=q'∧r=r':=by
 injection h with e
 injection e with e
 injection e with e1 e
 injection e with e2 e
 injection e with e3 e
 injection e with e4 e
 injection e1 with e1
 exact ⟨e1,e2,e3,e4⟩
set_option maxRecDepth 4000 in
theorem qbo {x:Wx} (he:x.err=0) {mb h level r d:Nat} {M:List (Nat × Nat)} {m:Mem} {page:Nat} {lo:Bs} {hi:Option Bs} {l:List Pr} {U:List Nat} (hs:SR x mb r d M m) (hh:Ym hi) (hrd:r+U.length≤1000) (hl1:1≤level) (hl40:level+(h+1)≤40) (hd:d=0∨d=level+(h+1)) (hM:∀ q∈U,q∉M.map (·.1)) (hnd:U.Nodup) (ht:Tr x.o.s (h+1) page lo hi l U)
  (IH:∀ (r d:Nat) (M:List (Nat × Nat)) (m:Mem) (page:Nat) (lo:Bs) (hi:Option Bs) (l:List Pr) (U:List Nat),SR x mb r d M m→Ym hi→r+U.length≤1000→(d=0∨d=level+(h+1))→(∀ q∈U,q∉M.map (·.1))→U.Nodup→Tr x.o.s h page lo hi l U→W (Call S tab 36 [x.v,.int .i64 (page:Int),.int .i64 ((level+1:Nat):Int),str lo,str (hiS hi)] m) (LkQ x mb r (level+(h+1)) M m U)) :
  W (Call S tab 36 [x.v,.int .i64 (page:Int),.int .i64 (level:Int),str lo,str (hiS hi)] m) (LkQ x mb r (level+(h+1)) M m U):=by
 have e41:arith .sub (.int .i64 41) (.int .i64 (level:Int))=some (.int .i64 ((41 - level:Nat):Int)):=by
  rw [zS (by omega) (by omega)]; congr 2; omega
 have e01:arith .add (.int .i64 0) (.int .i64 1)=some (.int .i64 1):=rfl
 obtain ⟨n,U',hp,hn,hnt,rfl⟩:=zO.1 ht
 obtain ⟨ks,ps,rfl,hks,hfo⟩:=hnt
 have hne:ks≠[]:=by simpa [neN,Nd.nd] using hn
 obtain ⟨hh',hlk⟩:=hp.here
 have hlt:=xu hh'
 have hP:x.o.P≤160:=hs.xr.wr.hP
 have hfew:=wJ hp.rt hp.sz
 have hfew:ps.length≤ks.length+1∧ps.length≤200:=hfew
 obtain ⟨hp0,i1,r1,v1,p1⟩:=zd hp.rt rfl
 have i1:ps.length=ks.length+1:=i1
 have v1:∀ k∈ks,k≠[]∧k.length≤32:=v1
 simp only [List.length_cons] at hrd
 rw [List.nodup_cons] at hnd
 obtain ⟨n1',n2',n3',n4',n5'⟩:=hs.ne
 have hpM:=hM page (by simp)
 rw [C36]
 simp -implicitDefEqProofs only [st0,qc,reduceIte,nck,fa,e41]
 refine qo.2 ((vA hs.xr he (by show r<1000; omega) (show 1≤41 - level by omega) (by omega) hh' hlk hp.rt hp.sz).mono fun v1 m1 ⟨t1,h1,u1⟩=>?_)
 have h1:XR (Xs x mb (r+1) d) m1:=h1
 have u1:Upd [x.xb] m m1:=u1
 have x1:=u1.next
 obtain ⟨c,lom,gm⟩:=hs.mp
 have gm1:=(u1.same mb hs.lt (by simpa using n1')).trans gm
 have hs1:SR x mb (r+1) d M m1:=⟨h1,⟨c,lom,gm1⟩,Nat.lt_of_lt_of_le hs.lt x1,hs.ne⟩
 obtain ⟨sp,sk,si,rfl,q1,q2,q3⟩:=t1.ex
 have q1:RSl m.next qJ m1 sp []:=q1
 have q2:RSl m.next zi m1 sk ks:=q2
 have q3:RSl m.next zG m1 si ps:=q3
 simp -implicitDefEqProofs only [st0,qc,reduceIte]
 refine xR (c:=[.bool (Nd.nd ks ps).leaf,sp,sk,si]) rfl rfl (by simp [q1.one.2,q2.one.2,q3.one.2,show (Value.bool (Nd.nd ks ps).leaf).oneCell'=true from rfl]) fun m2 b2 u2 n2=>?_
 have hs2:=hs1.qt u2
 have x2:=u2.next
 have gm2:=qA u2 hs1.lt gm1
 have hmem:page∈(M++[(page,c)]).map (·.1):=by simp
 simp -implicitDefEqProofs only [st0,qc,reduceIte,nck,fa,hs2.ld.1,qcL gm2 hpM,e01,qhm gm2 hpM]
 have u3:Upd [mb] m2 (m2.put mb ⟨.map (esC (M++[(page,c)])) (c+1),false,lom⟩):=Upd.put _ _ (by simp)
 have gm3:(m2.put mb ⟨.map (esC (M++[(page,c)])) (c+1),false,lom⟩).get mb=some ⟨.map (esC (M++[(page,c)])) (c+1),false,lom⟩:=Mem.qj ..
 have n3:(m2.put mb ⟨.map (esC (M++[(page,c)])) (c+1),false,lom⟩).next=m2.next:=rfl
 generalize (m2.put mb ⟨.map (esC (M++[(page,c)])) (c+1),false,lom⟩)=m3 at u3 gm3 n3
 have hs3:SR x mb (r+1) d (M++[(page,c)]) m3:=⟨hs2.xr.upd u3 fun b hb=>by simp at hb; subst hb; exact ⟨n1',n2',n3',n4',n5'⟩,⟨_,lom,gm3⟩,by rw [n3]; exact hs2.lt,hs.ne⟩
 have hlm:=hs1.lt
 have hml:=hs.lt
 have b3:=(u3.same m1.next (by omega) (by simp; omega)).trans b2
 have lowm:∀ b∈[mb],b<m.next:=fun b hb=>by simp at hb; omega
 have q13:RSl m.next qJ m3 sp []:=(q1.qt u2).upd u3 lowm
 have q23:RSl m.next zi m3 sk ks:=(q2.qt u2).upd u3 lowm
 have q33:RSl m.next zG m3 si ps:=(q3.qt u2).upd u3 lowm
 have hlf:(Nd.nd ks ps).leaf=false:=rfl
 rw [hlf] at b3
 have hxm:x.xb<m.next:=hs.xr.lx
 have ez:((0:Int)<((([]:List Pr).length:Nat):Int))=False:=eq_false (by simp)
 simp -implicitDefEqProofs only [st0,qc,reduceIte,hs3.ok he,nck,fa,hs3.ld.1,qcK gm3 hmem,Int.lt_irrefl,qG b3 (o:=0+2) rfl,qG b3 (o:=0+1) rfl,qY q13]
 rw [P36_0_eq]
 simp -implicitDefEqProofs only [st0,qc,reduceIte,ez]
 rw [P36_1_eq]
 simp -implicitDefEqProofs only [st0,qc,reduceIte,qY q23]
 refine JG (K:=ks) (lo0:=m.next) (m0:=m3) (by omega) (fun k hk=>(hks k hk).r) hh hxm (fun m5 hs5 u5=>?_) _ 0 m3 rfl (Nat.zero_le _) q23 hs3 (Upd.refl _ _)
 have x5:=u5.next
 have b5:=(u5.same m1.next (by omega) (by simp; omega)).trans b3
 have lowx:∀ b∈[x.xb],b<m.next:=fun b hb=>by simp at hb; omega
 have q25:=q23.upd u5 lowx
 have q35:=q33.upd u5 lowx
 have el:decide (((ks.length:Nat):Int)=0)=false:=decide_eq_false (by have:=List.length_pos_iff.2 hne; omega)
 rw [P36_3_eq]
 obtain ⟨hs6,u6⟩:=hs5.put (r':=r+1) (d':=d)
 have b6:=(u6.same m1.next (by omega) (by simp; omega)).trans b5
 have q26:=q25.upd u6 lowx
 have q36:=q35.upd u6 lowx
 have n6:(m5.put x.xb (Xs x mb (r+1) d).blk).next=m5.next:=rfl
 simp -implicitDefEqProofs only [st0,qc,reduceIte,nck,fa,hs5.ld.2.2,qY q25,el,hs5.qeU,qG b6 (o:=0+0) rfl,qG b6 (o:=0+3) rfl,qY q36]
 have u06:Upd [x.xb,mb] m (m5.put x.xb (Xs x mb (r+1) d).blk):=by
  have s1:∀ b,b∈[x.xb]→b∈[x.xb,mb]:=fun b hb=>by simp at hb; simp [hb]
  exact ((((u1.mono fun b hb _=>s1 b hb).qD u2).trans (u3.mono fun b hb _=>by simp at hb; simp [hb])).trans (u5.mono fun b hb _=>s1 b hb)).trans (u6.mono fun b hb _=>s1 b hb)
 generalize (m5.put x.xb (Xs x mb (r+1) d).blk)=m6 at hs6 u06 b6 q26 q36 n6
 refine (qbq he (lo0:=m.next) (h:=h) (by omega) hfew.2 i1 (fun k hk=>(v1 k hk).1) hh (D:=level+(h+1)) IH ⟨by omega,hxm,hml⟩ ps 0 (r+1) d (M++[(page,c)]) m6 ks lo l U' rfl rfl (Nat.zero_le _) (.inr hfo) (fun h=>by omega) (fun _=>rfl) hs6 (by omega) hd (fun e=>by rw [e] at i1; simp at i1) (fun q hq hm=>?_) hnd.2 (by omega) b6 q26 q36).mono fun v2 m7 ⟨w1,w2,M',w3,w4,w5⟩=>⟨w1,u06.trans w2,M',?_,?_,fun q=>?_⟩
 ·simp only [List.map_append,List.map_cons,List.map_nil,List.mem_append,List.mem_cons,List.not_mem_nil,or_false] at hm
  rcases hm with h3|h3
  ·exact hM q (by simp [hq]) h3
  ·exact hnd.1 (h3 ▸ hq)
 ·rw [List.length_cons,show r+(U'.length+1)=r+1+U'.length by omega]; exact w3
 ·rw [w4]; simp; omega
 ·rw [w5 q]; simp [or_assoc]
set_option maxRecDepth 4000 in
theorem look_ok {x:Wx} (he:x.err=0) {mb:Nat}:∀ (h level r d:Nat) (M:List (Nat × Nat)) (m:Mem) (page:Nat) (lo:Bs) (hi:Option Bs) (l:List Pr) (U:List Nat),SR x mb r d M m→Ym hi→r+U.length≤1000→1≤level→level+h≤40→(d=0∨d=level+h)→(∀ q∈U,q∉M.map (·.1))→U.Nodup→Tr x.o.s h page lo hi l U →
  W (Call S tab 36 [x.v,.int .i64 (page:Int),.int .i64 (level:Int),str lo,str (hiS hi)] m) (LkQ x mb r (level+h) M m U):=by
 intro h
 induction h with
 | succ h ih =>
  intro level r d M m page lo hi l U hs hh hrd hl1 hl40 hd hM hnd ht
  exact qbo he hs hh hrd hl1 hl40 hd hM hnd ht fun r d M m page lo hi l U hs hh hrd hd hM hnd ht=>by
   have:=ih (level+1) r d M m page lo hi l U hs hh hrd (by omega) (by omega) (by rw [show level+1+h=level+(h+1) by omega]; exact hd) hM hnd ht
   rwa [show level+1+h=level+(h+1) by omega] at this
 | zero =>
 have e41:∀ level:Nat,level≤40→arith .sub (.int .i64 41) (.int .i64 (level:Int))=some (.int .i64 ((41 - level:Nat):Int)):=fun level hl=>by
  rw [zS (by omega) (by omega)]; congr 2; omega
 have e01:arith .add (.int .i64 0) (.int .i64 1)=some (.int .i64 1):=rfl
 ·intro level r d M m page lo hi l U hs hh hrd hl1 hl40 hd hM hnd ht
  obtain ⟨n,U',hp,hn,hnt,rfl⟩:=zO.1 ht
  have hnt0:n=Nd.lf l∧(∀ x∈l,inR lo hi x.1)∧U'=[]:=hnt
  obtain ⟨rfl,hl,rfl⟩:=hnt0
  have hl0:l≠[]:=by simpa [neN,Nd.lf] using hn
  obtain ⟨hh',hlk⟩:=hp.here
  have hlt:=xu hh'
  have hP:x.o.P≤160:=hs.xr.wr.hP
  have hfew:l.length≤127:=(kY hp.rt hp.sz).1
  simp only [List.length_cons,List.length_nil] at hrd
  obtain ⟨n1',n2',n3',n4',n5'⟩:=hs.ne
  have hpM:=hM page (by simp)
  rw [C36]
  simp -implicitDefEqProofs only [st0,qc,reduceIte,nck,fa,e41 level (by omega)]
  refine qo.2 ((qcf hs.xr he (by show r<1000; omega) (show 1≤41 - level by omega) (by omega) hh' hlk hp.rt hp.sz).mono fun v1 m1 ⟨t1,h1,u1,xl⟩=>?_)
  have h1:XR (Xs x mb (r+1) d) m1:=h1
  have u1:Upd [x.xb] m m1:=u1
  have x1:=u1.next
  obtain ⟨c,lom,gm⟩:=hs.mp
  have gm1:=(u1.same mb hs.lt (by simpa using n1')).trans gm
  have hs1:SR x mb (r+1) d M m1:=⟨h1,⟨c,lom,gm1⟩,Nat.lt_of_lt_of_le hs.lt x1,hs.ne⟩
  obtain ⟨sp',xl⟩:=xl rfl
  obtain ⟨sp,sk,si,hv,q1,q2,q3⟩:=t1.ex
  subst hv
  obtain ⟨_,rfl,rfl,rfl⟩:=qbh xl
  have q1:RSl m.next qJ m1 sp l:=q1
  simp -implicitDefEqProofs only [st0,qc,reduceIte]
  refine xR (c:=[.bool (Nd.lf l).leaf,sp,.slice none 0 0,.slice none 0 0]) rfl rfl (by simp [q1.one.2,show (Value.bool (Nd.lf l).leaf).oneCell'=true from rfl,show (Value.slice none 0 0).oneCell'=true from rfl]) fun m2 b2 u2 n2=>?_
  have hs2:=hs1.qt u2
  have q12:=q1.qt u2
  have x2:=u2.next
  have gm2:=qA u2 hs1.lt gm1
  have hmem:page∈(M++[(page,c)]).map (·.1):=by simp
  simp -implicitDefEqProofs only [st0,qc,reduceIte,nck,fa,hs2.ld.1,qcL gm2 hpM,e01,qhm gm2 hpM]
  have u3:Upd [mb] m2 (m2.put mb ⟨.map (esC (M++[(page,c)])) (c+1),false,lom⟩):=Upd.put _ _ (by simp)
  have gm3:(m2.put mb ⟨.map (esC (M++[(page,c)])) (c+1),false,lom⟩).get mb=some ⟨.map (esC (M++[(page,c)])) (c+1),false,lom⟩:=Mem.qj ..
  have n3:(m2.put mb ⟨.map (esC (M++[(page,c)])) (c+1),false,lom⟩).next=m2.next:=rfl
  generalize (m2.put mb ⟨.map (esC (M++[(page,c)])) (c+1),false,lom⟩)=m3 at u3 gm3 n3
  have hs3:SR x mb (r+1) d (M++[(page,c)]) m3:=⟨hs2.xr.upd u3 fun b hb=>by simp at hb; subst hb; exact ⟨n1',n2',n3',n4',n5'⟩,⟨_,lom,gm3⟩,by rw [n3]; exact hs2.lt,hs.ne⟩
  have hlm:=hs1.lt
  have b3:=(u3.same m1.next (by omega) (by simp; omega)).trans b2
  have q13:RSl m.next qJ m3 sp l:=q12.upd u3 fun b hb=>by simp at hb; have:=hs.lt; omega
  have hlf:(Nd.lf l).leaf=true:=rfl
  rw [hlf] at b3
  simp -implicitDefEqProofs only [st0,qc,reduceIte,hs3.ok he,nck,fa,hs3.ld.1,qcK gm3 hmem,Int.lt_irrefl,qG b3 (o:=0+2) rfl,qG b3 (o:=0+1) rfl,qY q13]
  refine qbp (by omega) (fun c hc=>(q13.2 c hc).2) (fun m4 v hv hvb u4=>?_) _ 0 m3 _ rfl (Nat.zero_le _) q13 (TAp.nil _) (fun c hc=>by simp [qe] at hc) (Upd.refl _ _)
  have x4:=u4.next
  have hs4:=hs3.qt u4
  have b4:=qA u4 (by omega) b3
  have hvr:RSl m3.next zi m4 v (l.map (·.1)):=hv.rsl hvb
  have hxm:x.xb<m.next:=hs.xr.lx
  rw [P36_1_eq]
  simp -implicitDefEqProofs only [st0,qc,reduceIte,qY hvr]
  refine JG (K:=l.map (·.1)) (lo0:=m3.next) (m0:=m4) (by simpa using by omega) (fun k hk=>by obtain ⟨y,hy,rfl⟩:=List.mem_map.1 hk; exact hl y hy) hh (by omega) (fun m5 hs5 u5=>?_) _ 0 m4 rfl (Nat.zero_le _) hvr hs4 (Upd.refl _ _)
  have x5:=u5.next
  have b5:=(u5.same m1.next (by omega) (by simp; omega)).trans b4
  have hvr5:RSl m3.next zi m5 v (l.map (·.1)):=hvr.upd u5 fun b hb=>by simp at hb; omega
  have el:decide ((((l.map (·.1)).length:Nat):Int)=0)=false:=decide_eq_false (by have:=List.length_pos_iff.2 hl0; simp; omega)
  rw [P36_3_eq]
  obtain ⟨hs6,u6⟩:=hs5.put (r':=r+1) (d':=d)
  have b6:=(u6.same m1.next (by omega) (by simp; omega)).trans b5
  simp -implicitDefEqProofs only [st0,qc,reduceIte,nck,fa,hs5.ld.2.2,qY hvr5,el,hs5.qeU,qG b6 (o:=0+0) rfl,hs6.ld.2.1]
  have u06:Upd [x.xb,mb] m (m5.put x.xb (Xs x mb (r+1) d).blk):=by
   have s1:∀ b,b∈[x.xb]→b∈[x.xb,mb]:=fun b hb=>by simp at hb; simp [hb]
   exact (((((u1.mono fun b hb _=>s1 b hb).qD u2).trans (u3.mono fun b hb _=>by simp at hb; simp [hb])).qD u4).trans (u5.mono fun b hb _=>s1 b hb)).trans (u6.mono fun b hb _=>s1 b hb)
  generalize (m5.put x.xb (Xs x mb (r+1) d).blk)=m6 at hs6 u06 b6
  have fin:∀ m7,SR x mb (r+1) level (M++[(page,c)]) m7→Upd [x.xb] m6 m7→W (qaw x.v (.int .i64 (level:Int)) m7) (LkQ x mb r (level+0) M m [page]):=fun m7 hs7 u7=>by
   rw [P36_4_eq]
   obtain ⟨hs8,u8⟩:=hs7.put (r':=r+1) (d':=level)
   have ed:decide ((level:Int)=(level:Int))=true:=decide_eq_true rfl
   simp -implicitDefEqProofs only [st0,qc,reduceIte,nck,fa,hs7.ld.2.2,hs7.ld.2.1,ed,hs7.qeU]
   refine ⟨rfl,(u06.trans (u7.mono fun b hb _=>by simp at hb; simp [hb])).trans (u8.mono fun b hb _=>by simp at hb; simp [hb]),_,hs8,by simp,fun q=>by simp⟩
  rcases hd with rfl|hd
  ·have ed:decide (((0:Nat):Int)=0)=true:=rfl
   obtain ⟨hs7,u7⟩:=hs6.put (r':=r+1) (d':=level)
   simp -implicitDefEqProofs only [st0,qc,reduceIte,ed,nck,fa,hs6.deep level]
   exact fin _ hs7 u7
  ·have hd':d=level:=hd
   have ed:decide ((d:Int)=0)=false:=decide_eq_false (by omega)
   simp -implicitDefEqProofs only [st0,qc,reduceIte,ed]
   exact fin m6 (hd' ▸ hs6) (Upd.refl _ _)
theorem qgP (w mb:Nat):qy [.pointer none,.int .i64 0,.int .i64 0,.map none,.int .i64 0,.bool false] [(0,3,.agg [.pointer (some ⟨w,0,none⟩),.int .i64 0,.int .i64 0].toArray),(3,1,.map (some mb))]=some [.pointer (some ⟨w,0,none⟩),.int .i64 0,.int .i64 0,.map (some mb),.int .i64 0,.bool false]:=by kernel_rfl
theorem Xd {o:Wo} {m:Mem} (h:WR o m) {root:Nat} {l:List Pr} {U:List Nat} (ht:TrR o.s root l U) (hnd:U.Nodup) :
  W (Call S tab 15 [.pointer (some ⟨o.w,0,none⟩),.int .i64 (root:Int)] m) fun r m'=>∃ dep:Nat,r=.tuple #[.int .i64 (U.length:Int),.int .i64 (dep:Int),.bool true]∧Upd [] m m'∧((dep=0∧l=[]∧U=[])∨(1≤dep∧dep≤8∧2 ^ (dep - 1)≤l.length∧U.length+1≤2 * l.length∧1≤U.length)):=by
 rw [C15]
 rcases ht with ⟨rfl,rfl,rfl⟩|⟨g,ht⟩
 ·have e0:(((0:Nat):Int)=0)=True:=eq_true rfl
  simp -implicitDefEqProofs only [st0,qc,reduceIte,e0]
  exact ⟨0,rfl,Upd.refl _ _,.inl ⟨rfl,trivial,trivial⟩⟩
 ·have hpos:=wz ht
  have hlow:=yQ h.hP ht hnd
  have hcnt:=Vi o.s g root [] none l U ht
  have e0:((root:Int)=0)=False:=eq_false (by omega)
  have w1:=h.lw; have w2:=h.lm; have w3:=h.lc; have w4:=h.lp
  have f1:=WE o.w
  simp -implicitDefEqProofs only [st0,qc,reduceIte,e0,WE,zI,qgP,qQ]
  have u1:Upd [] m (m.add ⟨.map [] 0,false,none⟩):=Upd.add _ _ _
  have g1:(m.add ⟨.map [] 0,false,none⟩).get m.next=some ⟨.map [] 0,false,none⟩:=Mem.qk ..
  have n1:(m.add ⟨.map [] 0,false,none⟩).next=m.next+1:=rfl
  generalize (m.add ⟨.map [] 0,false,none⟩)=m1 at u1 g1 n1
  let y:Wx:=⟨o,m1.next,[],87,0,0⟩
  have eblk:(⟨.cells [.pointer (some ⟨o.w,0,none⟩),.int .i64 0,.int .i64 0,.map (some m.next),.int .i64 0,.bool false] 87,false,none⟩:ABlk)=(Xs y m.next 0 0).blk:=rfl
  rw [eblk]
  have u2:Upd [] m1 (m1.add (Xs y m.next 0 0).blk):=Upd.add _ _ _
  have g2:(m1.add (Xs y m.next 0 0).blk).get m1.next=some (Xs y m.next 0 0).blk:=Mem.qk ..
  have n2:(m1.add (Xs y m.next 0 0).blk).next=m1.next+1:=rfl
  have k2:=qA u2 (by omega) g1
  have hs:SR y m.next 0 0 [] (m1.add (Xs y m.next 0 0).blk):=⟨⟨(h.qt u1).qt u2,g2,by show m1.next<_; omega,⟨by show m1.next≠o.w; omega,by show m1.next≠o.pm; omega,by show m1.next≠o.c; omega,by show m1.next≠o.p; omega⟩⟩,⟨0,none,k2⟩,by omega,⟨by show m.next≠m1.next; omega,by show m.next≠o.w; omega,by show m.next≠o.pm; omega,by show m.next≠o.c; omega,by show m.next≠o.p; omega⟩⟩
  generalize (m1.add (Xs y m.next 0 0).blk)=m2 at u2 n2 hs
  have:=look_ok (x:=y) rfl g 1 0 0 [] m2 root [] none l U hs (fun e he=>by cases he) (by omega) (Nat.le_refl _) (by omega) (.inl rfl) (fun q hq=>by simp) hnd ht
  refine qo.2 (this.mono fun v3 m3 ⟨_,u3,M',s3,c3,_⟩=>?_)
  obtain ⟨c,lom,g3⟩:=s3.mp
  have hl:wU (.map (some m.next)) m3=some (.int .i64 (U.length:Int)):=by
   have:m3.xL m.next=some (esC M',c):=by simp [Mem.xL,g3]
   simp only [wU,this,Option.map_some]
   congr 3
   simp [esC,c3]
  have ld:=s3.ld
  have ld3:qb (.pointer (some ⟨m1.next,0+3,none⟩)) m3=some (.map (some m.next)):=ld.1
  have ld4:qb (.pointer (some ⟨m1.next,0+4,none⟩)) m3=some (.int .i64 ((1+g:Nat):Int)):=ld.2.1
  have ld5:qb (.pointer (some ⟨m1.next,0+5,none⟩)) m3=some (.bool false):=ld.2.2
  simp -implicitDefEqProofs only [st0,qc,reduceIte,nck,fa,ld5,ld3,hl,ld4]
  refine ⟨1+g,rfl,(u1.qD u2).then' u3 (fun b hb=>.inr ?_),.inr ⟨by omega,by omega,?_,hcnt.2.2,by have:=Nat.two_pow_pos g; omega⟩⟩
  ·have:y.xb=m1.next:=rfl
   simp [this] at hb; omega
  ·rw [Nat.add_sub_cancel_left]; exact hcnt.1
end Go.Fx.Tryz
