/- Parts of a proof: DuE, DuF, DuG, DuH, TreeFr, TreeFs. Conditions: none. -/
import Derived.Test.YtbhdhhgpfanmcaaGreatDoorQo21
set_option linter.unusedSimpArgs false
set_option linter.unusedVariables false
namespace Go.Fx.Tryz
open Go Go.Fx
structure Tn (x x':To) (m m':Mem):Prop where
 t:x'.t=x.t
 b:x'.b=x.b
 tm:x'.tm=x.tm
 nb:x'.nb=x.nb
 nts:x'.nts=x.nts
 w:x'.o.w=x.o.w
 c:x'.o.c=x.o.c
 p:x'.o.p=x.o.p
 P:x'.o.P=x.o.P
 upd:Upd x.fp m m'
 grow:∀ b∈x'.o.zr,b∈x.o.zr∨m.next≤b
 gr:Gr x.ns x'.ns
theorem XY {es:List MapEntry} {k:Nat}:kW es k=true↔(∀ e∈es,e.born<k)∧(es.map (·.born)).Nodup:=by
 unfold kW
 rw [Bool.and_eq_true,List.all_eq_true]
 constructor
 ·rintro ⟨h1,h2⟩
  exact ⟨fun e he=>by have:=h1 e he; rwa [Nat.blt_eq] at this,vN (fun a b=>by rw [Nat.beq_eq]) _ h2⟩
 ·rintro ⟨h1,h2⟩
  exact ⟨fun e he=>by rw [Nat.blt_eq]; exact h1 e he,QM (fun a b=>by rw [Nat.beq_eq]) _ h2⟩
theorem qdT {ts:List Tab1} {K:Nat} (h:kW (esT ts) K=true) (nm:Bs) (r:Nat) (l:List Pr) (U:List Nat):kW (esT (ts++[⟨nm,r,l,U,K⟩])) (K+1)=true:=by
 rw [XY] at h ⊢
 obtain ⟨h1,h2⟩:=h
 have e:esT (ts++[⟨nm,r,l,U,K⟩])=esT ts++[enT ⟨nm,r,l,U,K⟩]:=by simp [esT]
 rw [e]
 refine ⟨fun x hx=>?_,?_⟩
 ·rcases List.mem_append.1 hx with hx|hx
  ·have:=h1 x hx; omega
  ·simp at hx; subst hx; show K<K+1; omega
 ·rw [List.map_append,List.nodup_append]
  refine ⟨h2,by simp,fun a ha b hb=>?_⟩
  obtain ⟨y,hy,rfl⟩:=List.mem_map.1 ha
  have:=h1 y hy
  simp [enT] at hb
  omega
theorem qdS {a b:List Tab1} {q:Tab1} {K:Nat} (h:kW (esT (a++q::b)) K=true) (r:Nat) (l:List Pr) (U:List Nat):kW (esT (a++⟨q.nm,r,l,U,q.born⟩::b)) K=true:=by
 rw [XY] at h ⊢
 have e:(esT (a++⟨q.nm,r,l,U,q.born⟩::b)).map (·.born)=(esT (a++q::b)).map (·.born):=by simp [esT,enT]
 refine ⟨fun x hx=>?_,by rw [e]; exact h.2⟩
 have:x.born∈(esT (a++⟨q.nm,r,l,U,q.born⟩::b)).map (·.born):=List.mem_map.2 ⟨x,hx,rfl⟩
 rw [e] at this
 obtain ⟨y,hy,e2⟩:=List.mem_map.1 this
 rw [← e2]; exact h.1 y hy
theorem Valid.ins {T:List Tb} (h:Valid T) {nm:Bs} (hr:xu nm=true) (hn:∀ t∈T,t.1≠nm) (hl:T.length<12):Valid (QP T nm):=by
 refine ⟨?_,fun t ht=>?_,QO T h.rise hn,fun t ht=>?_,fun t ht=>?_⟩
 ·have:=(yb nm T).length_eq; simp at this; omega
 ·rcases Qj.1 ht with rfl|ht
  ·exact hr
  ·exact h.right t ht
 ·rcases Qj.1 ht with rfl|ht
  ·exact ⟨rfl,by simp⟩
  ·exact h.row t ht
 ·rcases Qj.1 ht with rfl|ht
  ·simp
  ·exact h.few t ht
theorem Xp {T:List Tb} {nm:Bs} {l:List Pr} {t:Tb} (h:t∈QC T nm l):t∈T∨(t=(nm,l)∧∃ q∈T,q.1=nm):=by
 obtain ⟨q,hq,rfl⟩:=List.mem_map.1 h
 split
 ·rename_i e; exact .inr ⟨rfl,q,hq,e⟩
 ·exact .inl hq
theorem Valid.set {T:List Tb} (h:Valid T) {nm:Bs} {l:List Pr} (hl:rowP l) (hf:l.length≤65535):Valid (QC T nm l):=by
 refine ⟨by simp [QC]; exact h.len,fun t ht=>?_,?_,fun t ht=>?_,fun t ht=>?_⟩
 ·rcases Xp ht with ht|⟨rfl,q,hq,rfl⟩
  ·exact h.right t ht
  ·exact h.right q hq
 ·rw [jP,Xo,← jP]; exact h.rise
 ·rcases Xp ht with ht|⟨rfl,_⟩
  ·exact h.row t ht
  ·exact hl
 ·rcases Xp ht with ht|⟨rfl,_⟩
  ·exact h.few t ht
  ·exact hf
theorem TrR.qju {o:Wo} (hP:o.P≤160) {root:Nat} {l:List Pr} {U:List Nat} (h:TrR o.s root l U) (hnd:U.Nodup):l.length≤20400:=by
 rcases h with ⟨_,rfl,_⟩|⟨g,h⟩
 ·simp
 ·have:=ZP o.s g root [] none l U h
  have:=(Vm hP h hnd).2
  omega
section
variable {x:To} {T:List Tb} {m:Mem} {nm:Bs}
theorem VN (h:TR x T m) (nm:Bs):W (Call S tab 20 [x.v,str nm] m) fun r m' =>
  (xu nm=false∧r=.int .i64 1∧Upd [] m m')∨(xu nm=true∧(∃ t∈x.ts,t.nm=nm)∧r=.int .i64 11∧Upd [] m m')∨(xu nm=true∧(∀ t∈x.ts,t.nm≠nm)∧12≤T.length∧r=.int .i64 3∧Upd [] m m') ∨
  (xu nm=true∧(∀ t∈x.ts,t.nm≠nm)∧T.length<12∧r=.int .i64 0∧∃ x',TR x' (QP T nm) m'∧Tn x x' m m'∧x'.ns=x.ns∧x'.xA=x.xA∧x'.ts=x.ts++[⟨nm,0,[],[],x.K⟩]):=by
 have d0:decide ((0:Int)=0)=true:=rfl
 have key:∀ (r n:Nat) (ht:Bool),(ht=false→∀ t∈x.ts,t.nm≠nm)→(ht=true→∃ t∈x.ts,t.nm=nm)→zb .str (tbV 0 0) true (.map (some x.tm)) (str nm) m=some (.tuple #[tbV r n,.bool ht])→W (Call S tab 20 [x.v,str nm] m) fun r m' =>
  (xu nm=false∧r=.int .i64 1∧Upd [] m m')∨(xu nm=true∧(∃ t∈x.ts,t.nm=nm)∧r=.int .i64 11∧Upd [] m m')∨(xu nm=true∧(∀ t∈x.ts,t.nm≠nm)∧12≤T.length∧r=.int .i64 3∧Upd [] m m') ∨
  (xu nm=true∧(∀ t∈x.ts,t.nm≠nm)∧T.length<12∧r=.int .i64 0∧∃ x',TR x' (QP T nm) m'∧Tn x x' m m'∧x'.ns=x.ns∧x'.xA=x.xA∧x'.ts=x.ts++[⟨nm,0,[],[],x.K⟩]):=fun r n ht hf htt hk=>by
  have hk:zb .str (.agg #[.int .i64 0,.int .i64 0]) true (.map (some x.tm)) (str nm) m=some (.tuple #[tbV r n,.bool ht]):=hk
  rw [C20]
  simp -implicitDefEqProofs only [st0,qb,reduceIte,vE h,d0,nck,fa,h.ld2,hk,xt0,xt1]
  refine ZZ fun m1 u1 n1 g1=>?_
  refine qo.2 ((qcg nm m1).mono fun v m2 ⟨e,u2⟩=>?_)
  subst e
  have u:=u1.qz u2
  have h2:=h.qx u
  cases hr:xu nm with
  | false =>
   simp -implicitDefEqProofs only [st0,qb,reduceIte]
   exact .inl ⟨trivial,trivial,u⟩
  | true =>
   cases ht with
   | true =>
    simp -implicitDefEqProofs only [st0,qb,reduceIte]
    exact .inr (.inl ⟨trivial,htt rfl,trivial,u⟩)
   | false =>
    have hl:=h2.mo.len
    by_cases hc:T.length<12
    ·have e1:((12:Int)≤(x.ts.length:Int))=False:=eq_false (by omega)
     have hu:zn .str (.map (some x.tm)) (str nm) (.agg [.int .i64 0,.int .i64 0].toArray) m2=some (m2.put x.tm ⟨.map (esT (x.ts++[⟨nm,0,[],[],x.K⟩])) (x.K+1),false,none⟩):=qev h2.tg (hf rfl) 0 [] []
     simp -implicitDefEqProofs only [st0,qb,reduceIte,nck,fa,h2.ld2,qik h2.tg,e1,qgJ,hu]
     have u3:Upd [x.tm] m2 (m2.put x.tm ⟨.map (esT (x.ts++[⟨nm,0,[],[],x.K⟩])) (x.K+1),false,none⟩):=Upd.put _ _ (by simp)
     have ne:=h2.ne
     have hpg:To.xA { x with ts:=x.ts++[⟨nm,0,[],[],x.K⟩],K:=x.K+1 } = x.xA:=by simp [To.xA]
     have hno:=h2.mo.no (hf rfl)
     refine .inr (.inr (.inr ⟨trivial,hf rfl,hc,trivial,{ x with ts:=x.ts++[⟨nm,0,[],[],x.K⟩],K:=x.K+1 },⟨?_,Mem.qi ..,h2.wi.upd u3 fun b hb=>?_,h2.nb.upd u3 fun b hb hm=>?_,h2.mo.make (hf rfl) _ _ _,h2.va.ins hr hno hc,qdT h2.bo ..,fun t ht=>?_,by rw [hpg]; exact h2.nd,by rw [hpg]; exact h2.own,h2.lt,h2.ne,h2.nn⟩,⟨rfl,rfl,rfl,rfl,rfl,rfl,rfl,rfl,rfl,(u.nil').trans (u3.mono fun b hb _=>by simp at hb; simp [To.fp,hb]),fun b hb=>.inl hb,Gr.rfl' _⟩,rfl,hpg,rfl⟩))
     ·exact (Mem.qu m2 _ ne.1).trans h2.tx
     ·simp at hb; subst hb; exact ⟨ne.2.2.1,ne.2.2.2.1,ne.2.2.2.2⟩
     ·simp at hm; exact (h2.nn b hb).2.2.2.2 hm
     ·rcases List.mem_append.1 ht with ht|ht
      ·exact h2.tr t ht
      ·simp at ht; subst ht; exact .inl ⟨rfl,rfl,rfl⟩
    ·have e1:((12:Int)≤(x.ts.length:Int))=True:=eq_true (by omega)
     simp -implicitDefEqProofs only [st0,qb,reduceIte,nck,fa,h2.ld2,qik h2.tg,e1]
     exact .inr (.inr (.inl ⟨trivial,hf rfl,by omega,trivial,u⟩))
 rcases qdA x.ts nm with hn|⟨a,q,b,he,rfl⟩
 ·exact key 0 0 false (fun _=>hn) (fun h=>by cases h) (WG h.tg hn _)
 ·have hs:=kt (by rw [← he]; exact h.mo.nodup)
  have tg:=h.tg
  rw [he] at tg
  exact key q.root q.l.length true (fun h=>by cases h) (fun _=>⟨q,by rw [he]; simp,rfl⟩) (WH tg hs.1 _)
theorem TR.tree (h:TR x T m) {a b:List Tab1} {q:Tab1} (he:x.ts=a++q::b) {o':Wo} {r:Nat} {l:List Pr} {U:List Nat} (st:Stp x.o.s o'.s q.U U) (tr:TrR o'.s r l U) (nd:U.Nodup) :
  (∀ t∈a++⟨q.nm,r,l,U,q.born⟩::b,TrR o'.s t.root t.l t.U)∧((a++⟨q.nm,r,l,U,q.born⟩::b).flatMap (·.U)).Nodup∧∀ k,o'.s k≠none→k∈(a++⟨q.nm,r,l,U,q.born⟩::b).flatMap (·.U):=by
 have hnd:=h.nd
 unfold To.xA at hnd
 rw [he,List.flatMap_append,List.flatMap_cons,List.nodup_append,List.nodup_append] at hnd
 obtain ⟨n1,⟨n2,n3,n4⟩,n5⟩:=hnd
 have kp:∀ t,(t∈a∨t∈b)→∀ k∈t.U,o'.s k=x.o.s k∧k∉U:=fun t ht k hk=>by
  have hin:t∈x.ts:=by rw [he]; rcases ht with h|h<;>simp [h]
  refine st.jB (fun hq=>?_) ((h.tr t hin).used k hk)
  rcases ht with ht|ht
  ·exact n5 k (List.mem_flatMap.2 ⟨t,ht,hk⟩) k (by simp [hq]) rfl
  ·exact n4 k hq k (List.mem_flatMap.2 ⟨t,ht,hk⟩) rfl
 have kpo:∀ t,(t∈a∨t∈b)→TrR o'.s t.root t.l t.U:=fun t ht =>
  (h.tr t (by rw [he]; rcases ht with h|h<;>simp [h])).jB fun k hk=>(kp t ht k hk).1
 refine ⟨fun t ht=>?_,?_,fun k hk=>?_⟩
 ·rcases List.mem_append.1 ht with ht|ht
  ·exact kpo t (.inl ht)
  ·rcases List.mem_cons.1 ht with rfl|ht
   ·exact tr
   ·exact kpo t (.inr ht)
 ·rw [List.flatMap_append,List.flatMap_cons,List.nodup_append,List.nodup_append]
  refine ⟨n1,⟨nd,n3,fun k hk j hj e=>?_⟩,fun k hk j hj e=>?_⟩
  ·subst e
   obtain ⟨t,ht,hkt⟩:=List.mem_flatMap.1 hj
   exact (kp t (.inr ht) k hkt).2 hk
  ·subst e
   obtain ⟨t,ht,hkt⟩:=List.mem_flatMap.1 hk
   rcases List.mem_append.1 hj with hj|hj
   ·exact (kp t (.inl ht) k hkt).2 hj
   ·exact n5 k hk k (List.mem_append.2 (.inr hj)) rfl
 ·rw [List.flatMap_append,List.flatMap_cons,List.mem_append,List.mem_append]
  by_cases c1:k∈U
  ·exact .inr (.inl c1)
  ·by_cases c2:k∈q.U
   ·exact absurd (st.gone k c2 c1) hk
   ·rw [st.out k c2 c1] at hk
    have:=h.own k hk
    unfold To.xA at this
    rw [he,List.flatMap_append,List.flatMap_cons,List.mem_append,List.mem_append] at this
    rcases this with h|h|h
    ·exact .inl h
    ·exact absurd h c2
    ·exact .inr (.inr h)
theorem XD (l:List Pr) (key val:Bs):(xD l key val).length=if zJ l key then l.length else l.length+1:=by
 have h:=yo l key
 rw [Wz]
 simp only [List.length_append,List.length_take,List.length_drop,List.length_cons,List.length_nil]
 cases ht:zJ l key with
 | true=>have:=jt ht; simp only [if_true]; omega
 | false=>simp only [Bool.false_eq_true,if_false]; omega
theorem TR.work (h:TR x T m) {o':Wo} {ns':List St} {m':Mem} (hw:WI o' ns' m') (nx:Nx x.o o' m m') (gr:Gr x.ns ns') (hs:o'.s=x.o.s):TR { x with o:=o',ns:=ns' } T m'∧Tn x { x with o:=o',ns:=ns' } m m':=by
 obtain ⟨ne1,⟨ne2,ne3,ne4⟩,ne5,ne6,ne7⟩:=h.ne
 have hfp:∀ b,b<m.next→b∉x.o.zr→b∉o'.zr:=fun b h1 h2 h3=>(nx.grow b h3).elim h2 fun h=>by omega
 have hlt:=h.lt
 have hx:=nx.upd.next
 refine ⟨⟨?_,(nx.upd.same _ h.lt.2 ne5).trans h.tg,hw,h.nb.upd nx.upd fun b hb=>(h.nn b hb).1,h.mo,h.va,h.bo,fun t ht=>by show TrR o'.s _ _ _; rw [hs]; exact h.tr t ht,h.nd,fun k hk=>h.own k (by rw [← hs]; exact hk),⟨by show x.t<m'.next; omega,by show x.tm<m'.next; omega⟩,⟨ne1,⟨hfp _ h.lt.1 ne2,by show _≠o'.c; rw [nx.c]; exact ne3,by show _≠o'.p; rw [nx.p]; exact ne4⟩,hfp _ h.lt.2 ne5,by show _≠o'.c; rw [nx.c]; exact ne6,by show _≠o'.p; rw [nx.p]; exact ne7⟩,fun b hb=>?_⟩,
  ⟨rfl,rfl,rfl,rfl,rfl,nx.w,nx.c,nx.p,nx.P,nx.upd.mono fun b hb _=>by simp [To.fp,hb],nx.grow,gr⟩⟩
 ·have:txB { x with o:=o',ns:=ns' } = txB x:=by show (⟨.cells [_,.pointer (some ⟨o'.w,0,none⟩),_,_,_] _,_,_⟩:ABlk)=_; rw [nx.w]
  rw [this]
  exact (nx.upd.same _ h.lt.1 ne2).trans h.tx
 ·obtain ⟨k1,k2,k3,k4,k5⟩:=h.nn b hb
  exact ⟨hfp b (h.nb.lt b hb) k1,by show _≠o'.c; rw [nx.c]; exact k2,by show _≠o'.p; rw [nx.p]; exact k3,k4,k5⟩
theorem TR.entry (h:TR x T m) {a b:List Tab1} {q:Tab1} (he:x.ts=a++q::b) {o':Wo} {ns':List St} {m':Mem} (hw:WI o' ns' m') (nx:Nx x.o o' m m') (gr:Gr x.ns ns') {r:Nat} {l:List Pr} {U:List Nat} (st:Stp x.o.s o'.s q.U U) (tr:TrR o'.s r l U) (nd:U.Nodup) :
  zn .str (.map (some x.tm)) (str q.nm) (tbV r l.length) m'=some (m'.put x.tm ⟨.map (esT (a++⟨q.nm,r,l,U,q.born⟩::b)) x.K,false,none⟩) ∧
  TR { x with o:=o',ns:=ns',ts:=a++⟨q.nm,r,l,U,q.born⟩::b } (QC T q.nm l) (m'.put x.tm ⟨.map (esT (a++⟨q.nm,r,l,U,q.born⟩::b)) x.K,false,none⟩)∧Tn x { x with o:=o',ns:=ns',ts:=a++⟨q.nm,r,l,U,q.born⟩::b } m (m'.put x.tm ⟨.map (esT (a++⟨q.nm,r,l,U,q.born⟩::b)) x.K,false,none⟩):=by
 obtain ⟨ne1,⟨ne2,ne3,ne4⟩,ne5,ne6,ne7⟩:=h.ne
 have hfp:∀ b,b<m.next→b∉x.o.zr→b∉o'.zr:=fun b h1 h2 h3=>(nx.grow b h3).elim h2 fun h=>by omega
 have hlt:=h.lt
 have hx:=nx.upd.next
 have hs:=kt (by rw [← he]; exact h.mo.nodup)
 have tg:m'.get x.tm=some ⟨.map (esT (a++q::b)) x.K,false,none⟩:=by rw [← he]; exact (nx.upd.same _ h.lt.2 ne5).trans h.tg
 have hmo:Mo (a++q::b) T:=by rw [← he]; exact h.mo
 have hbo:=h.bo
 rw [he] at hbo
 obtain ⟨t1,t2,t3⟩:=h.tree he st tr nd
 have hrow:rowP l:=tr.row
 have hfew:=tr.qju hw.wr.hP nd
 have u3:Upd [x.tm] m' (m'.put x.tm ⟨.map (esT (a++⟨q.nm,r,l,U,q.born⟩::b)) x.K,false,none⟩):=Upd.put _ _ (by simp)
 have nnb:∀ c∈qf x.nb,c∉o'.zr∧c≠o'.c∧c≠o'.p∧c≠x.t∧c≠x.tm:=fun c hc=>by
  obtain ⟨k1,k2,k3,k4,k5⟩:=h.nn c hc
  exact ⟨hfp c (h.nb.lt c hc) k1,by rw [nx.c]; exact k2,by rw [nx.p]; exact k3,k4,k5⟩
 refine ⟨qew tg hs.1 r l U,⟨?_,Mem.qi ..,hw.upd u3 fun c hc=>?_,(h.nb.upd nx.upd fun c hc=>(h.nn c hc).1).upd u3 fun c hc hm=>?_,hmo.set l r U q.born,h.va.set hrow (by omega),qdS hbo r l U,t1,t2,t3,⟨by show x.t<m'.next; omega,by show x.tm<m'.next; omega⟩,⟨ne1,⟨hfp _ h.lt.1 ne2,by show _≠o'.c; rw [nx.c]; exact ne3,by show _≠o'.p; rw [nx.p]; exact ne4⟩,hfp _ h.lt.2 ne5,by show _≠o'.c; rw [nx.c]; exact ne6,by show _≠o'.p; rw [nx.p]; exact ne7⟩,nnb⟩,
  ⟨rfl,rfl,rfl,rfl,rfl,nx.w,nx.c,nx.p,nx.P,(nx.upd.mono fun c hc _=>by simp [To.fp,hc]).trans (u3.mono fun c hc _=>by simp at hc; simp [To.fp,hc]),nx.grow,gr⟩⟩
 ·have:txB { x with o:=o',ns:=ns',ts:=a++⟨q.nm,r,l,U,q.born⟩::b } = txB x:=by show (⟨.cells [_,.pointer (some ⟨o'.w,0,none⟩),_,_,_] _,_,_⟩:ABlk)=_; rw [nx.w]
  rw [this]
  exact (Mem.qu m' _ ne1).trans ((nx.upd.same _ h.lt.1 ne2).trans h.tx)
 ·simp at hc; subst hc
  exact ⟨hfp _ h.lt.2 ne5,by rw [nx.c]; exact ne6,by rw [nx.p]; exact ne7⟩
 ·simp at hm; exact (h.nn c hc).2.2.2.2 hm
end
end Go.Fx.Tryz
namespace Go.Fx.Tryz
open Go Go.Fx
theorem Tn.Vk {x x':To} {m0 m m':Mem} (u:Upd [] m0 m) (h:Tn x x' m m'):Tn x x' m0 m' :=
 ⟨h.t,h.b,h.tm,h.nb,h.nts,h.w,h.c,h.p,h.P,u.nil'.trans h.upd,fun b hb=>(h.grow b hb).imp id fun h2=>Nat.le_trans u.next h2,h.gr⟩
section
variable {x:To} {T:List Tb} {m:Mem} {nm:Bs}
theorem HX (h:TR x T m) {a b:List Tab1} {q:Tab1} (he:x.ts=a++q::b) {v rt n:Nat} {o':Wo} {ns':List St} {M:Mem} (hv:m.next≤v) (g:M.get v=some (tbB rt n)) (hvf:v∉o'.zr∧v≠o'.c∧v≠o'.p) (hvn:v<M.next) (hw:WI o' ns' M) (nx:Nx x.o o' m M) (gr:Gr x.ns ns') {r:Nat} {l:List Pr} {U:List Nat} (hl:l.length=n) (st:Stp x.o.s o'.s q.U U) (tr:TrR o'.s r l U) (nd:U.Nodup) :
  W (qaM x.v (str q.nm) (.pointer (some ⟨v,0,none⟩)) (.int .i64 (r:Int)) M) fun rr m'=>rr=.int .i64 0∧∃ x',TR x' (QC T q.nm l) m'∧Tn x x' m m'∧x'.ts=a++⟨q.nm,r,l,U,q.born⟩::b:=by
 have e1:qg 1 (.pointer (some ⟨v,0+0,none⟩)) (.int .i64 (r:Int)) M=some (M.put v (tbB r n)):=zy g (by simp) rfl rfl
 have u1:Upd [v] M (M.put v (tbB r n)):=Upd.put _ _ (by simp)
 have g1:(M.put v (tbB r n)).get v=some (tbB r n):=Mem.qi ..
 have n1:(M.put v (tbB r n)).next=M.next:=rfl
 have nx1:Nx x.o o' m (M.put v (tbB r n)):=⟨nx.w,nx.c,nx.p,nx.P,nx.upd.kr _ (.inr hv),nx.grow⟩
 have hw1:WI o' ns' (M.put v (tbB r n)):=hw.upd u1 fun c hc=>by simp at hc; subst hc; exact hvf
 rw [P21_0_eq]
 simp -implicitDefEqProofs only [st0,qb,reduceIte,fa,e1]
 generalize (M.put v (tbB r n))=M1 at u1 g1 n1 nx1 hw1
 obtain ⟨k1,k2,k3⟩:=h.entry he hw1 nx1 gr st tr nd
 have l2:qc (.pointer (some ⟨x.t,0+2,none⟩)) M1=some (.map (some x.tm)):=qs ((nx1.upd.same _ h.lt.1 h.ne.2.1.1).trans h.tx) rfl
 rw [hl] at k1
 simp -implicitDefEqProofs only [st0,qb,reduceIte,nck,fa,l2,qcH g1,k1]
 exact ⟨trivial,_,k2,k3,rfl⟩
theorem HF (h:TR x T m) (hnl:x.ns.length≤90000) {a b:List Tab1} {q:Tab1} (he:x.ts=a++q::b) (key val:Bs):W (Call S tab 21 [x.v,str q.nm,str key,str val] m) fun r m' =>
  (∃ x',TR x' T m'∧Tn x x' m m'∧x'.ts=x.ts∧((¬ Kv key val∧r=.int .i64 1)∨(Kv key val∧Kd x.o q.root (xD q.l key val)∧r=.int .i64 8))) ∨
  (Kv key val∧r=.int .i64 0∧∃ x' rt U,TR x' (QC T q.nm (xD q.l key val)) m'∧Tn x x' m m'∧x'.ts=a++⟨q.nm,rt,xD q.l key val,U,q.born⟩::b):=by
 have d0:decide ((0:Int)=0)=true:=rfl
 have d1:decide ((1:Int)=0)=false:=rfl
 have d8:decide ((8:Int)=0)=false:=rfl
 have hq:q∈x.ts:=by rw [he]; simp
 have hs:=kt (by rw [← he]; exact h.mo.nodup)
 rw [C21]
 refine qo.2 ((qeA h he key).mono fun r1 m1 ⟨e,u1⟩=>?_)
 subst e
 have h1:=h.qx u1
 have x1:=u1.next
 have tg:=h1.tg
 rw [he] at tg
 simp -implicitDefEqProofs only [st0,qb,reduceIte,(ex3 _ _ _).1,(ex3 _ _ _).2.1,(ex3 _ _ _).2.2,d0,nck,fa,h1.ld2,qbC tg hs.1]
 refine ZZ fun m2 u2 n2 g2=>?_
 have h2:=h1.qx u2
 simp -implicitDefEqProofs only [st0,qb,reduceIte,nck,fa,h2.ld1,qha g2]
 refine qo.2 ((qez h2.wi hnl (h2.tr q hq) (h2.ndq hq) key val).mono fun r3 m3 hq3=>?_)
 obtain ⟨o',ns',b1,b2,b3,b4⟩:=hq3
 have u02:=u1.qz u2
 have x3:=b2.upd.next
 have hfew:=(h1.tr q hq).qju h1.wi.wr.hP (h1.ndq hq)
 have hv:m1.next∉o'.zr∧m1.next≠o'.c∧m1.next≠o'.p:=by
  have wl:=h1.wi.lt
  have wc:=h1.wi.wr.lc
  have wp:=h1.wi.wr.lp
  refine ⟨fun hm=>(b2.grow _ hm).elim (fun h=>by have:=wl _ h; omega) fun h=>by omega,by rw [b2.c]; omega,by rw [b2.p]; omega⟩
 have g3:m3.get m1.next=some (tbB q.root q.l.length):=(b2.upd.same _ (by omega) (fun hm=>by have:=h1.wi.lt _ hm; omega)).trans g2
 have nx:Nx x.o o' m1 m3:=⟨b2.w,b2.c,b2.p,b2.P,u2.nil'.trans b2.upd,fun c hc=>(b2.grow c hc).imp id fun h=>by omega⟩
 rcases b4 with ⟨c1,rfl,rfl⟩|⟨c1,c2,rfl,c3⟩|⟨c1,root',U',rfl,c2,c3,c4⟩
 ·simp -implicitDefEqProofs only [st0,qb,reduceIte,xt0,xt1,d1]
  obtain ⟨k1,k2⟩:=h1.work b1 nx b3 rfl
  exact .inl ⟨_,k1,k2.Vk u1,rfl,.inl ⟨c1,trivial⟩⟩
 ·simp -implicitDefEqProofs only [st0,qb,reduceIte,xt0,xt1,d8]
  obtain ⟨k1,k2⟩:=h1.work b1 nx b3 c3
  exact .inl ⟨_,k1,k2.Vk u1,rfl,.inr ⟨c1,c2,trivial⟩⟩
 ·have hpl:=XD q.l key val
  cases ht:zJ q.l key with
  | true =>
   rw [ht,if_pos rfl] at hpl
   simp -implicitDefEqProofs only [st0,qb,reduceIte,xt0,xt1,d0]
   refine (HX h1 he (Nat.le_refl _) g3 hv (by omega) b1 nx b3 hpl c3 c2 c4).mono fun r m' ⟨z1,x',z2,z3,z4⟩=>?_
   exact .inr ⟨c1,z1,x',_,_,z2,z3.Vk u1,z4⟩
  | false =>
   rw [ht,if_neg (by simp)] at hpl
   have e5:arith .add (.int .i64 (q.l.length:Int)) (.int .i64 1)=some (.int .i64 ((q.l.length+1:Nat):Int)):=qH (by omega)
   have e6:qg 1 (.pointer (some ⟨m1.next,0+1,none⟩)) (.int .i64 ((q.l.length+1:Nat):Int)) m3=some (m3.put m1.next (tbB q.root (q.l.length+1))):=zy g3 (by simp) rfl rfl
   simp -implicitDefEqProofs only [st0,qb,reduceIte,xt0,xt1,d0,fa,qia g3,e5,e6]
   have u4:Upd [m1.next] m3 (m3.put m1.next (tbB q.root (q.l.length+1))):=Upd.put _ _ (by simp)
   refine (HX h1 he (M:=m3.put m1.next (tbB q.root (q.l.length+1))) (Nat.le_refl _) (Mem.qi ..) hv (by show m1.next<m3.next; omega) (b1.upd u4 fun c hc=>by simp at hc; subst hc; exact hv) ⟨nx.w,nx.c,nx.p,nx.P,nx.upd.kr _ (.inr (Nat.le_refl _)),nx.grow⟩ b3 hpl c3 c2 c4).mono fun r m' ⟨z1,x',z2,z3,z4⟩=>?_
   exact .inr ⟨c1,z1,x',_,_,z2,z3.Vk u1,z4⟩
end
end Go.Fx.Tryz
namespace Go.Fx.Tryz
open Go Go.Fx
theorem Yc {m:Mem} {tm K:Nat} {ts:List Tab1} (h:m.get tm=some ⟨.map (esT ts) K,false,none⟩):Call S tab 60 [.map (some tm)] m=some (.map (some m.next),m.add ⟨.map (esT ts) K,false,none⟩):=by
 refine W_eq ?_
 have e2:qP .map false (.map (some tm)) (.map none)=some (.bool false):=rfl
 have e3:jd (.iface 91 (.map (some tm))) m=some (.iface 91 (.map (some m.next)),m.add ⟨.map (esT ts) K,false,none⟩):=by
  have:m.zY tm=some (esT ts,K):=by simp [Mem.zY,h]
  simp [jd,this]
 have e4:jO 91 false (.map none) (.iface 91 (.map (some m.next)))=some (.map (some m.next)):=rfl
 rw [C60]
 simp -implicitDefEqProofs only [st0,qb,reduceIte,e2,e3,e4]
 exact ⟨trivial,trivial⟩
structure Sn (x0:To) (s:St) (tc:Nat) (m:Mem):Prop where
 gs:∃ k,m.get s.pm=some ⟨.map (esL x0.o.L) k,false,none⟩
 gt:m.get tc=some ⟨.map (esT x0.ts) x0.K,false,none⟩
 lt:s.pm<m.next∧tc<m.next
 su:s.u=x0.o.u
 sh:s.hd=x0.o.hd
def qfz (s:St) (tc:Nat) (x:To):Prop:=(s.pm∉x.fp∧s.pm≠x.o.c∧s.pm≠x.o.p∧s.pm∉qf x.nb)∧(tc∉x.fp∧tc≠x.o.c∧tc≠x.o.p∧tc∉qf x.nb)
theorem Sn.qx {x0:To} {s:St} {tc:Nat} {m m':Mem} (h:Sn x0 s tc m) (u:Upd [] m m'):Sn x0 s tc m':=by
 obtain ⟨k,hk⟩:=h.gs
 have hl:=h.lt
 have hx:=u.next
 exact ⟨⟨k,qA u hl.1 hk⟩,qA u hl.2 h.gt,⟨by omega,by omega⟩,h.su,h.sh⟩
theorem qjq (k tc:Nat):qy [.int .i64 0,.map none] [(0,1,.int .i64 (k:Int)),(1,1,.map (some tc))]=some [.int .i64 (k:Int),.map (some tc)]:=rfl
theorem qhx (k tc:Nat):qy [.int .i64 0,.map none] [(0,2,.agg [.int .i64 (k:Int),.map (some tc)].toArray)]=some (qaw.flat [(k,tc)]):=rfl
section
variable {x:To} {T:List Tb} {m:Mem}
theorem qcD (h:TR x T m) (hnl:x.ns.length≤90000) (hnn:x.nts.length≤1000):W (Call S tab 27 [x.v] m) fun r m'=>r=.int .i64 (x.nts.length:Int)∧∃ x' s tc,TR x' T m'∧Sn x s tc m'∧qfz s tc x' ∧
  x'.t=x.t∧x'.ns=x.ns++[s]∧x'.nts=x.nts++[(x.ns.length,tc)]∧x'.ts=x.ts∧x'.o.P=x.o.P∧x'.o.s=x.o.s∧x'.o.w=x.o.w∧x'.o.c=x.o.c∧x'.o.p=x.o.p∧(∀ b∈x'.fp,b∈x.fp∨m.next≤b)∧(∀ b∈qf x'.nb,b∈qf x.nb∨m.next≤b)∧Upd (x.fp++qf x.nb) m m':=by
 have d0:decide ((0:Int)=0)=true:=rfl
 obtain ⟨ne1,⟨ne2,ne3,ne4⟩,ne5,ne6,ne7⟩:=h.ne
 have hlt:=h.lt
 rw [C27]
 simp -implicitDefEqProofs only [st0,qb,reduceIte,vE h,d0,nck,fa,h.ld3,h.ld1]
 refine qo.2 ((HL h.wi.wr h.wi.nt (by omega) h.wi.dj).mono fun r1 m1 hq=>?_)
 obtain ⟨rfl,pm',nt',k,r1,t1,k1,k2,g1,l1,l2,u1⟩:=hq
 have x1:=u1.next
 have wl:=h.wi.lt
 have hu1:Upd x.o.zr m m1:=u1.mono fun b hb _=>by
  simp only [Wo.zr,List.mem_cons] at hb ⊢
  rcases hb with h|h<;>simp [h]
 have tx1:m1.get x.t=some (txB x):=(hu1.same _ hlt.1 ne2).trans h.tx
 have tg1:m1.get x.tm=some ⟨.map (esT x.ts) x.K,false,none⟩:=(hu1.same _ hlt.2 ne5).trans h.tg
 have nb1:=h.nb.upd hu1 fun b hb=>(h.nn b hb).1
 have ld:∀ {M:Mem},M.get x.t=some (txB x)→qc (.pointer (some ⟨x.t,0+2,none⟩)) M=some (.map (some x.tm))∧qc (.pointer (some ⟨x.t,0+3,none⟩)) M=some x.nb∧qc (.pointer (some ⟨x.t,0+1,none⟩)) M=some (.pointer (some ⟨x.o.w,0,none⟩)):=fun g=>⟨qs g rfl,qs g rfl,qs g rfl⟩
 simp -implicitDefEqProofs only [st0,qb,reduceIte,nck,fa,(ld tx1).1,Yc tg1,qjq,qhx]
 have u2:Upd [] m1 (m1.add ⟨.map (esT x.ts) x.K,false,none⟩):=Upd.add _ _ _
 have g2:(m1.add ⟨.map (esT x.ts) x.K,false,none⟩).get m1.next=some ⟨.map (esT x.ts) x.K,false,none⟩:=Mem.qh ..
 have n2:(m1.add ⟨.map (esT x.ts) x.K,false,none⟩).next=m1.next+1:=rfl
 generalize (m1.add ⟨.map (esT x.ts) x.K,false,none⟩)=m2 at u2 g2 n2
 have tx2:=qA u2 (by omega) tx1
 have nb2:=nb1.qx u2
 have hnblt:=h.nb.lt
 refine zX (E:=qaw) [(x.ns.length,m1.next)] (by decide) nb2 (by simp only [List.length_cons,List.length_nil]; omega) fun v3 m3 q1 q2 q3=>?_
 have x3:=q2.next
 have tnb:x.t∉qf x.nb:=fun hm=>(h.nn _ hm).2.2.2.1 rfl
 have tx3:m3.get x.t=some (txB x):=(q2.same _ (by omega) tnb).trans tx2
 have e4:qg 1 (.pointer (some ⟨x.t,0+3,none⟩)) v3 m3=some (m3.put x.t (txB { x with nb:=v3 })):=zy tx3 (by simp) q1.one.1 q1.one.2
 have g4:(m3.put x.t (txB { x with nb:=v3 })).get x.t=some (txB { x with nb:=v3 }):=Mem.qi ..
 have u4:Upd [x.t] m3 (m3.put x.t (txB { x with nb:=v3 })):=Upd.put _ _ (by simp)
 have n4:(m3.put x.t (txB { x with nb:=v3 })).next=m3.next:=rfl
 simp -implicitDefEqProofs only [st0,qb,reduceIte,nck,fa,e4]
 generalize hm4:(m3.put x.t (txB { x with nb:=v3 }))=m4 at g4 u4 n4
 have v3t:x.t∉qf v3:=fun hm=>(q3 _ hm).elim tnb fun h=>by omega
 have q14:=q1.upd u4 fun b hb hm=>by simp at hm; subst hm; exact v3t hb
 have l4:qc (.pointer (some ⟨x.t,0+3,none⟩)) m4=some v3:=qs g4 rfl
 have e5:arith .sub (.int .i64 (((x.nts++[(x.ns.length,m1.next)]).length:Nat):Int)) (.int .i64 1)=some (.int .i64 (x.nts.length:Int)):=by
  rw [jf (by simp only [List.length_append,List.length_cons,List.length_nil]; omega) (by simp only [List.length_append,List.length_cons,List.length_nil]; omega)]; simp
 simp -implicitDefEqProofs only [st0,qb,reduceIte,nck,fa,l4,q14.tsl.len,e5]
 have out:∀ b,b<m2.next→b∉qf x.nb→b≠x.t→m4.get b=m2.get b:=fun b h1 h2 h3=>(u4.same b (by omega) (by simp [h3])).trans (q2.same b h1 h2)
 have nnb:∀ b∈qf x.nb,b∉x.o.zr∧b≠x.o.c∧b≠x.o.p∧b≠x.t∧b≠x.tm:=h.nn
 have bnt:∀ b∈qf nt',b∈x.o.zr∨m.next≤b:=fun b hb=>(k1 b hb).imp (fun h=>by simp [Wo.zr,h]) id
 have nfoot:∀ b,b<m.next→b∉x.o.zr→b∉Wo.zr { x.o with nt:=nt' }:=fun b h1 h2 h3=>by
  simp only [Wo.zr,List.mem_cons,not_or] at h2 h3
  rcases h3 with h3|h3|h3
  ·exact h2.1 h3
  ·exact h2.2.1 h3
  ·rcases k1 b h3 with h|h
   ·exact h2.2.2 h
   ·omega
 have cl:=h.wi.wr.lc
 have pl:=h.wi.wr.lp
 have lm:=h.wi.wr.lm
 have lw:=h.wi.wr.lw
 have fw:x.o.w∈x.o.zr:=by simp [Wo.zr]
 have fpm:x.o.pm∈x.o.zr:=by simp [Wo.zr]
 have hwi2:WI { x.o with nt:=nt' } (x.ns++[{ x.o.st h.wi.wr.hu with pm:=pm' }]) m2:=by
  refine WI.qx ⟨r1,t1,fun b hb=>?_,h.wi.fu⟩ u2
  rcases k1 b hb with e|e
  ·exact h.wi.dj b e
  ·exact ⟨by show b≠x.o.w; omega,by show b≠x.o.pm; omega,by show b≠x.o.c; omega,by show b≠x.o.p; omega⟩
 have nnb2:∀ b∈qf x.nb,b∉Wo.zr { x.o with nt:=nt' }∧b≠x.o.c∧b≠x.o.p:=fun b hb=>⟨nfoot b (hnblt b hb) (nnb b hb).1,(nnb b hb).2.1,(nnb b hb).2.2.1⟩
 have hwi4:WI { x.o with nt:=nt' } (x.ns++[{ x.o.st h.wi.wr.hu with pm:=pm' }]) m4:=(hwi2.upd q2 fun b hb=>nnb2 b hb).upd u4 fun b hb=>by simp at hb; subst hb; exact ⟨nfoot _ hlt.1 ne2,ne3,ne4⟩
 have l2':pm'<m1.next:=l2
 have apm:pm'∉qf x.nb:=fun hm=>by have:=hnblt _ hm; omega
 have atc:m1.next∉qf x.nb:=fun hm=>by have:=hnblt _ hm; omega
 have v3b:∀ b∈qf v3,b∈qf x.nb∨m2.next≤b:=q3
 refine kJ (fun r hr=>?_) (zs.2 ⟨rfl,{ x with nb:=v3,nts:=x.nts++[(x.ns.length,m1.next)],o:={ x.o with nt:=nt' },ns:=x.ns++[{ x.o.st h.wi.wr.hu with pm:=pm' }] },{ x.o.st h.wi.wr.hu with pm:=pm' },m1.next,
  ⟨g4,?_,hwi4,q14,h.mo,h.va,h.bo,h.tr,h.nd,h.own,⟨by show x.t<m4.next; omega,by show x.tm<m4.next; omega⟩,⟨ne1,⟨nfoot _ hlt.1 ne2,ne3,ne4⟩,nfoot _ hlt.2 ne5,ne6,ne7⟩,fun b hb=>?_⟩,
  ⟨⟨k,?_⟩,?_,⟨by show pm'<m4.next; omega,by show m1.next<m4.next; omega⟩,rfl,rfl⟩,⟨⟨?_,by show pm'≠x.o.c; omega,by show pm'≠x.o.p; omega,?_⟩,?_,by show m1.next≠x.o.c; omega,by show m1.next≠x.o.p; omega,?_⟩,rfl,rfl,rfl,rfl,rfl,rfl,rfl,rfl,rfl,fun b hb=>?_,fun b hb=>(q3 b hb).imp id fun h=>by omega,?_⟩)
 ·simp only [List.mem_cons,List.not_mem_nil,or_false] at hr
  rcases hr with rfl|rfl|rfl
  ·exact okR fun k _ hk=>by
    have:k=0∨k=1∨k=2∨k=3:=by omega
    rcases this with rfl|rfl|rfl|rfl
    ·exact ⟨_,rfl,h.ld3⟩
    ·exact ⟨_,rfl,(ld tx1).2.1⟩
    ·exact ⟨_,rfl,(ld tx2).2.1⟩
    ·exact ⟨_,rfl,(ld (by rw [Mem.zC _ _ (by omega)]; exact tx2)).2.1⟩
  ·exact okR fun k _ hk=>by
    obtain rfl:k=0:=by omega
    exact ⟨_,rfl,h.ld1⟩
  ·exact okR fun k _ hk=>by
    have:k=0∨k=1:=by omega
    rcases this with rfl|rfl
    ·exact ⟨_,rfl,h.ld2⟩
    ·exact ⟨_,rfl,(ld tx1).1⟩
 ·exact (out x.tm (by omega) (fun hm=>(nnb _ hm).2.2.2.2 rfl) (fun e=>ne1 e.symm)).trans (qA u2 (by omega) tg1)
 ·rcases q3 b hb with h'|h'
  ·exact ⟨(nnb2 b h').1,(nnb2 b h').2.1,(nnb2 b h').2.2,(nnb b h').2.2.2.1,(nnb b h').2.2.2.2⟩
  ·refine ⟨fun hm=>?_,by show b≠x.o.c; omega,by show b≠x.o.p; omega,by show b≠x.t; omega,by show b≠x.tm; omega⟩
   have:=hwi2.lt b hm
   omega
 ·exact (out pm' (by omega) apm (by omega)).trans (qA u2 l2' g1)
 ·exact (out m1.next (by omega) atc (by omega)).trans g2
 ·show pm'∉To.fp _
  simp only [To.fp,Wo.zr,List.mem_cons,not_or]
  exact ⟨by show ¬ pm'=x.t; omega,by show ¬ pm'=x.tm; omega,by show ¬ pm'=x.o.w; omega,by show ¬ pm'=x.o.pm; omega,k2⟩
 ·exact fun hm=>(q3 pm' hm).elim apm fun h=>by omega
 ·show m1.next∉To.fp _
  simp only [To.fp,Wo.zr,List.mem_cons,not_or]
  exact ⟨by show ¬ m1.next=x.t; omega,by show ¬ m1.next=x.tm; omega,by show ¬ m1.next=x.o.w; omega,by show ¬ m1.next=x.o.pm; omega,fun hm=>by have:=t1.lt _ hm; omega⟩
 ·exact fun hm=>(q3 m1.next hm).elim atc fun h=>by omega
 ·simp only [To.fp,List.mem_cons] at hb
  rcases hb with h'|h'|h'
  ·left; simp [To.fp,h']
  ·left; simp [To.fp,h']
  ·simp only [Wo.zr,List.mem_cons] at h'
   rcases h' with h'|h'|h'
   ·left; simp [To.fp,Wo.zr,h']
   ·left; simp [To.fp,Wo.zr,h']
   ·rcases k1 b h' with h'|h'
    ·left; simp [To.fp,Wo.zr,h']
    ·right; omega
 ·refine (((hu1.mono fun b hb _=>by simp [To.fp,hb]).qz u2).trans (q2.mono fun b hb _=>by simp [hb])).trans (u4.mono fun b hb _=>by simp at hb; simp [To.fp,hb])
end
end Go.Fx.Tryz
namespace Go.Fx.Tryz
open Go Go.Fx
theorem qhe {o o0:Wo} (hP:o.P=o0.P) (s:St) (hu:s.u=o0.u) (pm:Nat) (nt:Value):Wo.s { o with u:=s.u,hd:=s.hd,pm:=pm,L:=o0.L,nt:=nt } = o0.s:=by
 funext k
 unfold Wo.s Wo.has
 simp only [hP,hu]
theorem qcG {x0 x:To} {T0 T:List Tb} {m0 m:Mem} (h0:TR x0 T0 m0) (h:TR x T m) {s:St} {tc:Nat} (sn:Sn x0 s tc m) (aw:qfz s tc x) {a rest:List St} (hns:x.ns=a++s::rest) (hal:a.length≤100000) {pre rest2:List (Nat × Nat)} (hnts:x.nts=pre++(a.length,tc)::rest2) (hpl:pre.length≤1000) (hP:x.o.P=x0.o.P) :
  W (Call S tab 30 [x.v,.int .i64 (pre.length:Int)] m) fun r m'=>r=.int .i64 0∧∃ x',TR x' T0 m'∧x'.t=x.t∧x'.ts=x0.ts∧x'.o.P=x0.o.P∧Upd x.fp m m'∧x'.ns.length≤x.ns.length∧x'.nts.length≤x.nts.length∧(∀ b∈x'.fp,b∈x.fp∨m.next≤b)∧(∀ b∈qf x'.nb,b∈qf x.nb)∧x'.o.c=x.o.c∧x'.o.p=x.o.p:=by
 have d0:decide ((0:Int)=0)=true:=rfl
 obtain ⟨ne1,⟨ne2,ne3,ne4⟩,ne5,ne6,ne7⟩:=h.ne
 have hlt:=h.lt
 have hll:pre.length<x.nts.length:=by rw [hnts]; simp
 have c1:((pre.length:Int)<0)=False:=eq_false (by omega)
 have c2:((x.nts.length:Int)≤(pre.length:Int))=False:=eq_false (by omega)
 obtain ⟨nb',sl,tnb,hsub,_⟩:=TAp.VM (l:=pre++[(a.length,tc)]) (k:=rest2) (by rw [List.append_assoc]; have:=h.nb; rw [hnts] at this; exact this)
 have sl:∀ M,qD 2 x.nb none (some (.int .i64 ((pre.length+1:Nat):Int))) M=some nb':=by
  have e:(pre++[(a.length,tc)]).length=pre.length+1:=by simp
  rw [e] at sl; exact sl
 obtain ⟨b,off,i1,i2⟩:=h.nb.tsl.at .i64 (i:=pre.length) (a:=(a.length,tc)) (by rw [hnts]; simp)
 have i1:qq 2 x.nb (.int .i64 (pre.length:Int))=some (.pointer (some ⟨b,off,none⟩)):=i1
 have i3:∀ M,TAp qaw 132 M x.nb x.nts→qc (.pointer (some ⟨b,off+0,none⟩)) M=some (.int .i64 (a.length:Int))∧qc (.pointer (some ⟨b,off+1,none⟩)) M=some (.map (some tc)):=fun M hM=>⟨(i2 M hM.tsl).2 0 _ rfl,(i2 M hM.tsl).2 1 _ rfl⟩
 obtain ⟨k,hk⟩:=sn.gs
 have hnt:=h.wi.nt
 rw [hns] at hnt
 rw [C30]
 simp -implicitDefEqProofs only [st0,qb,reduceIte,vE h,d0,c1,nck,fa,h.ld3,h.ld1,h.nb.tsl.len,c2,i1,(i3 m h.nb).1]
 refine qo.2 ((qaE h.wi.wr hnt hal (fun b hb=>(h.wi.dj b hb).1) hk sn.lt.1).mono fun r1 m1 hq=>?_)
 obtain ⟨rfl,pm',nt',_,r1,t1,hsb,l1,l2,u1⟩:=hq
 have x1:=u1.next
 have fw:x.o.w∈x.o.zr:=by simp [Wo.zr]
 have tx1:m1.get x.t=some (txB x):=(u1.same _ hlt.1 (by simp; exact fun e=>ne2 (e ▸ fw))).trans h.tx
 have nb1:=h.nb.upd u1 fun b hb hm=>by simp at hm; exact (h.nn b hb).1 (hm ▸ fw)
 have wtc:tc≠x.o.w:=fun e=>aw.2.1 (by rw [e]; simp [To.fp,Wo.zr])
 have gt1:m1.get tc=some ⟨.map (esT x0.ts) x0.K,false,none⟩:=(u1.same _ sn.lt.2 (by simp; exact wtc)).trans sn.gt
 have ld:∀ {M:Mem},M.get x.t=some (txB x)→qc (.pointer (some ⟨x.t,0+3,none⟩)) M=some x.nb:=fun g=>qs g rfl
 simp -implicitDefEqProofs only [st0,qb,reduceIte,d0,nck,fa,ld tx1,i1,(i3 m1 nb1).2,Yc gt1]
 have u2:Upd [] m1 (m1.add ⟨.map (esT x0.ts) x0.K,false,none⟩):=Upd.add _ _ _
 have g2:(m1.add ⟨.map (esT x0.ts) x0.K,false,none⟩).get m1.next=some ⟨.map (esT x0.ts) x0.K,false,none⟩:=Mem.qh ..
 have n2:(m1.add ⟨.map (esT x0.ts) x0.K,false,none⟩).next=m1.next+1:=rfl
 generalize (m1.add ⟨.map (esT x0.ts) x0.K,false,none⟩)=m2 at u2 g2 n2
 have tx2:=qA u2 (by omega) tx1
 have e3:qg 1 (.pointer (some ⟨x.t,0+2,none⟩)) (.map (some m1.next)) m2=some (m2.put x.t (txB { x with tm:=m1.next })):=zy tx2 (by simp) rfl rfl
 have g3:(m2.put x.t (txB { x with tm:=m1.next })).get x.t=some (txB { x with tm:=m1.next }):=Mem.qi ..
 have u3:Upd [x.t] m2 (m2.put x.t (txB { x with tm:=m1.next })):=Upd.put _ _ (by simp)
 have n3:(m2.put x.t (txB { x with tm:=m1.next })).next=m2.next:=rfl
 simp -implicitDefEqProofs only [st0,qb,reduceIte,nck,fa,ld tx2,qH (i:=pre.length) (by omega),sl,e3]
 generalize (m2.put x.t (txB { x with tm:=m1.next }))=m3 at g3 u3 n3
 have e4:qg 1 (.pointer (some ⟨x.t,0+3,none⟩)) nb' m3=some (m3.put x.t (txB { x with tm:=m1.next,nb:=nb' })):=zy g3 (by simp) tnb.one.1 tnb.one.2
 have u4:Upd [x.t] m3 (m3.put x.t (txB { x with tm:=m1.next,nb:=nb' })):=Upd.put _ _ (by simp)
 simp -implicitDefEqProofs only [st0,qb,reduceIte,nck,fa,e4]
 have u34:Upd [x.t] m2 (m3.put x.t (txB { x with tm:=m1.next,nb:=nb' })):=u3.trans u4
 have n4:(m3.put x.t (txB { x with tm:=m1.next,nb:=nb' })).next=m3.next:=rfl
 have cl:=h.wi.wr.lc
 have pl:=h.wi.wr.lp
 have lw:=h.wi.wr.lw
 have hs:=qhe hP s sn.su pm' nt'
 have kf:∀ c,c<m.next→c∉x.o.zr→c∉Wo.zr { x.o with u:=s.u,hd:=s.hd,pm:=pm',L:=x0.o.L,nt:=nt' }:=fun c h1 h2 h3=>by
  simp only [Wo.zr,List.mem_cons,not_or] at h2 h3
  rcases h3 with h3|h3|h3
  ·exact h2.1 h3
  ·omega
  ·exact h2.2.2 (hsb c h3)
 have hwi1:WI { x.o with u:=s.u,hd:=s.hd,pm:=pm',L:=x0.o.L,nt:=nt' } (a++[s]) m1:=by
  refine ⟨r1,t1,fun c hc=>?_,fun q=>?_⟩
  ·have:=h.wi.dj c (hsb c hc)
   have:=hnt.lt c (hsb c hc)
   exact ⟨this |> fun _=>(h.wi.dj c (hsb c hc)).1,by show c≠pm'; omega,(h.wi.dj c (hsb c hc)).2.2.1,(h.wi.dj c (hsb c hc)).2.2.2⟩
  ·have:=h0.wi.fu q
   rw [hs,← this]
   unfold Wo.has
   simp only [hP,sn.su]
 have kw:x.t∉Wo.zr { x.o with u:=s.u,hd:=s.hd,pm:=pm',L:=x0.o.L,nt:=nt' }:=kf _ hlt.1 ne2
 have nnb:∀ c∈qf nb',c∈qf x.nb:=hsub
 have nnl:=h.nb.lt
 refine kJ (fun r hr=>?_) (zs.2 ⟨rfl,{ x with tm:=m1.next,nb:=nb',nts:=pre++[(a.length,tc)],o:={ x.o with u:=s.u,hd:=s.hd,pm:=pm',L:=x0.o.L,nt:=nt' },ns:=a++[s],ts:=x0.ts,K:=x0.K },
  ⟨Mem.qi ..,?_,(hwi1.qx u2).upd u34 fun c hc=>by simp at hc; subst hc; exact ⟨kw,ne3,ne4⟩,?_,h0.mo,h0.va,h0.bo,fun t ht=>by show TrR (Wo.s _) _ _ _; rw [hs]; exact h0.tr t ht,h0.nd,fun q hq=>h0.own q (by rw [← hs]; exact hq),⟨by show x.t<m3.next; omega,by show m1.next<m3.next; omega⟩,⟨by show x.t≠m1.next; omega,⟨kw,ne3,ne4⟩,fun hm=>by have:=hwi1.lt m1.next hm; omega,by show m1.next≠x.o.c; omega,by show m1.next≠x.o.p; omega⟩,fun c hc=>?_⟩,rfl,rfl,hP,?_,by rw [hns]; simp,by rw [hnts]; simp,fun c hc=>?_,hsub,rfl,rfl⟩)
 ·simp only [List.mem_cons,List.not_mem_nil,or_false] at hr
  have nb2:=nb1.qx u2
  rcases hr with rfl|rfl|rfl|rfl
  ·exact okR fun k _ hk=>by
    obtain rfl:k=0:=by omega
    exact ⟨_,rfl,ld tx1⟩
  ·exact okR fun k _ hk=>by
    obtain rfl:k=0:=by omega
    exact ⟨_,rfl,(i3 m1 nb1).2⟩
  ·exact okR fun k _ hk=>by
    have:k=0∨k=1:=by omega
    rcases this with rfl|rfl
    ·exact ⟨_,rfl,ld tx1⟩
    ·exact ⟨_,rfl,ld tx2⟩
  ·exact okR fun k _ hk=>by
    have:k=0∨k=1∨k=2:=by omega
    rcases this with rfl|rfl|rfl<;>exact ⟨_,rfl,sl _⟩
 ·exact (u34.same m1.next (by omega) (by simp; omega)).trans g2
 ·refine (((tnb.upd u1 fun c hc hm=>?_).qx u2).upd u34 fun c hc hm=>?_)
  ·simp at hm; exact (h.nn c (hsub c hc)).1 (hm ▸ fw)
  ·simp at hm; exact (h.nn c (hsub c hc)).2.2.2.1 hm
 ·obtain ⟨k1,k2,k3,k4,k5⟩:=h.nn c (hsub c hc)
  have:=nnl c (hsub c hc)
  exact ⟨kf c this k1,k2,k3,k4,by show c≠m1.next; omega⟩
 ·exact ((u1.mono fun c hc _=>by simp at hc; simp [To.fp,Wo.zr,hc]).qz u2).trans (u34.mono fun c hc _=>by simp at hc; simp [To.fp,hc])
 ·simp only [To.fp,Wo.zr,List.mem_cons] at hc
  rcases hc with h'|h'|h'|h'|h'
  ·left; simp [To.fp,h']
  ·right; omega
  ·left; simp [To.fp,Wo.zr,h']
  ·right; omega
  ·left; simp [To.fp,Wo.zr,hsb c h']
end Go.Fx.Tryz
namespace Go.Fx.Tryz
open Go Go.Fx
abbrev z64:List Value:=xo.flat (qp 64)
theorem qfN:([.int .u8 0,.int .u8 0,.int .u8 0,.int .u8 0,.int .u8 0,.int .u8 0,.int .u8 0,.int .u8 0,.int .u8 0,.int .u8 0,.int .u8 0,.int .u8 0,.int .u8 0,.int .u8 0,.int .u8 0,.int .u8 0,.int .u8 0,.int .u8 0,.int .u8 0,.int .u8 0,.int .u8 0,.int .u8 0,.int .u8 0,.int .u8 0,.int .u8 0,.int .u8 0,.int .u8 0,.int .u8 0,.int .u8 0,.int .u8 0,.int .u8 0,.int .u8 0,.int .u8 0,.int .u8 0,.int .u8 0,.int .u8 0,.int .u8 0,.int .u8 0,.int .u8 0,.int .u8 0,.int .u8 0,.int .u8 0,.int .u8 0,.int .u8 0,.int .u8 0,.int .u8 0,.int .u8 0,.int .u8 0,.int .u8 0,.int .u8 0,.int .u8 0,.int .u8 0,.int .u8 0,.int .u8 0,.int .u8 0,.int .u8 0,.int .u8 0,.int .u8 0,.int .u8 0,.int .u8 0,.int .u8 0,.int .u8 0,.int .u8 0,.int .u8 0]:List Value)=z64:=by kernel_rfl
def encZ:Enc Unit:=⟨64,fun _=>z64,fun _=>by kernel_rfl,fun _=>by kernel_rfl⟩
theorem qbW:encZ.size=64:=rfl
theorem qbX (n:Nat):encZ.flat (List.replicate n ())=(List.replicate n z64).flatten:=by simp [Enc.flat,encZ]
theorem slA {m:Mem} {b n off:Nat} {c:List Value} {e:TypeId} (hk:m.get b=some ⟨.cells c e,false,none⟩):xI n 1 (.pointer (some ⟨b,off,none⟩)) none none m=some (.slice (some ⟨b,off,none⟩) n n):=by
 have:m.known b=.exact:=by simp [Mem.known,hk]
 simp [xI,jz,zm,xf,this]
structure Dv (d sb um N:Nat) (m:Mem):Prop where
 hd:∃ a b,m.get d=some ⟨.cells [.slice (some ⟨sb,0,none⟩) N N,.map (some um),a,b] 123,false,none⟩
 hs:m.get sb=some ⟨.cells (encZ.flat (List.replicate N ())) 217,false,none⟩
 hu:m.get um=some ⟨.map [] 0,false,none⟩
 lt:d<m.next∧sb<m.next∧um<m.next
theorem Dv.upd {d sb um N:Nat} {m m':Mem} {fp:List Nat} (h:Dv d sb um N m) (hu:Upd fp m m') (hf:∀ b∈fp,b≠d∧b≠sb∧b≠um):Dv d sb um N m':=by
 obtain ⟨a,b,hd⟩:=h.hd
 have hn:=hu.next
 obtain ⟨l1,l2,l3⟩:=h.lt
 exact ⟨⟨a,b,(hu.same d l1 fun hm=>(hf _ hm).1 rfl).trans hd⟩,(hu.same sb l2 fun hm=>(hf _ hm).2.1 rfl).trans h.hs,(hu.same um l3 fun hm=>(hf _ hm).2.2 rfl).trans h.hu,by omega,by omega,by omega⟩
theorem Dv.qx {d sb um N:Nat} {m m':Mem} (h:Dv d sb um N m) (hu:Upd [] m m'):Dv d sb um N m':=h.upd hu fun b hb=>by cases hb
theorem Dv.tap {d sb um N:Nat} {m:Mem} (h:Dv d sb um N m):TAp encZ 217 m (.slice (some ⟨sb,0,none⟩) N N) (List.replicate N ()) :=
 .inr ⟨sb,N,[],none,by simp,h.lt.2.1,by rw [List.append_nil]; exact h.hs,.inl rfl,by simp,by simp⟩
theorem WZ {d sb um N i:Nat} {m:Mem} (h:Dv d sb um N m) (hi:i<N):W (Call S tab 99 [.pointer (some ⟨d,0,none⟩),.int .i64 (i:Int)] m) fun r m'=>r=str (qp 64)∧Upd [] m m':=by
 obtain ⟨a,b,hd⟩:=h.hd
 have e1:((i:Int)<0)=False:=eq_false (by omega)
 have e2:((N:Int)≤(i:Int))=False:=eq_false (by omega)
 have l0:qc (.pointer (some ⟨d,0+0,none⟩)) m=some (.slice (some ⟨sb,0,none⟩) N N):=qs hd rfl
 have l1:qc (.pointer (some ⟨d,0+1,none⟩)) m=some (.map (some um)):=qs hd rfl
 have el:qj (.slice (some ⟨sb,0,none⟩) N N)=some (.int .i64 (N:Int)):=rfl
 have lk:∀ z,zb .int z true (.map (some um)) (.int .i64 (i:Int)) m=some (.tuple #[z,.bool false]):=fun z=>by
  have:m.zY um=some ([],0):=by simp [Mem.zY,h.hu]
  simp only [zb,this,Option.bind_some]; rfl
 rw [C99]
 have u1:Upd [] m (m.add ⟨.cells z64 217,false,none⟩):=Upd.add _ _ _
 have g1:(m.add ⟨.cells z64 217,false,none⟩).get m.next=some ⟨.cells z64 217,false,none⟩:=Mem.qh ..
 have n1:(m.add ⟨.cells z64 217,false,none⟩).next=m.next+1:=rfl
 simp -implicitDefEqProofs only [st0,qb,reduceIte,vd,e1,nck,fa,l0,el,e2,l1,lk,qfN,xt0,xt1]
 generalize (m.add ⟨.cells z64 217,false,none⟩)=m1 at u1 g1 n1
 have hz:z64.length=64:=by kernel_rfl
 have ha:z64.all (·.oneCell')=true:=by kernel_rfl
 have st:∀ M:Mem,M.get m.next=some ⟨.cells z64 217,false,none⟩→qg 64 (.pointer (some ⟨m.next,0,none⟩)) (.agg z64.toArray) M=some (M.put m.next ⟨.cells z64 217,false,none⟩):=fun M g=>by
  have:=xO (v:=.agg z64.toArray) g hz (by simpa [Value.cells] using hz) (by simpa [Value.cells] using ha)
  simpa [Value.cells] using this
 have h2:Dv d sb um N (m1.put m.next ⟨.cells z64 217,false,none⟩):=(h.qx u1).upd (fp:=[m.next]) (Upd.put _ _ (by simp)) fun b hb=>by
  simp at hb; have:=h.lt; omega
 have g2:(m1.put m.next ⟨.cells z64 217,false,none⟩).get m.next=_:=Mem.qi ..
 have u2:Upd [] m (m1.put m.next ⟨.cells z64 217,false,none⟩):=u1.kr _ (.inr (Nat.le_refl _))
 simp -implicitDefEqProofs only [st0,qb,reduceIte,st m1 g1]
 have n2:(m1.put m.next ⟨.cells z64 217,false,none⟩).next=m1.next:=rfl
 generalize (m1.put m.next ⟨.cells z64 217,false,none⟩)=m2 at h2 g2 u2 n2
 obtain ⟨a2,b2,hd2⟩:=h2.hd
 have l02:qc (.pointer (some ⟨d,0+0,none⟩)) m2=some (.slice (some ⟨sb,0,none⟩) N N):=qs hd2 rfl
 obtain ⟨p,w1,w2,_⟩:=h2.tap.tsl.index .i64 (i:=i) (a:=()) (by simp [hi])
 rw [qbW] at w1 w2
 have w2:qm 64 p m2=some (.agg z64.toArray):=w2
 simp -implicitDefEqProofs only [st0,qb,reduceIte,l02,w1,w2,st m2 g2,slA (Mem.qi m2 m.next _)]
 have tb:TSl xo (m2.put m.next ⟨.cells z64 217,false,none⟩) (.slice (some ⟨m.next,0,none⟩) 64 64) (qp 64) :=
  TAp.tsl (e:=217) (.inr ⟨m.next,64,[],none,by rw [xj],by show m.next<m2.next; omega,by rw [List.append_nil]; exact Mem.qi ..,.inl rfl,by rw [xj]; rfl,by rw [xj]; omega⟩)
 simp -implicitDefEqProofs only [st0,qb,reduceIte,Ho tb]
 exact ⟨trivial,u2.kr _ (.inr (Nat.le_refl _))⟩
theorem WA (n j:Nat) (hn:n≤1000) (hj:j≤1000) (m:Mem):Call S tab 55 [.int .i64 (n:Int),.int .i64 (j:Int)] m=some (.int .i64 ((126+4 * n+j:Nat):Int),m):=by
 refine W_eq ?_
 have e1:arith .mul (.int .i64 4) (.int .i64 (n:Int))=some (.int .i64 ((4 * n:Nat):Int)):=by
  have h:IntKind.i64.wrap ((4:Int) * (n:Int))=((4 * n:Nat):Int):=by rw [wrap64 (by omega) (by omega)]; omega
  rw [← h]; rfl
 have e2:arith .add (.int .i64 126) (.int .i64 ((4 * n:Nat):Int))=some (.int .i64 ((126+4 * n:Nat):Int)):=addN (i:=126) (by omega)
 rw [C55]
 simp -implicitDefEqProofs only [st0,qb,reduceIte,e1,e2,addN (i:=126+4 * n) (j:=j) (by omega)]
 exact ⟨trivial,trivial⟩
theorem qjx {lo:Nat} {v:Value} {l:List Bs} (hl:l.length≤1000) (h64:∀ s∈l,s.length=64):∀ (n i:Nat) (m:Mem),l.length - i=n→i≤l.length→RSl lo encS m v l→W (Jc v (.func (.func 181) #[] #[]) (.int .i64 (l.length:Int)) (.int .i64 (i:Int)) m) fun r m'=>r=.int .i64 (-1)∧m'=m:=by
 intro n
 induction n with
 | zero =>
  intro i m hd hi h
  obtain rfl:i=l.length:=by omega
  rw [P220_0_eq]
  simp -implicitDefEqProofs only [st0,qb,reduceIte,Int.lt_irrefl]
  exact ⟨trivial,trivial⟩
 | succ n ih =>
  intro i m hd hi h
  have hlt:i<l.length:=by omega
  have e1:((i:Int)<(l.length:Int))=True:=eq_true (by omega)
  obtain ⟨pk,y1,y2⟩:=qdr h (jE hlt)
  have e2:((l[i].length:Nat):Int)=64:=by rw [h64 _ (List.getElem_mem hlt)]; rfl
  have e3:decide ((64:Int)=64)=true:=rfl
  rw [P220_0_eq]
  have hc:∀ M,Call S tab 181 [str l[i]] M=some (.bool false,M):=fun M=>by
   refine W_eq ?_
   rw [qki]
   simp -implicitDefEqProofs only [st0,qb,reduceIte,zN,e2,e3]
   exact ⟨trivial,trivial⟩
  simp -implicitDefEqProofs only [st0,qb,reduceIte,e1,y1,y2 m h,JY 181 (by rfl),List.nil_append,List.append_nil,hc,qH (i:=i) (by omega)]
  exact ih (i+1) m (by omega) hlt h
set_option maxRecDepth 100000 in
theorem qim:(⟨(Lib.join [(⟨(qp 64).toArray⟩:ByteArray).data.toList,(⟨(qp 64).toArray⟩:ByteArray).data.toList,(⟨(qp 64).toArray⟩:ByteArray).data.toList,(⟨(qp 64).toArray⟩:ByteArray).data.toList] (⟨#[]⟩:ByteArray).data.toList).toArray⟩:ByteArray)=⟨(qp 256).toArray⟩:=by kernel_rfl
theorem qcy {m:Mem} {v:Value} (h:TAp encS 9 m v [qp 64,qp 64,qp 64,qp 64]):W (Call S tab 133 [v] m) fun r m'=>r=.tuple #[str (qp 256),.int .i64 0]∧m'=m:=by
 have hr:RSl 0 encS m v [qp 64,qp 64,qp 64,qp 64]:=h.rsl fun b _=>Nat.zero_le _
 have hl:=zv hr
 have d4:decide ((4:Int)=4)=true:=rfl
 have hl:qj v=some (.int .i64 4):=hl
 have d1:decide ((0:Int)≤-1)=false:=rfl
 rw [qkz]
 simp -implicitDefEqProofs only [st0,qb,reduceIte,hl,d4,qkj,qjW]
 have key:=qjx (l:=[qp 64,qp 64,qp 64,qp 64]) (by simp) (fun s hs=>by
  simp only [List.mem_cons,List.not_mem_nil,or_false,or_self] at hs; subst hs; exact xj 64) 4 0 m rfl (by simp) hr
 have key:Jc v (.func (.func 181) #[] #[]) (.int .i64 4) (.int .i64 0) m=some (.int .i64 (-1),m):=W_eq key
 have hj:Call S tab 182 [v,.string ⟨#[]⟩] m=some (str (qp 256),m):=by
  refine yO ?_
  show Yl [v,.string ⟨#[]⟩] m=_
  rcases h with ⟨_,h0⟩|⟨b,cap,rest,lo,rfl,hb,hg,hlo,hrs,hc⟩
  ·simp at h0
  ·have hca:=zE hg
   have hst:Xb (((encS.flat [qp 64,qp 64,qp 64,qp 64]++rest).drop 0).take [qp 64,qp 64,qp 64,qp 64].length)=some [⟨(qp 64).toArray⟩,⟨(qp 64).toArray⟩,⟨(qp 64).toArray⟩,⟨(qp 64).toArray⟩]:=rfl
   have hjl:=congrArg (fun s:ByteArray=>s.data.toList) qim
   have hjl:Lib.join ([(⟨(qp 64).toArray⟩:ByteArray),⟨(qp 64).toArray⟩,⟨(qp 64).toArray⟩,⟨(qp 64).toArray⟩].map (·.data.toList)) (⟨#[]⟩:ByteArray).data.toList=qp 256:=hjl
   simp only [Yl,hca,Option.bind_some,hst,hjl]
   rw [if_pos ⟨rfl,by simp,hc,by simp,by rw [xj]; omega⟩]
 simp -implicitDefEqProofs only [st0,qb,reduceIte,key,d1,hj]
 exact ⟨trivial,trivial⟩
theorem TAp.low {α:Type} {E:Enc α} {e:TypeId} {m:Mem} {v:Value} {l:List α} (h:TAp E e m v l):RSl 0 E m v l:=h.rsl fun b _=>Nat.zero_le _
theorem YT {d sb um N p vb k:Nat} {r:List Value} {T:TypeId} (hN:126+4 * k+4≤N) (hk:k≤200) {m0:Mem} (hne:p<m0.next∧vb<m0.next):∀ (n j:Nat) (m:Mem) (v:Value),4 - j=n→j≤4→Dv d sb um N m→m.get p=some ⟨.cells (.pointer (some ⟨d,0,none⟩)::r) T,false,none⟩→m.get vb=some ⟨.cells [.int .i64 (k:Int)] 3,false,none⟩→TAp encS 9 m v (List.replicate j (qp 64))→(∀ b∈qf v,m0.next≤b)→Upd [] m0 m→(d<m0.next∧sb<m0.next∧um<m0.next) →
  W (qaG (.pointer (some ⟨p,0,none⟩)) (.func (.func 97) #[] #[.pointer (some ⟨vb,0,none⟩)]) v (.int .i64 (j:Int)) m) fun r m'=>r=str (qp 256)∧Upd [] m0 m':=by
 intro n
 induction n with
 | zero =>
  intro j m v hd hj hdv gp gv hv hvb hu hlt
  obtain rfl:j=4:=by omega
  have e1:(((4:Nat):Int)<4)=False:=eq_false (by omega)
  rw [P96_0_eq]
  simp -implicitDefEqProofs only [st0,qb,reduceIte,e1]
  rw [P96_1_eq]
  refine qo.2 ((qcy hv).mono fun r m' ⟨r1,r2⟩=>?_)
  subst r1 r2
  simp -implicitDefEqProofs only [st0,qb,reduceIte,xt0,xt1]
  exact ⟨trivial,hu⟩
 | succ n ih =>
  intro j m v hd hj hdv gp gv hv hvb hu hlt
  have hlj:j<4:=by omega
  have e1:((j:Int)<4)=True:=eq_true (by omega)
  have l0:qc (.pointer (some ⟨p,0+0,none⟩)) m=some (.pointer (some ⟨d,0,none⟩)):=qs gp rfl
  have lv:qc (.pointer (some ⟨vb,0,none⟩)) m=some (.int .i64 (k:Int)):=qs gv rfl
  have hc:Call S tab 97 [.int .i64 (j:Int),.pointer (some ⟨vb,0,none⟩)] m=some (.int .i64 ((126+4 * k+j:Nat):Int),m):=by
   refine W_eq ?_
   rw [C97]
   simp -implicitDefEqProofs only [st0,qb,reduceIte,lv,WA k j (by omega) (by omega)]
   exact ⟨trivial,trivial⟩
  rw [P96_0_eq]
  simp -implicitDefEqProofs only [st0,qb,reduceIte,e1,nck,fa,l0,qgK 97 (by rfl),List.nil_append,List.singleton_append,hc]
  refine qo.2 ((WZ hdv (show 126+4 * k+j<N by omega)).mono fun v1 m1 ⟨r1,u1⟩=>?_)
  subst r1
  have hlm:=hu.next
  have gp1:=qA u1 (by omega) gp
  have gv1:=qA u1 (by omega) gv
  simp -implicitDefEqProofs only [st0,qb,reduceIte,WU]
  refine zX (E:=encS) [qp 64] (by decide) (hv.qx u1) (by simp; omega) fun v2 m2 q1 q2 q3=>?_
  have nv:∀ c,c<m0.next→c∉qf v:=fun c hc hm=>by have:=hvb c hm; omega
  have hn1:=u1.next
  have q2':Upd [] m0 m2:=(hu.qz u1).then' q2 fun b hb=>.inr (hvb b hb)
  have gp2:=(q2.same p (by omega) (nv p hne.1)).trans gp1
  have gv2:=(q2.same vb (by omega) (nv vb hne.2)).trans gv1
  have hdv2:Dv d sb um N m2:=(hdv.qx u1).upd q2 fun b hb=>by have:=hvb b hb; omega
  rw [← List.replicate_succ'] at q1
  simp -implicitDefEqProofs only [st0,qb,reduceIte,qH (i:=j) (by omega)]
  refine kJ (fun r hr=>?_) (ih (j+1) m2 v2 (by omega) (by omega) hdv2 gp2 gv2 q1 (fun b hb=>(q3 b hb).elim (hvb b) (fun h=>by omega)) q2' hlt)
  simp only [List.mem_cons,List.not_mem_nil,or_false] at hr
  subst hr
  exact okR fun k _ hk=>by
   have:k=0∨k=1:=by omega
   rcases this with rfl|rfl
   ·exact ⟨_,rfl,l0⟩
   ·exact ⟨_,rfl,l0⟩
theorem qda {d sb um N p vb k:Nat} {r:List Value} {T:TypeId} (hN:126+4 * k+4≤N) (hk:k≤200) {m:Mem} (hne:p<m.next∧vb<m.next) (hdv:Dv d sb um N m) (gp:m.get p=some ⟨.cells (.pointer (some ⟨d,0,none⟩)::r) T,false,none⟩) (gv:m.get vb=some ⟨.cells [.int .i64 (k:Int)] 3,false,none⟩) :
  W (Call S tab 96 [.pointer (some ⟨p,0,none⟩),.func (.func 97) #[] #[.pointer (some ⟨vb,0,none⟩)]] m) fun r m'=>r=str (qp 256)∧Upd [] m m':=by
 rw [C96]
 exact YT hN hk hne 4 0 m _ rfl (by omega) hdv gp gv (TAp.nil _) (fun c hc=>by simp [qf] at hc) (Upd.refl _ _) hdv.lt
end Go.Fx.Tryz
namespace Go.Fx.Tryz
open Go Go.Fx
abbrev pgB (d:Nat) (v:Value):ABlk:=⟨.cells [.pointer (some ⟨d,0,none⟩),v,.bool false,.int .i64 0] 173,false,none⟩
theorem qbp {d sb um N p P:Nat} (hN:126+4 * P≤N) (hP:P≤160) {m0:Mem} (hp:p<m0.next) (hlt:d<m0.next∧sb<m0.next∧um<m0.next) (hpd:p≠d∧p≠sb∧p≠um) {Q:Value→Mem→Prop}
  (hQ:∀ m v,Dv d sb um N m→m.get p=some (pgB d v)→TAp encS 9 m v (List.replicate P (qp 256))→(∀ b∈qf v,m0.next≤b)→Upd [p] m0 m→W (qeg (.pointer (some ⟨d,0,none⟩)) (.pointer (some ⟨p,0,none⟩)) m) Q) :
  ∀ (n i:Nat) (m:Mem) (v:Value),P - i=n→i≤P→Dv d sb um N m→m.get p=some (pgB d v)→TAp encS 9 m v (List.replicate i (qp 256))→(∀ b∈qf v,m0.next≤b)→Upd [p] m0 m →
  W (qaK (.pointer (some ⟨d,0,none⟩)) (.pointer (some ⟨p,0,none⟩)) (.int .i64 (P:Int)) (.int .i64 (i:Int)) m) Q:=by
 intro n
 induction n with
 | zero =>
  intro i m v hd hi hdv gp hv hvb hu
  obtain rfl:i=P:=by omega
  rw [P52_0_eq]
  simp -implicitDefEqProofs only [st0,qb,reduceIte,Int.lt_irrefl]
  exact hQ m v hdv gp hv hvb hu
 | succ n ih =>
  intro i m v hd hi hdv gp hv hvb hu
  have hlt':i<P:=by omega
  have e1:((i:Int)<(P:Int))=True:=eq_true (by omega)
  have hlm:=hu.next
  rw [P52_0_eq]
  simp -implicitDefEqProofs only [st0,qb,reduceIte,e1]
  have u1:Upd [] m (m.add ⟨.cells [.int .i64 0] 3,false,none⟩):=Upd.add _ _ _
  have g1:(m.add ⟨.cells [.int .i64 0] 3,false,none⟩).get m.next=some ⟨.cells [.int .i64 0] 3,false,none⟩:=Mem.qh ..
  have n1:(m.add ⟨.cells [.int .i64 0] 3,false,none⟩).next=m.next+1:=rfl
  generalize (m.add ⟨.cells [.int .i64 0] 3,false,none⟩)=m1 at u1 g1 n1
  have e2:qg 1 (.pointer (some ⟨m.next,0,none⟩)) (.int .i64 (i:Int)) m1=some (m1.put m.next ⟨.cells [.int .i64 (i:Int)] 3,false,none⟩):=zy g1 (by simp) rfl rfl
  have g2:(m1.put m.next ⟨.cells [.int .i64 (i:Int)] 3,false,none⟩).get m.next=_:=Mem.qi ..
  have u2:Upd [] m (m1.put m.next ⟨.cells [.int .i64 (i:Int)] 3,false,none⟩):=u1.kr _ (.inr (Nat.le_refl _))
  have n2:(m1.put m.next ⟨.cells [.int .i64 (i:Int)] 3,false,none⟩).next=m1.next:=rfl
  simp -implicitDefEqProofs only [st0,qb,reduceIte,e2]
  generalize (m1.put m.next ⟨.cells [.int .i64 (i:Int)] 3,false,none⟩)=m2 at g2 u2 n2
  have gp2:=qA u2 (by omega) gp
  have hdv2:=hdv.qx u2
  have lp:∀ {M:Mem} {x:Value},M.get p=some (pgB d x)→qc (.pointer (some ⟨p,0+1,none⟩)) M=some x:=fun g=>qs g rfl
  simp -implicitDefEqProofs only [st0,qb,reduceIte,nck,fa,lp gp2]
  refine qo.2 ((qda (by omega) (by omega) ⟨by omega,by omega⟩ hdv2 gp2 g2).mono fun v3 m3 ⟨r3,u3⟩=>?_)
  subst r3
  have x3:=u3.next
  have u03:Upd [] m m3:=u2.qz u3
  have gp3:=qA u03 (by omega) gp
  simp -implicitDefEqProofs only [st0,qb,reduceIte,WU]
  refine zX (E:=encS) [qp 256] (by decide) (hv.qx u03) (by simp; omega) fun v4 m4 q1 q2 q3=>?_
  have x4:=q2.next
  have nv:∀ c,c<m0.next→c∉qf v:=fun c hc hm=>by have:=hvb c hm; omega
  have gp4:=(q2.same p (by omega) (nv p hp)).trans gp3
  have e5:qg 1 (.pointer (some ⟨p,0+1,none⟩)) v4 m4=some (m4.put p (pgB d v4)):=zy gp4 (by simp) q1.one.1 q1.one.2
  have hdv4:Dv d sb um N m4:=(hdv.qx u03).upd q2 fun b hb=>by have:=hvb b hb; omega
  have u5:Upd [p] m4 (m4.put p (pgB d v4)):=Upd.put _ _ (by simp)
  have hv4b:∀ b∈qf v4,m0.next≤b:=fun b hb=>(q3 b hb).elim (hvb b) (fun h=>by omega)
  rw [← List.replicate_succ'] at q1
  simp -implicitDefEqProofs only [st0,qb,reduceIte,nck,fa,e5,qH (i:=i) (by omega)]
  refine kJ (fun r hr=>?_) (ih (i+1) _ v4 (by omega) hlt' (hdv4.upd u5 fun b hb=>by simp at hb; subst hb; exact hpd) (Mem.qi ..) (q1.upd u5 fun b hb hm=>by simp at hm; have:=hv4b b hb; omega) hv4b (((hu.qz u03).then' q2 fun b hb=>.inr (hvb b hb)).trans u5))
  simp only [List.mem_cons,List.not_mem_nil,or_false] at hr
  subst hr
  exact okR fun k _ hk=>by
   have:k=0∨k=1∨k=2:=by omega
   rcases this with rfl|rfl|rfl
   ·exact ⟨_,rfl,lp gp2⟩
   ·exact ⟨_,rfl,lp gp3⟩
   ·exact ⟨_,rfl,lp (by rw [Mem.zC _ _ (by omega)]; exact gp3)⟩
theorem qab (n:Nat) (hn:n≤1000) (m:Mem):Call S tab 24 [.int .i64 (n:Int)] m=some (.int .i64 ((126+4 * n:Nat):Int),m):=by
 refine W_eq ?_
 have:=WA n 0 hn (by omega) m
 rw [Nat.add_zero] at this
 have:Call S tab 55 [.int .i64 (n:Int),.int .i64 0] m=_:=this
 rw [C24]
 simp -implicitDefEqProofs only [st0,qb,reduceIte,this]
 exact ⟨trivial,trivial⟩
theorem qjs (v w:Value) (hv:v.cells=#[v]) (hw:w.cells=#[w]):qy [.slice none 0 0,.map none,.int .i64 0,.int .i64 0] [(0,1,v),(1,1,w),(3,1,.int .i64 4611686018427387904)]=some [v,w,.int .i64 0,.int .i64 4611686018427387904]:=by
 have h4:(Value.int .i64 4611686018427387904).cells=#[.int .i64 4611686018427387904]:=rfl
 simp [qy,hv,hw,h4,zM,zT]
theorem qfm (n:Nat) (hn:n≤160) (m:Mem):W (Call S tab 23 [.int .i64 ((126+4 * n:Nat):Int)] m) fun r m'=>∃ d sb um,r=.pointer (some ⟨d,0,none⟩)∧Dv d sb um (126+4 * n) m'∧d<m'.next∧Upd [] m m':=by
 have e1:(((0:Int) > ((126+4 * n:Nat):Int)))=False:=eq_false (by omega)
 have e2:(((4096:Int)<((126+4 * n:Nat):Int)))=False:=eq_false (by omega)
 have e3:kP 217 64 z64 (.int .i64 ((126+4 * n:Nat):Int)) (.int .i64 ((126+4 * n:Nat):Int)) m=some (.slice (some ⟨m.next,0,none⟩) (126+4 * n) (126+4 * n),m.add ⟨.cells (List.replicate (126+4 * n) z64).flatten 217,false,none⟩):=by
  simp only [kP]
  rw [if_pos ⟨by omega,by omega,by omega,by omega⟩]
  simp only [Int.toNat_natCast]
 rw [C23]
 simp -implicitDefEqProofs only [st0,qb,reduceIte,e1,e2,qfN,e3]
 rw [← qbX]
 have u1:Upd [] m (m.add ⟨.cells (encZ.flat (List.replicate (126+4 * n) ())) 217,false,none⟩):=Upd.add _ _ _
 have g1:(m.add ⟨.cells (encZ.flat (List.replicate (126+4 * n) ())) 217,false,none⟩).get m.next=some ⟨.cells (encZ.flat (List.replicate (126+4 * n) ())) 217,false,none⟩:=Mem.qh ..
 have n1:(m.add ⟨.cells (encZ.flat (List.replicate (126+4 * n) ())) 217,false,none⟩).next=m.next+1:=rfl
 generalize (m.add ⟨.cells (encZ.flat (List.replicate (126+4 * n) ())) 217,false,none⟩)=m1 at u1 g1 n1
 simp -implicitDefEqProofs only [st0,qb,reduceIte,zA]
 have u2:Upd [] m1 (m1.add ⟨.map [] 0,false,none⟩):=Upd.add _ _ _
 have g2:(m1.add ⟨.map [] 0,false,none⟩).get m1.next=some ⟨.map [] 0,false,none⟩:=Mem.qh ..
 have n2:(m1.add ⟨.map [] 0,false,none⟩).next=m1.next+1:=rfl
 have k2:=qA u2 (by omega) g1
 generalize (m1.add ⟨.map [] 0,false,none⟩)=m2 at u2 g2 n2 k2
 simp -implicitDefEqProofs only [st0,qb,reduceIte,qjs (.slice (some ⟨m.next,0,none⟩) (126+4 * n) (126+4 * n)) (.map (some m1.next)) rfl rfl,qR]
 have u3:Upd [] m2 (m2.add ⟨.cells [.slice (some ⟨m.next,0,none⟩) (126+4 * n) (126+4 * n),.map (some m1.next),.int .i64 0,.int .i64 4611686018427387904] 123,false,none⟩):=Upd.add _ _ _
 refine ⟨m2.next,m.next,m1.next,rfl,⟨⟨_,_,Mem.qh ..⟩,qA u3 (by omega) k2,qA u3 (by omega) g2,⟨by show m2.next<m2.next+1; omega,by show m.next<m2.next+1; omega,by show m1.next<m2.next+1; omega⟩⟩,by show m2.next<m2.next+1; omega,(u1.qz u2).qz u3⟩
theorem qeU (m:Mem):Call S tab 98 [str (qp 64)] m=some (.bool false,m):=by
 refine W_eq ?_
 have e1:arith .neq (str (qp 64)) (.string ⟨#[]⟩)=some (.bool true):=(Qc (qp 64) []).trans (by rfl)
 have e2:zG (str (qp 64)) (.int .i64 0)=some (.int .u8 0):=KW (l:=qp 64) (i:=0) (b:=0) rfl
 have e3:arith .neq (.int .u8 0) (.int .u8 0)=some (.bool false):=rfl
 rw [C98]
 simp -implicitDefEqProofs only [st0,qb,reduceIte,e1,e2,e3]
 exact ⟨trivial,trivial⟩
theorem qjr (d:Nat):qy [.pointer none,.slice none 0 0,.bool false,.int .i64 0] [(0,1,.pointer (some ⟨d,0,none⟩))]=some [.pointer (some ⟨d,0,none⟩),.slice none 0 0,.bool false,.int .i64 0]:=by kernel_rfl
theorem qcZ {d sb um n:Nat} (hn1:1≤n) (hn:n≤160) {m:Mem} (hdv:Dv d sb um (126+4 * n) m):W (Call S tab 52 [.pointer (some ⟨d,0,none⟩),.int .i64 (n:Int)] m) fun r m'=>∃ p v,r=.tuple #[.pointer (some ⟨p,0,none⟩),.int .i64 0]∧m'.get p=some (pgB d v)∧p<m'.next∧TAp encS 9 m' v (List.replicate n (qp 256))∧m.next≤p∧Upd [] m m':=by
 have e1:((n:Int)<1)=False:=eq_false (by omega)
 have e2:((160:Int)<(n:Int))=False:=eq_false (by omega)
 obtain ⟨a,b,hd⟩:=hdv.hd
 have l0:qc (.pointer (some ⟨d,0+0,none⟩)) m=some (.slice (some ⟨sb,0,none⟩) (126+4 * n) (126+4 * n)):=qs hd rfl
 have el:qj (.slice (some ⟨sb,0,none⟩) (126+4 * n) (126+4 * n))=some (.int .i64 ((126+4 * n:Nat):Int)):=rfl
 have hsz:Call S tab 95 [.pointer (some ⟨d,0,none⟩)] m=some (.int .i64 ((126+4 * n:Nat):Int),m):=by
  refine W_eq ?_
  rw [C95]
  simp -implicitDefEqProofs only [st0,qb,reduceIte,vd,nck,fa,l0,el]
  exact ⟨trivial,trivial⟩
 have e3:(((126+4 * n:Nat):Int)<((126+4 * n:Nat):Int))=False:=eq_false (by omega)
 rw [C52]
 simp -implicitDefEqProofs only [st0,qb,reduceIte,vd,e1,e2,hsz,qab n (by omega),e3,qjr,qR]
 have u1:Upd [] m (m.add (pgB d (.slice none 0 0))):=Upd.add _ _ _
 have g1:(m.add (pgB d (.slice none 0 0))).get m.next=some (pgB d (.slice none 0 0)):=Mem.qh ..
 have n1:(m.add (pgB d (.slice none 0 0))).next=m.next+1:=rfl
 generalize (m.add (pgB d (.slice none 0 0)))=m1 at u1 g1 n1
 obtain ⟨t1,t2,t3⟩:=hdv.lt
 refine qbp (N:=126+4 * n) (m0:=m1) (Nat.le_refl _) hn (by omega) ⟨by omega,by omega,by omega⟩ ⟨by omega,by omega,by omega⟩ (fun m2 v hdv2 gp hv hvb u2=>?_) _ 0 m1 _ rfl (Nat.zero_le _) (hdv.qx u1) g1 (TAp.nil _) (fun c hc=>by simp [qf] at hc) (Upd.refl _ _)
 have x2:=u2.next
 rw [P52_1_eq]
 have hd2:=WZ hdv2 (i:=0) (by omega)
 refine qo.2 (hd2.mono fun v3 m3 ⟨r3,u3⟩=>?_)
 subst r3
 have x3:=u3.next
 simp -implicitDefEqProofs only [st0,qb,reduceIte,qeU]
 exact ⟨m.next,v,rfl,qA u3 (by omega) gp,by omega,hv.qx u3,Nat.le_refl _,(u1.then' u2 fun b hb=>.inr (by simp at hb; omega)).qz u3⟩
end Go.Fx.Tryz
