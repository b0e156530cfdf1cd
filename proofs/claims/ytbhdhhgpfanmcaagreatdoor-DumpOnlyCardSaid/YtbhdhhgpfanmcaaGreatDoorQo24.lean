/- Parts of a proof: DuM, DuN, DuO, DuP. Conditions: none. -/
import Derived.Test.YtbhdhhgpfanmcaaGreatDoorQo23
set_option linter.unusedSimpArgs false
set_option linter.unusedVariables false
namespace Go.Fx.Tryz
open Go Go.Fx
def tot (T:List Tb):Nat:=(T.map fun t=>t.2.length).sum
theorem wN (A B:List Tb):tot (A++B)=tot A+tot B:=by unfold tot; rw [List.map_append,List.sum_append]
theorem wM (nm:Bs) (l:List Pr):tot [(nm,l)]=l.length:=by simp [tot]
theorem TR.tot {x:To} {T:List Tb} {m:Mem} (h:TR x T m):tot T≤20400:=by
 have h1:x.xA.length≤159:=by
  have hP:=h.wi.wr.hP
  have:=wY x.xA ((List.range 160).erase 0) h.nd (fun q hq=>by
   obtain ⟨t,ht,hqt⟩:=List.mem_flatMap.1 hq
   have:=kT (Fu.some ((h.tr t ht).used q hqt))
   rw [List.mem_erase_of_ne (by omega)]
   exact List.mem_range.2 (by omega))
  rwa [List.length_erase_of_mem (by simp),List.length_range] at this
 have h2:Tryz.tot T=(x.ts.map fun t=>t.l.length).sum:=by
  unfold Tryz.tot
  have:=(h.mo.perm.map fun t:Tb=>t.2.length).sum_nat
  rw [← this,List.map_map]; rfl
 have h3:∀ ts:List Tab1,(∀ t∈ts,t.l.length≤127 * t.U.length)→(ts.map fun t=>t.l.length).sum≤127 * (ts.flatMap (·.U)).length:=by
  intro ts
  induction ts with
  | nil=>intro _; simp
  | cons t ts ih =>
   intro hk
   have a:=hk t (by simp)
   have b:=ih fun q hq=>hk q (by simp [hq])
   rw [List.map_cons,List.sum_cons,List.flatMap_cons,List.length_append]
   omega
 have h4:=h3 x.ts fun t ht=>by
  rcases h.tr t ht with ⟨_,e1,e2⟩|⟨g,k⟩
  ·rw [e1]; simp
  ·exact ZP x.o.s g t.root [] none t.l t.U k
 unfold To.xA at h1
 omega
theorem TR.qdc {x:To} {T:List Tb} {m:Mem} (h:TR x T m):x.xA.length≤2 * Tryz.tot T:=by
 have h2:Tryz.tot T=(x.ts.map fun t=>t.l.length).sum:=by
  unfold Tryz.tot
  have:=(h.mo.perm.map fun t:Tb=>t.2.length).sum_nat
  rw [← this,List.map_map]; rfl
 have h3:∀ ts:List Tab1,(∀ t∈ts,t.U.length≤2 * t.l.length)→(ts.flatMap (·.U)).length≤2 * (ts.map fun t=>t.l.length).sum:=by
  intro ts
  induction ts with
  | nil=>intro _; simp
  | cons t ts ih =>
   intro hk
   have a:=hk t (by simp)
   have b:=ih fun q hq=>hk q (by simp [hq])
   rw [List.map_cons,List.sum_cons,List.flatMap_cons,List.length_append]
   omega
 have h4:=h3 x.ts fun t ht=>by
  rcases h.tr t ht with ⟨_,e1,e2⟩|⟨g,k⟩
  ·rw [e2]; simp
  ·have:=(Vn x.o.s g t.root [] none t.l t.U k).2.2; omega
 unfold To.xA
 omega
theorem TR.full {x:To} {T:List Tb} {m:Mem} (h:TR x T m) (hall:∀ n,1≤n→n<x.o.P→xX x.o.u n=true):x.o.P≤1+x.xA.length:=by
 have:=wY ((List.range x.o.P).erase 0) x.xA (List.Nodup.erase 0 List.nodup_range) (fun q hq=>by
  have h0:q≠0:=fun e=>by rw [e] at hq; exact (List.Nodup.not_mem_erase List.nodup_range) hq
  have hq2:=List.mem_range.1 (List.mem_of_mem_erase hq)
  refine h.own q fun hn=>?_
  have hf:=h.wi.fu q
  rw [hn] at hf
  unfold Wo.has at hf
  rw [hall q (by omega) hq2,decide_eq_true (show 1≤q by omega),decide_eq_true hq2] at hf
  cases hf)
 rcases Nat.eq_zero_or_pos x.o.P with h0|h0
 ·omega
 ·rw [List.length_erase_of_mem (List.mem_range.2 h0),List.length_range] at this; omega
structure Rx (dr rb:Nat) (x:To) (m:Mem):Prop where
 gd:m.get dr=some ⟨.cells [.pointer (some ⟨rb,0,none⟩),.pointer (some ⟨x.t,0,none⟩)] 73,false,none⟩
 lt:dr<m.next∧rb<m.next
 ne:dr≠rb
 nd:dr∉x.fp∧dr≠x.o.c∧dr≠x.o.p∧dr∉qf x.nb
 nr:rb∉x.fp∧rb≠x.o.c∧rb≠x.o.p∧rb∉qf x.nb
structure Tm (rb:Nat) (x x':To) (m m':Mem):Prop where
 t:x'.t=x.t
 nb:x'.nb=x.nb
 nts:x'.nts=x.nts
 c:x'.o.c=x.o.c
 p:x'.o.p=x.o.p
 P:x'.o.P=x.o.P
 upd:Upd (rb::x.fp) m m'
 grow:∀ b∈x'.fp,b∈x.fp∨m.next≤b
 pre:x.ns <+: x'.ns
section
variable {rb dr:Nat} {x x' x'':To} {m m' m'':Mem} {T T':List Tb}
theorem Tm.WC (h:Tn x x' m m'):Tm rb x x' m m':=⟨h.t,h.nb,h.nts,h.c,h.p,h.P,h.upd.mono fun b hb _=>List.mem_cons.2 (.inr hb),fun b hb=>by
 simp only [To.fp,List.mem_cons,h.t,h.tm] at hb ⊢
 rcases hb with hb|hb|hb
 ·exact .inl (.inl hb)
 ·exact .inl (.inr (.inl hb))
 ·exact (h.grow b hb).imp (fun h=>.inr (.inr h)) id,h.gr.pre⟩
theorem Tm.rd (u:Upd [rb] m m'):Tm rb x x m m':=⟨rfl,rfl,rfl,rfl,rfl,rfl,u.mono fun b hb _=>by simp at hb; simp [hb],fun b hb=>.inl hb,List.prefix_refl _⟩
theorem Tm.of0 (u:Upd [] m m'):Tm rb x x m m':=Tm.rd u.nil'
theorem Tm.trans (h:Tm rb x x' m m') (k:Tm rb x' x'' m' m''):Tm rb x x'' m m'' :=
 ⟨k.t.trans h.t,k.nb.trans h.nb,k.nts.trans h.nts,k.c.trans h.c,k.p.trans h.p,k.P.trans h.P,h.upd.then' k.upd (fun b hb=>by
  rcases List.mem_cons.1 hb with e|hb
  ·exact .inl (List.mem_cons.2 (.inl e))
  ·exact (h.grow b hb).imp (fun h=>List.mem_cons.2 (.inr h)) id),fun b hb=>(k.grow b hb).elim (h.grow b) fun hb=>.inr (Nat.le_trans h.upd.next hb),h.pre.trans k.pre⟩
theorem TR.qhY {fp:List Nat} (h:TR x T m) (u:Upd fp m m') (hf:∀ b∈fp,b∉x.fp∧b≠x.o.c∧b≠x.o.p∧b∉qf x.nb):TR x T m':=by
 have hx:=u.next
 have hl:=h.lt
 have k:∀ b,b∈x.fp→b∉fp:=fun b hb hm=>(hf b hm).1 hb
 refine ⟨(u.same _ hl.1 (k _ (by simp [To.fp]))).trans h.tx,(u.same _ hl.2 (k _ (by simp [To.fp]))).trans h.tg,h.wi.upd u fun b hb=>⟨fun hm=>(hf b hb).1 (by simp [To.fp,hm]),(hf b hb).2.1,(hf b hb).2.2.1⟩,h.nb.upd u fun b hb hm=>(hf b hm).2.2.2 hb,h.mo,h.va,h.bo,h.tr,h.nd,h.own,⟨by omega,by omega⟩,h.ne,h.nn⟩
theorem Rx.next (h:Rx dr rb x m) (k:Tm rb x x' m m'):Rx dr rb x' m':=by
 have hx:=k.upd.next
 have hl:=h.lt
 have kp:∀ b,b<m.next→b∉x.fp→b∉x'.fp:=fun b h1 h2 h3=>(k.grow b h3).elim h2 fun h=>by omega
 refine ⟨?_,⟨by omega,by omega⟩,h.ne,⟨kp _ hl.1 h.nd.1,by rw [k.c]; exact h.nd.2.1,by rw [k.p]; exact h.nd.2.2.1,by rw [k.nb]; exact h.nd.2.2.2⟩,⟨kp _ hl.2 h.nr.1,by rw [k.c]; exact h.nr.2.1,by rw [k.p]; exact h.nr.2.2.1,by rw [k.nb]; exact h.nr.2.2.2⟩⟩
 rw [k.t]
 exact (k.upd.same _ hl.1 (by simp only [List.mem_cons,not_or]; exact ⟨h.ne,h.nd.1⟩)).trans h.gd
theorem Rx.ld (h:Rx dr rb x m):qc (.pointer (some ⟨dr,0+0,none⟩)) m=some (.pointer (some ⟨rb,0,none⟩))∧qc (.pointer (some ⟨dr,0+1,none⟩)) m=some x.v:=⟨qs h.gd rfl,qs h.gd rfl⟩
theorem Rx.tr (h:Rx dr rb x m) (ht:TR x T m) (u:Upd [rb] m m'):TR x T m':=ht.qhY u fun b hb=>by simp at hb; subst hb; exact h.nr
end
theorem qcX {l:List Pr} {k v:Bs} (h:∀ p∈l,ltB p.1 k=true):xD l k v=l++[(k,v)]:=by
 have ha:zx l k=l.length:=by
  unfold zx
  rw [List.filter_eq_self.2 h]
 have ht:zJ l k=false:=by unfold zJ; rw [ha,List.getElem?_eq_none (Nat.le_refl _)]
 rw [Wz,ht,ha]
 simp
theorem qcL {T:List Tb} {nm:Bs} {l k:List Pr} (h:∀ t∈T,t.1≠nm):QC (T++[(nm,l)]) nm k=T++[(nm,k)]:=by
 unfold QC
 rw [List.map_append,List.map_cons,List.map_nil,if_pos rfl]
 congr 1
 exact (List.map_congr_left fun t ht=>by rw [if_neg (h t ht)]; rfl).trans (List.map_id _)
theorem qdo {T:List Tb} {nm:Bs} (h:∀ t∈T,ltB t.1 nm=true):QP T nm=T++[(nm,[])]:=by
 induction T with
 | nil=>rfl
 | cons t T ih =>
  unfold QP
  rw [if_pos (h t (by simp)),ih fun q hq=>h q (by simp [hq])]
  rfl
theorem Wu {b s r:Bs} (h:rdS b=some (s,r)):r.length+s.length+1≤b.length:=by
 obtain ⟨_,rfl⟩:=wV h
 simp [xa]; omega
theorem ZI {b s r:Bs} (h:rdS b=some (s,r)):r.length≤b.length:=by
 obtain ⟨_,rfl⟩:=wV h
 simp [xa]; omega
theorem HU {b r:Bs} {n:Nat} (h:rd2 b=some (n,r)):r.length≤b.length:=by
 obtain ⟨_,rfl⟩:=ZJ h
 simp [xU]; omega
theorem qdO:∀ (n:Nat) (key b r:Bs) (l:List Pr),vj n key b=some (l,r)→r.length≤b.length:=fun n key b r l h=>by
 obtain ⟨_,h2,_⟩:=XV n key b r l h
 rw [h2,List.length_append]; omega
theorem Hb {a k:Bs} (h:ltB a k=true):k≠[]:=fun e=>by
 rw [e] at h
 exact List.not_lt_nil _ (vO.1 h)
theorem qcB {i:Nat} (h:i<2 ^ 62):arith .add (.int .u64 (i:Int)) (.int .u64 1)=some (.int .u64 ((i+1:Nat):Int)):=ZU h
theorem qeJ {dr rb N cnt B:Nat} {T0:List Tb} {nm:Bs} (hN:N≤1000) (hcnt:cnt≤65535) (hT0:∀ t∈T0,t.1≠nm):∀ (n i:Nat) (x:To) (l0:List Pr) (key rest:Bs) (m:Mem),i+n=cnt→TR x (T0++[(nm,l0)]) m→Rx dr rb x m→m.get rb=some (rdB rest)→rest.length<2 ^ 62→(∀ p∈l0,ltB key p.1=false)→x.ns.length≤N+tot (T0++[(nm,l0)])→3 * tot (T0++[(nm,l0)])+rest.length≤B →
  W (qaI (.pointer (some ⟨dr,0,none⟩)) (str nm) (str key) (.int .u64 (cnt:Int)) (.int .u64 (i:Int)) m) fun r m'=>∃ x' T',TR x' T' m'∧Rx dr rb x' m'∧Tm rb x x' m m' ∧
   ((∃ l r',vj n key rest=some (l,r')∧r=.tuple #[str nm,.int .i64 0]∧T'=T0++[(nm,l0++l)]∧m'.get rb=some (rdB r')∧x'.ns.length≤N+tot T'∧3 * tot T'+r'.length≤B)∨(r=.tuple #[.string ⟨#[]⟩,.int .i64 8]∧(12≤B∨3 * x.o.P≤2 * B))∨(vj n key rest=none∧r=.tuple #[.string ⟨#[]⟩,.int .i64 10])):=by
 intro n
 induction n with
 | zero =>
  intro i x l0 key rest m hi htr hrx hrd hrl hkey hns hB
  obtain rfl:i=cnt:=by omega
  rw [P62_0_eq]
  simp -implicitDefEqProofs only [st0,qb,reduceIte,Int.lt_irrefl]
  exact ⟨x,_,htr,hrx,Tm.of0 (Upd.refl _ _),.inl ⟨[],rest,rfl,trivial,by rw [List.append_nil],hrd,hns,hB⟩⟩
 | succ n ih =>
  intro i x l0 key rest m hi htr hrx hrd hrl hkey hns hB
  have e1:((i:Int)<(cnt:Int))=True:=eq_true (by omega)
  have d0:decide ((0:Int)=0)=true:=rfl
  have hlt:=hrx.lt
  rw [P62_0_eq]
  simp -implicitDefEqProofs only [st0,qb,reduceIte,e1,nck,fa,hrx.ld.1]
  refine qo.2 ((qcR hrd hlt.2 hrl).mono fun v1 m1 ⟨u1,h1⟩=>?_)
  have hx1:=u1.next
  have rx1:=hrx.next (Tm.rd u1)
  have tr1:=hrx.tr htr u1
  simp -implicitDefEqProofs only [st0,qb,reduceIte,nck,fa,rx1.ld.1]
  have ckr:∀ m2:Mem,Rx dr rb x m2→∀ r∈[((Req.load1 (.pointer (some ⟨dr,0+0,none⟩)),.pointer (some ⟨rb,0,none⟩),0,0):Rq),(.load1 (.pointer (some ⟨dr,0+0,none⟩)),.pointer (some ⟨rb,0,none⟩),0,1)],vY [m,m1,m2] r=true:=fun m2 rx2 r hr=>by
   simp only [List.mem_cons,List.not_mem_nil,or_false] at hr
   have al:∀ M∈[m,m1,m2],qc (.pointer (some ⟨dr,0+0,none⟩)) M=some (.pointer (some ⟨rb,0,none⟩)):=fun M hM=>by
    simp only [List.mem_cons,List.not_mem_nil,or_false] at hM
    rcases hM with rfl|rfl|rfl
    ·exact hrx.ld.1
    ·exact rx1.ld.1
    ·exact rx2.ld.1
   rcases hr with rfl|rfl
   ·exact okL al (by simp)
   ·exact okL al (by simp)
  rcases h1 with ⟨k,r1,k1,rfl,k3⟩|⟨k1,rfl,k3⟩
  rotate_left
  ·-- no key
   have ck:=ckr m1 rx1
   obtain ⟨q,e,he,hq⟩:=k3
   have de:decide (e=0)=false:=decide_eq_false he
   simp -implicitDefEqProofs only [st0,qb,reduceIte,qid ⟨q,e,he,hq⟩]
   refine kJ ck ?_
   simp -implicitDefEqProofs only [st0,qb,reduceIte,nck,fa,rx1.ld.1,Ws hq,de]
   exact ⟨x,_,tr1,rx1,Tm.rd u1,.inr (.inr ⟨by simp only [vj,k1]; rfl,trivial⟩)⟩
  have hr1:=ZI k1
  refine qo.2 ((qcR k3 (by omega) (by omega)).mono fun v2 m2 ⟨u2,h2⟩=>?_)
  have hx2:=u2.next
  have u02:=u1.trans u2
  have rx2:=rx1.next (Tm.rd u2)
  have tr2:=rx1.tr tr1 u2
  refine kJ (ckr m2 rx2) ?_
  rcases h2 with ⟨v,r2,j1,rfl,j3⟩|⟨j1,rfl,j3⟩
  rotate_left
  ·-- no value
   obtain ⟨q,e,he,hq⟩:=j3
   have de:decide (e=0)=false:=decide_eq_false he
   simp -implicitDefEqProofs only [st0,qb,reduceIte,nck,fa,rx2.ld.1,Ws hq,de]
   exact ⟨x,_,tr2,rx2,Tm.rd u02,.inr (.inr ⟨by simp only [vj,k1,Option.bind_some,j1]; rfl,trivial⟩)⟩
  have hr2:=ZI j1
  have hr1':=Wu k1
  have hr2':=Wu j1
  simp -implicitDefEqProofs only [st0,qb,reduceIte,nck,fa,rx2.ld.1,yY j3,d0,Qh]
  cases hkk:ltB key k with
  | false =>
   simp -implicitDefEqProofs only [st0,qb,reduceIte]
   exact ⟨x,_,tr2,rx2,Tm.rd u02,.inr (.inr ⟨by simp only [vj,k1,Option.bind_some,j1,hkk,Bool.false_and,Bool.false_eq_true,if_false],trivial⟩)⟩
  | true =>
   simp -implicitDefEqProofs only [st0,qb,reduceIte,nck,fa,rx2.ld.2]
   have htot:=tr2.tot
   obtain ⟨a,q,b,he,q1,q2⟩:=tr2.find (t:=(nm,l0)) (by simp)
   have q1:q.nm=nm:=q1
   have q2:q.l=l0:=q2
   subst q1 q2
   refine qo.2 ((HF tr2 (by omega) he k v).mono fun r3 m3 hq3=>?_)
   have hkk':k≠[]:=Hb hkk
   have d8:decide ((8:Int)=0)=false:=rfl
   have d1:decide ((1:Int)=0)=false:=rfl
   rcases hq3 with ⟨x',tr3,tn3,_,⟨n1,rfl⟩|⟨n1,n2,rfl⟩⟩|⟨n1,rfl,x',rt,U,tr3,tn3,_⟩
   ·have hd:vj (n+1) key rest=none:=by
     simp only [vj,k1,Option.bind_some,j1,hkk,Bool.true_and]
     rw [if_neg]
     intro hc
     simp only [Bool.and_eq_true,decide_eq_true_eq] at hc
     exact n1 ⟨⟨hkk',hc.1⟩,hc.2⟩
    simp -implicitDefEqProofs only [st0,qb,reduceIte,d1,ZN,true_or]
    exact ⟨x',_,tr3,rx2.next (Tm.WC tn3),(Tm.rd u02).trans (Tm.WC tn3),.inr (.inr ⟨hd,trivial⟩)⟩
   ·have e8:(if (8:Int)=1∨(8:Int)=11∨(8:Int)=3 then (10:Int) else 8)=8:=rfl
    simp -implicitDefEqProofs only [st0,qb,reduceIte,d8,ZN,e8]
    refine ⟨x',_,tr3,rx2.next (Tm.WC tn3),(Tm.rd u02).trans (Tm.WC tn3),.inr (.inl ⟨trivial,?_⟩)⟩
    rw [wN,wM] at hB
    rcases n2 with ⟨_,n2⟩|⟨_,n2⟩
    ·right
     have hp:=tr2.qdc
     have hf:=tr2.full n2
     rw [wN,wM] at hp
     omega
    ·left
     have hk0:=List.length_pos_iff.2 hkk'
     have:=XD q.l k v
     split at this<;>omega
   ·have hall:∀ p∈q.l,ltB p.1 k=true:=fun p hp=>jR (hkey p hp) hkk
    have hpl:=qcX (v:=v) hall
    rw [hpl,qcL hT0] at tr3
    have rx3:=rx2.next (Tm.WC tn3)
    have rd3:m3.get rb=some (rdB r2):=(tn3.upd.same rb rx2.lt.2 rx2.nr.1).trans j3
    have hns3:x'.ns.length≤N+tot (T0++[(q.nm,q.l++[(k,v)])]):=by
     have:=tn3.gr.len
     rw [wN,wM] at hns ⊢
     rw [List.length_append,List.length_singleton]
     omega
    simp -implicitDefEqProofs only [st0,qb,reduceIte,d0,qcB (i:=i) (by omega)]
    refine (ih (i+1) x' (q.l++[(k,v)]) k r2 m3 (by omega) tr3 rx3 rd3 (by omega) (fun p hp=>?_) hns3 ?_).mono fun r m' ⟨x'',T',z1,z2,z3,z4⟩=>?_
    ·rcases List.mem_append.1 hp with hp|hp
     ·exact xm (hall p hp)
     ·simp at hp; subst hp; exact jY _
    ·have hk0:=List.length_pos_iff.2 hkk'
     rw [wN,wM] at hB ⊢
     rw [List.length_append,List.length_singleton]
     omega
    ·have hde:vj (n+1) key rest=(vj n k r2).map fun p=>((k,v)::p.1,p.2):=by
      simp only [vj,k1,Option.bind_some,j1,hkk,Bool.true_and]
      rw [if_pos]
      simp only [Bool.and_eq_true,decide_eq_true_eq]
      exact ⟨n1.1.2,n1.2⟩
     refine ⟨x'',T',z1,z2,((Tm.rd u02).trans (Tm.WC tn3)).trans z3,?_⟩
     rw [hde]
     rcases z4 with ⟨l,r',y1,y2,y3,y4,y5⟩|y|⟨y1,y2⟩
     ·exact .inl ⟨(k,v)::l,r',by rw [y1]; rfl,y2,by rw [y3,List.append_assoc]; rfl,y4,y5⟩
     ·exact .inr (.inl (by rw [tn3.P] at y; exact y))
     ·exact .inr (.inr ⟨by rw [y1]; rfl,y2⟩)
end Go.Fx.Tryz
namespace Go.Fx.Tryz
open Go Go.Fx
def kC (last rest:Bs):Option (Tb × Bs):=(rdS rest).bind fun q=>(rd2 q.2).bind fun c=>if ltB last q.1&&xu q.1 then (vj c.1 [] c.2).map fun l=>((q.1,l.1),l.2) else none
theorem XU (n:Nat) (last rest:Bs):kU (n+1) last rest=(kC last rest).bind fun t=>(kU n t.1.1 t.2).map fun p=>(t.1::p.1,p.2):=by
 simp only [kU,kC]
 cases rdS rest with
 | none=>rfl
 | some q =>
  simp only [Option.bind_some]
  cases rd2 q.2 with
  | none=>rfl
  | some c =>
   simp only [Option.bind_some]
   split
   ·cases vj c.1 [] c.2<;>rfl
   ·rfl
theorem qeI {dr rb N B:Nat} (hN:N≤1000) {x:To} {T:List Tb} {last rest:Bs} {m:Mem} (htr:TR x T m) (hrx:Rx dr rb x m) (hrd:m.get rb=some (rdB rest)) (hrl:rest.length<2 ^ 62) (hlast:∀ t∈T,ltB last t.1=false) (hns:x.ns.length≤N+tot T) (hB:3 * tot T+rest.length≤B) :
  W (Call S tab 62 [.pointer (some ⟨dr,0,none⟩),str last] m) fun r m'=>∃ x' T',TR x' T' m'∧Rx dr rb x' m'∧Tm rb x x' m m' ∧
   ((∃ t r',kC last rest=some (t,r')∧r=.tuple #[str t.1,.int .i64 0]∧T'=T++[t]∧m'.get rb=some (rdB r')∧x'.ns.length≤N+tot T'∧3 * tot T'+r'.length≤B)∨(r=.tuple #[.string ⟨#[]⟩,.int .i64 8]∧(12≤B∨3 * x.o.P≤2 * B))∨((kC last rest=none∨12≤T.length)∧r=.tuple #[.string ⟨#[]⟩,.int .i64 10])):=by
 have d0:decide ((0:Int)=0)=true:=rfl
 have d1:decide ((1:Int)=0)=false:=rfl
 have d3:decide ((3:Int)=0)=false:=rfl
 have hlt:=hrx.lt
 rw [C62]
 simp -implicitDefEqProofs only [st0,qb,reduceIte,nck,fa,hrx.ld.1]
 refine qo.2 ((qcR hrd hlt.2 hrl).mono fun v1 m1 ⟨u1,h1⟩=>?_)
 have hx1:=u1.next
 have rx1:=hrx.next (Tm.rd u1)
 have tr1:=hrx.tr htr u1
 simp -implicitDefEqProofs only [st0,qb,reduceIte,nck,fa,rx1.ld.1]
 rcases h1 with ⟨nm,r1,k1,rfl,k3⟩|⟨k1,rfl,k3⟩
 rotate_left
 ·refine qo.2 ((qie k3 (k:=2) (by omega) (by omega)).mono fun v2 m2 ⟨e,u2⟩=>?_)
  subst e
  have rx2:=rx1.next (Tm.of0 (rb:=rb) u2)
  obtain ⟨q,e,he,hq⟩:=k3
  have hq2:=qA u2 (by omega) hq
  have de:decide (e=0)=false:=decide_eq_false he
  simp -implicitDefEqProofs only [st0,qb,reduceIte,nck,fa,rx2.ld.1,Ws hq2,de]
  exact ⟨x,_,tr1.qx u2,rx2,(Tm.rd u1).trans (Tm.of0 u2),.inr (.inr ⟨.inl (by simp only [kC,k1]; rfl),trivial⟩)⟩
 have hr1:=ZI k1
 refine qo.2 ((qhg k3 (by omega) (by omega)).mono fun v2 m2 ⟨u2,h2⟩=>?_)
 have hx2:=u2.next
 have u02:=u1.trans u2
 have rx2:=rx1.next (Tm.rd u2)
 have tr2:=rx1.tr tr1 u2
 rcases h2 with ⟨c,r2,j1,rfl,j3⟩|⟨j1,rfl,j3⟩
 rotate_left
 ·obtain ⟨q,e,he,hq⟩:=j3
  have de:decide (e=0)=false:=decide_eq_false he
  simp -implicitDefEqProofs only [st0,qb,reduceIte,nck,fa,rx2.ld.1,Ws hq,de]
  exact ⟨x,_,tr2,rx2,Tm.rd u02,.inr (.inr ⟨.inl (by simp only [kC,k1,Option.bind_some,j1]; rfl),trivial⟩)⟩
 have hr2:=HU j1
 simp -implicitDefEqProofs only [st0,qb,reduceIte,nck,fa,rx2.ld.1,yY j3,d0,Qh]
 cases hkk:ltB last nm with
 | false =>
  simp -implicitDefEqProofs only [st0,qb,reduceIte]
  exact ⟨x,_,tr2,rx2,Tm.rd u02,.inr (.inr ⟨.inl (by simp only [kC,k1,Option.bind_some,j1,hkk,Bool.false_and,Bool.false_eq_true,if_false]),trivial⟩)⟩
 | true =>
  have hall:∀ t∈T,ltB t.1 nm=true:=fun t ht=>jR (hlast t ht) hkk
  have hno:∀ t∈T,t.1≠nm:=fun t ht=>XI (hall t ht)
  simp -implicitDefEqProofs only [st0,qb,reduceIte,nck,fa,rx2.ld.2]
  refine qo.2 ((VN tr2 nm).mono fun r3 m3 hq3=>?_)
  rcases hq3 with ⟨n1,rfl,u3⟩|⟨n1,⟨t,ht,rfl⟩,_⟩|⟨n1,n2,n3,rfl,u3⟩|⟨n1,n2,n3,rfl,x',tr3,tn3,ns3,_,_⟩
  ·have e1:(if (1:Int)=1∨(1:Int)=11∨(1:Int)=3 then (10:Int) else 1)=10:=rfl
   simp -implicitDefEqProofs only [st0,qb,reduceIte,d1,ZN,e1]
   exact ⟨x,_,tr2.qx u3,rx2.next (Tm.of0 (rb:=rb) u3),(Tm.rd u02).trans (Tm.of0 u3),.inr (.inr ⟨.inl (by simp only [kC,k1,Option.bind_some,j1,hkk,n1,Bool.and_false,Bool.false_eq_true,if_false]),rfl⟩)⟩
  ·exact absurd rfl (hno _ (tr2.mo.mem ht))
  ·have e3:(if (3:Int)=1∨(3:Int)=11∨(3:Int)=3 then (10:Int) else 3)=10:=rfl
   simp -implicitDefEqProofs only [st0,qb,reduceIte,d3,ZN,e3]
   exact ⟨x,_,tr2.qx u3,rx2.next (Tm.of0 (rb:=rb) u3),(Tm.rd u02).trans (Tm.of0 u3),.inr (.inr ⟨.inr n3,rfl⟩)⟩
  ·rw [qdo hall] at tr3
   have rx3:=rx2.next (Tm.WC tn3)
   have rd3:m3.get rb=some (rdB r2):=(tn3.upd.same rb rx2.lt.2 rx2.nr.1).trans j3
   have hc:=(ZJ j1).1
   simp -implicitDefEqProofs only [st0,qb,reduceIte,d0]
   refine (qeJ (B:=B) hN hc hno c 0 x' [] [] r2 m3 (by omega) tr3 rx3 rd3 (by omega) (by simp) (by rw [ns3,wN,wM]; exact Nat.le_trans hns (by omega)) (by rw [wN,wM,List.length_nil]; omega)).mono fun r m' ⟨x'',T',z1,z2,z3,z4⟩=>?_
   refine ⟨x'',T',z1,z2,((Tm.rd u02).trans (Tm.WC tn3)).trans z3,?_⟩
   have hde:kC last rest=(vj c [] r2).map fun l=>((nm,l.1),l.2):=by
    simp only [kC,k1,Option.bind_some,j1,hkk,n1,Bool.and_self,if_true]
   rw [hde]
   rcases z4 with ⟨l,r',y1,y2,y3,y4,y5⟩|y|⟨y1,y2⟩
   ·exact .inl ⟨(nm,l),r',by rw [y1]; rfl,y2,by rw [y3,List.nil_append],y4,y5⟩
   ·exact .inr (.inl (by rw [tn3.P] at y; exact y))
   ·exact .inr (.inr ⟨.inl (by rw [y1]; rfl),y2⟩)
theorem Hj {last rest r':Bs} {t:Tb} (h:kC last rest=some (t,r')):ltB last t.1=true∧r'.length≤rest.length:=by
 simp only [kC,Option.bind_eq_some_iff] at h
 obtain ⟨⟨k,b1⟩,h1,⟨c,b2⟩,h2,h⟩:=h
 split at h
 ·rename_i hc
  simp only [Bool.and_eq_true] at hc
  simp only [Option.map_eq_some_iff,Prod.mk.injEq] at h
  obtain ⟨⟨l,b3⟩,h3,h4,h5⟩:=h
  have a1:b1.length≤rest.length:=ZI h1
  have a2:b2.length≤b1.length:=HU h2
  have a3:b3.length≤b2.length:=qdO _ _ _ _ _ h3
  subst h4 h5
  exact ⟨hc.1,by show b3.length≤_; omega⟩
 ·cases h
theorem qcP {dr rb N cnt B:Nat} (hN:N≤1000) (hcnt:cnt≤255):∀ (n i:Nat) (x:To) (T:List Tb) (last rest:Bs) (m:Mem),i+n=cnt→T.length=i→TR x T m→Rx dr rb x m→m.get rb=some (rdB rest)→rest.length<2 ^ 62→(∀ t∈T,ltB last t.1=false)→x.ns.length≤N+tot T→3 * tot T+rest.length≤B →
  W (qaL (.pointer (some ⟨dr,0,none⟩)) (str last) (.int .u64 (cnt:Int)) (.int .u64 (i:Int)) m) fun r m'=>∃ x' T',TR x' T' m'∧Rx dr rb x' m'∧Tm rb x x' m m' ∧
   ((∃ L,kU n last rest=some (L,[])∧r=.int .i64 0∧T'=T++L∧x'.ns.length≤N+tot T')∨(r=.int .i64 8∧(12≤B∨3 * x.o.P≤2 * B))∨(((∀ L,kU n last rest≠some (L,[]))∨12<cnt)∧r=.int .i64 10)):=by
 intro n
 induction n with
 | zero =>
  intro i x T last rest m hi hT htr hrx hrd hrl hlast hns hB
  obtain rfl:i=cnt:=by omega
  rw [P29_0_eq]
  simp -implicitDefEqProofs only [st0,qb,reduceIte,Int.lt_irrefl]
  rw [P29_1_eq]
  simp -implicitDefEqProofs only [st0,qb,reduceIte,nck,fa,hrx.ld.1,qcV hrd]
  by_cases hc:rest=[]
  ·have d:(decide ((if rest=[] then (0:Int) else 5)=0))=true:=by rw [if_pos hc]; rfl
   simp -implicitDefEqProofs only [st0,qb,reduceIte,d]
   exact ⟨x,_,htr,hrx,Tm.of0 (Upd.refl _ _),.inl ⟨[],by rw [hc]; rfl,trivial,by rw [List.append_nil],hns⟩⟩
  ·have d:(decide ((if rest=[] then (0:Int) else 5)=0))=false:=by rw [if_neg hc]; rfl
   simp -implicitDefEqProofs only [st0,qb,reduceIte,d]
   refine ⟨x,_,htr,hrx,Tm.of0 (Upd.refl _ _),.inr (.inr ⟨.inl fun L h=>hc ?_,trivial⟩)⟩
   simp only [kU,Option.some.injEq,Prod.mk.injEq] at h
   exact h.2
 | succ n ih =>
  intro i x T last rest m hi hT htr hrx hrd hrl hlast hns hB
  have e1:((i:Int)<(cnt:Int))=True:=eq_true (by omega)
  have d0:decide ((0:Int)=0)=true:=rfl
  have d8:decide ((8:Int)=0)=false:=rfl
  have d10:decide ((10:Int)=0)=false:=rfl
  rw [P29_0_eq]
  simp -implicitDefEqProofs only [st0,qb,reduceIte,e1]
  refine qo.2 ((qeI hN htr hrx hrd hrl hlast hns hB).mono fun r1 m1 ⟨x1,T1,t1,rx1,tm1,h1⟩=>?_)
  rcases h1 with ⟨t,r',k1,rfl,rfl,k4,k5,k6⟩|⟨rfl,k1⟩|⟨k1,rfl⟩
  ·simp -implicitDefEqProofs only [st0,qb,reduceIte,xt0,xt1,d0,qcB (i:=i) (by omega)]
   have hd:=Hj k1
   refine (ih (i+1) x1 (T++[t]) t.1 r' m1 (by omega) (by simp [hT]) t1 rx1 k4 (by omega) (fun q hq=>?_) k5 k6).mono fun r m' ⟨x2,T2,z1,z2,z3,z4⟩=>⟨x2,T2,z1,z2,tm1.trans z3,?_⟩
   ·rcases List.mem_append.1 hq with hq|hq
    ·exact xm (jR (hlast q hq) hd.1)
    ·simp at hq; subst hq; exact jY _
   ·have hde:kU (n+1) last rest=(kU n t.1 r').map fun p=>(t::p.1,p.2):=by rw [XU,k1]; rfl
    rw [hde]
    rcases z4 with ⟨L,y1,y2,y3,y4⟩|y|⟨y1,y2⟩
    ·exact .inl ⟨t::L,by rw [y1]; rfl,y2,by rw [y3,List.append_assoc]; rfl,y4⟩
    ·exact .inr (.inl (by rw [tm1.P] at y; exact y))
    ·refine .inr (.inr ⟨y1.imp (fun h L hL=>?_) id,y2⟩)
     simp only [Option.map_eq_some_iff,Prod.mk.injEq] at hL
     obtain ⟨⟨L',e⟩,h1,h2,h3⟩:=hL
     exact h L' (by rw [h1,show e=[] from h3])
  ·simp -implicitDefEqProofs only [st0,qb,reduceIte,xt0,xt1,d8]
   exact ⟨x1,T1,t1,rx1,tm1,.inr (.inl ⟨trivial,k1⟩)⟩
  ·simp -implicitDefEqProofs only [st0,qb,reduceIte,xt0,xt1,d10]
   refine ⟨x1,T1,t1,rx1,tm1,.inr (.inr ⟨k1.imp (fun h L hL=>?_) (fun h=>by omega),trivial⟩)⟩
   rw [XU,h] at hL
   cases hL
theorem qcQ {dr rb N:Nat} (hN:N≤1000) {x:To} {s:Bs} {m:Mem} (htr:TR x [] m) (hrx:Rx dr rb x m) (hrd:m.get rb=some (rdB s)) (hrl:s.length<2 ^ 62) (hns:x.ns.length≤N) :
  W (Call S tab 29 [.pointer (some ⟨dr,0,none⟩)] m) fun r m'=>∃ x' T',TR x' T' m'∧Tm rb x x' m m' ∧
   ((QV s=some T'∧r=.int .i64 0∧x'.ns.length≤N+20400)∨(r=.int .i64 8∧(12≤s.length∨3 * x.o.P≤2 * s.length))∨(QV s=none∧r=.int .i64 10)):=by
 have hlt:=hrx.lt
 rw [C29]
 simp -implicitDefEqProofs only [st0,qb,reduceIte,nck,fa,hrx.ld.1]
 refine qo.2 ((qhh hrd hlt.2 hrl).mono fun v1 m1 ⟨u1,h1⟩=>?_)
 have rx1:=hrx.next (Tm.rd u1)
 have tr1:=hrx.tr htr u1
 rcases h1 with ⟨c,r,rfl,rfl,k3⟩|⟨rfl,rfl,k3⟩
 ·have hc:=c.toNat_lt
  refine (qcP (B:=(c::r).length) hN (by omega) c.toNat 0 x [] [] r m1 (by omega) rfl tr1 rx1 k3 (by simp at hrl; omega) (by simp) (by omega) (by simp [tot])).mono fun r' m' ⟨x',T',z1,z2,z3,z4⟩=>⟨x',T',z1,(Tm.rd u1).trans z3,?_⟩
  rcases z4 with ⟨L,y1,y2,y3,y4⟩|y|⟨y1,y2⟩
  ·left
   rw [List.nil_append] at y3
   subst y3
   have hl:=z1.va.len
   have:=(QU _ _ _ _ _ y1).1
   have htt:=z1.tot
   refine ⟨?_,y2,by omega⟩
   simp only [QV]
   rw [if_pos (by omega),y1]
  ·exact .inr (.inl y)
  ·refine .inr (.inr ⟨?_,y2⟩)
   simp only [QV]
   split
   ·rename_i h12
    split
    ·rename_i T e
     exact absurd e (y1.resolve_right (by omega) T)
    ·rfl
   ·rfl
 ·obtain ⟨q,e,he,hq⟩:=k3
  have de:decide (e=0)=false:=decide_eq_false he
  rw [P29_0_eq]
  simp -implicitDefEqProofs only [st0,qb,reduceIte,Int.lt_irrefl]
  rw [P29_1_eq]
  simp -implicitDefEqProofs only [st0,qb,reduceIte,nck,fa,rx1.ld.1,qhi hq he,de]
  exact ⟨x,_,tr1,Tm.rd u1,.inr (.inr ⟨rfl,trivial⟩)⟩
end Go.Fx.Tryz
namespace Go.Fx.Tryz
open Go Go.Fx
theorem Sn.tm {x0 x x':To} {s:St} {tc rb:Nat} {m m':Mem} (h:Sn x0 s tc m) (ha:qfz s tc x) (hr:s.pm≠rb∧tc≠rb) (hn:Tm rb x x' m m'):Sn x0 s tc m'∧qfz s tc x':=by
 obtain ⟨k,hk⟩:=h.gs
 have hx:=hn.upd.next
 have hl:=h.lt
 have kp:∀ b,b<m.next→b∉x.fp→b∉x'.fp:=fun b h1 h2 h3=>(hn.grow b h3).elim h2 fun h=>by omega
 have nf:∀ b,b≠rb→b∉x.fp→b∉rb::x.fp:=fun b h1 h2 hm=>(List.mem_cons.1 hm).elim h1 h2
 exact ⟨⟨⟨k,(hn.upd.same _ hl.1 (nf _ hr.1 ha.1.1)).trans hk⟩,(hn.upd.same _ hl.2 (nf _ hr.2 ha.2.1)).trans h.gt,⟨by omega,by omega⟩,h.su,h.sh⟩,⟨kp _ hl.1 ha.1.1,by rw [hn.c]; exact ha.1.2.1,by rw [hn.p]; exact ha.1.2.2.1,by rw [hn.nb]; exact ha.1.2.2.2⟩,kp _ hl.2 ha.2.1,by rw [hn.c]; exact ha.2.2.1,by rw [hn.p]; exact ha.2.2.2.1,by rw [hn.nb]; exact ha.2.2.2.2⟩
section
variable {x:To} {T:List Tb} {m:Mem}
theorem TR.JP (h:TR x T m):∀ b∈x.fp,b<m.next:=fun b hb=>by
 simp only [To.fp,List.mem_cons] at hb
 rcases hb with h'|h'|h'
 ·have:=h.lt; omega
 ·have:=h.lt; omega
 ·exact h.wi.lt b h'
def To.all (x:To):List Nat:=x.fp++qf x.nb
theorem qjp (a b:Nat):qy [.pointer none,.pointer none] [(0,1,.pointer (some ⟨a,0,none⟩)),(1,1,.pointer (some ⟨b,0,none⟩))]=some [.pointer (some ⟨a,0,none⟩),.pointer (some ⟨b,0,none⟩)]:=rfl
theorem HT {s:Bs} (h:TR x [] m) (hns:x.ns.length≤900) (hnn:x.nts.length≤900) (hsl:s.length<2 ^ 62):W (Call S tab 9 [x.v,str s] m) fun r m'=>∃ x' T',TR x' T' m'∧x'.t=x.t∧x'.o.P=x.o.P∧x'.nts.length≤x.nts.length+1∧Upd x.all m m'∧(∀ b∈x'.all,b∈x.all∨m.next≤b)∧x'.o.c=x.o.c∧x'.o.p=x.o.p ∧
  ((QV s=some T'∧r=.int .i64 0∧x'.ns.length≤21400)∨(r=.int .i64 8∧T'=[]∧(12≤s.length∨3 * x.o.P≤2 * s.length))∨(QV s=none∧r=.int .i64 10∧T'=[])):=by
 have d0:decide ((0:Int)=0)=true:=rfl
 have d8:decide ((8:Int)=0)=false:=rfl
 have d10:decide ((10:Int)=0)=false:=rfl
 rw [C9]
 refine qo.2 ((qax h).mono fun r1 m1 ⟨e,u1⟩=>?_)
 subst e
 have h1:=h.qx u1
 simp -implicitDefEqProofs only [st0,qb,reduceIte,d0]
 refine qo.2 ((Jt h1).mono fun nv m2 ⟨tn,nb,u2⟩=>?_)
 have ln:qj nv=some (.int .i64 0):=tn.tsl.len
 have h2:=h1.qx u2
 have u02:=u1.qz u2
 have x2:=u02.next
 simp -implicitDefEqProofs only [st0,qb,reduceIte,ln,Int.lt_irrefl]
 refine qo.2 ((qcD h2 (by omega) (by omega)).mono fun r3 m3 ⟨e,xs,st,tc,trs,sn,aw,s1,s2,s3,s4,s5,s6,s7,s8,s9,s10,s11,u3⟩=>?_)
 subst e
 have hx3:=u3.next
 simp -implicitDefEqProofs only [st0,qb,reduceIte,KZ]
 have u4:Upd [] m3 (m3.add (rdB s)):=Upd.add _ _ _
 have g4:(m3.add (rdB s)).get m3.next=some (rdB s):=Mem.qh ..
 have n4:(m3.add (rdB s)).next=m3.next+1:=rfl
 generalize (m3.add (rdB s))=m4 at u4 g4 n4
 simp -implicitDefEqProofs only [st0,qb,reduceIte,qjp,qR]
 have u5:Upd [] m4 (m4.add ⟨.cells [.pointer (some ⟨m3.next,0,none⟩),.pointer (some ⟨x.t,0,none⟩)] 73,false,none⟩):=Upd.add _ _ _
 have g5:(m4.add ⟨.cells [.pointer (some ⟨m3.next,0,none⟩),.pointer (some ⟨x.t,0,none⟩)] 73,false,none⟩).get m4.next=some ⟨.cells [.pointer (some ⟨m3.next,0,none⟩),.pointer (some ⟨x.t,0,none⟩)] 73,false,none⟩:=Mem.qh ..
 have n5:(m4.add ⟨.cells [.pointer (some ⟨m3.next,0,none⟩),.pointer (some ⟨x.t,0,none⟩)] 73,false,none⟩).next=m4.next+1:=rfl
 have rd5:=qA u5 (by omega) g4
 generalize (m4.add ⟨.cells [.pointer (some ⟨m3.next,0,none⟩),.pointer (some ⟨x.t,0,none⟩)] 73,false,none⟩)=m5 at u5 g5 n5 rd5
 have u35:=u4.qz u5
 have tr5:=trs.qx u35
 have sn5:=sn.qx u35
 have fl:=trs.JP
 have bl:=trs.nb.lt
 have cl:=trs.wi.wr.lc
 have pl:=trs.wi.wr.lp
 have nal:∀ b,m3.next≤b→b∉xs.fp∧b≠xs.o.c∧b≠xs.o.p∧b∉qf xs.nb:=fun b hb=>⟨fun hm=>by have:=fl b hm; omega,by omega,by omega,fun hm=>by have:=bl b hm; omega⟩
 have rx5:Rx m4.next m3.next xs m5:=⟨by rw [s1]; exact g5,⟨by omega,by omega⟩,by omega,nal _ (by omega),nal _ (Nat.le_refl _)⟩
 have snl:=sn.lt
 refine qo.2 ((qcQ (N:=1000) (by omega) tr5 rx5 rd5 hsl (by rw [s2,List.length_append,List.length_singleton]; omega)).mono fun r6 m6 ⟨x',T',tr6,tm6,h6⟩=>?_)
 have hx6:=tm6.upd.next
 have hgrow:∀ b∈x'.all,b∈x.all∨m.next≤b:=fun b hb=>by
  rcases List.mem_append.1 hb with hb|hb
  ·rcases tm6.grow b hb with hb|hb
   ·rcases s10 b hb with hb|hb
    ·exact .inl (List.mem_append.2 (.inl hb))
    ·exact .inr (by omega)
   ·exact .inr (by omega)
  ·rw [tm6.nb] at hb
   rcases s11 b hb with hb|hb
   ·exact .inl (List.mem_append.2 (.inr hb))
   ·exact .inr (by omega)
 have hupd:Upd x.all m m6:=((u02.nil'.trans u3).qz u35).then' tm6.upd fun b hb=>by
  rcases List.mem_cons.1 hb with e|hb
  ·exact .inr (by omega)
  ·rcases s10 b hb with hb|hb
   ·exact .inl (List.mem_append.2 (.inl hb))
   ·exact .inr (by omega)
 have hPP:x'.o.P=x.o.P:=tm6.P.trans s5
 have hcc:x'.o.c=x.o.c:=tm6.c.trans s8
 have hpp:x'.o.p=x.o.p:=tm6.p.trans s9
 obtain ⟨sn6,aw6⟩:=sn5.tm aw ⟨by omega,by omega⟩ tm6
 obtain ⟨rest,hrest⟩:=tm6.pre
 have hns6:x'.ns=x.ns++st::rest:=by rw [← hrest,s2,List.append_assoc]; rfl
 have hnts6:x'.nts=x.nts++(x.ns.length,tc)::[]:=by rw [tm6.nts,s3]
 have back:∀ e:Int,decide (e=0)=false→((e=8∧(12≤s.length∨3 * x.o.P≤2 * s.length))∨(QV s=none∧e=10))→W ((Call S tab 30 [x.v,.int .i64 (x.nts.length:Int)] m6).bind fun p13=>some (.int .i64 e,p13.2)) fun r m'=>∃ x' T',TR x' T' m'∧x'.t=x.t∧x'.o.P=x.o.P∧x'.nts.length≤x.nts.length+1∧Upd x.all m m'∧(∀ b∈x'.all,b∈x.all∨m.next≤b)∧x'.o.c=x.o.c∧x'.o.p=x.o.p ∧
  ((QV s=some T'∧r=.int .i64 0∧x'.ns.length≤21400)∨(r=.int .i64 8∧T'=[]∧(12≤s.length∨3 * x.o.P≤2 * s.length))∨(QV s=none∧r=.int .i64 10∧T'=[])):=fun e de he=>by
  have hb:=qcG h2 tr6 sn6 aw6 hns6 (by omega) hnts6 (by omega) hPP
  rw [show x'.v=x.v by show (Value.pointer (some ⟨x'.t,0,none⟩))=_; rw [tm6.t,s1]] at hb
  refine qo.2 (hb.mono fun r7 m7 ⟨e7,x'',tr7,q1,q2,q3,u7,q4,q5,q6,q7,q8,q9⟩=>zs.2 ⟨x'',[],tr7,by rw [q1,tm6.t,s1],q3,by rw [hnts6] at q5; simpa using q5,hupd.then' u7 fun b hb=>hgrow b (List.mem_append.2 (.inl hb)),fun b hb=>?_,by rw [q8,hcc],by rw [q9,hpp],?_⟩)
  ·rcases List.mem_append.1 hb with hb|hb
   ·rcases q6 b hb with hb|hb
    ·exact hgrow b (List.mem_append.2 (.inl hb))
    ·exact .inr (by omega)
   ·exact hgrow b (List.mem_append.2 (.inr (q7 b hb)))
  ·rcases he with ⟨rfl,he⟩|⟨he,rfl⟩
   ·exact .inr (.inl ⟨rfl,rfl,he⟩)
   ·exact .inr (.inr ⟨he,rfl,rfl⟩)
 rcases h6 with ⟨k1,rfl,k3⟩|⟨rfl,k1⟩|⟨k1,rfl⟩
 ·simp -implicitDefEqProofs only [st0,qb,reduceIte,d0]
  refine ⟨x',T',tr6,by rw [tm6.t,s1],hPP,by rw [hnts6]; simp,hupd,hgrow,hcc,hpp,.inl ⟨k1,trivial,by omega⟩⟩
 ·simp -implicitDefEqProofs only [st0,qb,reduceIte,d8]
  exact back 8 d8 (.inl ⟨rfl,by rw [s5] at k1; exact k1⟩)
 ·simp -implicitDefEqProofs only [st0,qb,reduceIte,d10]
  exact back 10 d10 (.inr ⟨k1,rfl⟩)
end
end Go.Fx.Tryz
namespace Go.Fx.Tryz
open Go Go.Fx
section
variable {x y:To} {T T2:List Tb} {m m' m0:Mem}
theorem TR.beside (h0:TR x T2 m0) (h:TR x T m) {fp:List Nat} (u:Upd fp m m') (hf:∀ b∈fp,m0.next≤b):TR x T m' :=
 h.qhY u fun b hb=>by
  have h1:=hf b hb
  have c:=h0.wi.wr.lc
  have p:=h0.wi.wr.lp
  exact ⟨fun hm=>by have:=h0.JP b hm; omega,by omega,by omega,fun hm=>by have:=h0.nb.lt b hm; omega⟩
theorem qdM (hx:TR x T m) (hy:TR y T2 m):W (Call S tab 17 [x.v,y.v] m) fun r m'=>r=.tuple #[.bool (decide (Jq T=Jq T2)),.int .i64 0]∧Upd [] m m':=by
 have d0:decide ((0:Int)=0)=true:=rfl
 rw [C17]
 refine qo.2 ((yh hx).mono fun r1 m1 ⟨e,u1⟩=>?_)
 subst e
 simp -implicitDefEqProofs only [st0,qb,reduceIte,xt0,xt1,d0]
 refine qo.2 ((yh (hy.qx u1)).mono fun r2 m2 ⟨e,u2⟩=>?_)
 subst e
 simp -implicitDefEqProofs only [st0,qb,reduceIte,xt0,xt1,d0,kI]
 exact ⟨trivial,u1.qz u2⟩
end
theorem qhj (b:Nat):qP .ptr false (.pointer (some ⟨b,0,none⟩)) (.pointer none)=some (.bool false):=rfl
abbrev qaX:Bs:=[1,1,116,0,1,1,97,1,49]
theorem qeP:xD [] [97] [49]=[([97],[49])]:=by decide
theorem qfk:Jq [([116],[([97],[49])])]=qaX:=by decide
theorem qay:QV qaX=some [([116],[([97],[49])])]:=by decide
theorem qbm:xu [116]=true:=by decide
set_option maxRecDepth 4000 in
theorem qdl (m:Mem):W (Call S tab 7 [] m) fun r m'=>r=.bool true∧Upd [] m m':=by
 have d0:decide ((0:Int)=0)=true:=rfl
 rw [C7]
 have hb:∀ m:Mem,W (Call S tab 8 [.int .i64 10] m) _:=fun m=>Yf (n:=10) (by omega) (by omega) m
 refine qo.2 ((hb m).mono fun r1 m1 ⟨x,tr1,e,ns1,nts1,ts1,nb1,P1,fp1,c1,p1,u1⟩=>?_)
 subst e
 have hx1:=u1.next
 simp -implicitDefEqProofs only [st0,qb,reduceIte,qhj]
 have hmk:W (Call S tab 20 [x.v,.string ⟨#[116]⟩] m1) _:=VN tr1 [116]
 refine qo.2 (qo.2 (hmk.mono fun r2 m2 hq=>?_))
 rcases hq with ⟨n1,_⟩|⟨_,⟨t,ht,_⟩,_⟩|⟨_,_,n3,_⟩|⟨_,_,_,rfl,x2,tr2,tn2,ns2,pg2,ts2⟩
 ·rw [qbm] at n1; cases n1
 ·rw [ts1] at ht; cases ht
 ·simp at n3
 rw [ts1,List.nil_append] at ts2
 have pg2:x2.xA=[]:=by rw [pg2]; unfold To.xA; rw [ts1]; rfl
 have tr2:TR x2 [([116],[])] m2:=tr2
 have v2:x2.v=x.v:=by show (Value.pointer (some ⟨x2.t,0,none⟩))=_; rw [tn2.t]
 have P2:x2.o.P=10:=by rw [tn2.P,P1]
 simp -implicitDefEqProofs only [st0,qb,reduceIte,d0]
 have hpt:=HF tr2 (by rw [ns2,ns1]; simp) (a:=[]) (b:=[]) (q:=⟨[116],0,[],[],x.K⟩) (by rw [ts2]; rfl) [97] [49]
 rw [v2] at hpt
 have hpt:W (Call S tab 21 [x.v,.string ⟨#[116]⟩,.string ⟨#[97]⟩,.string ⟨#[49]⟩] m2) _:=hpt
 refine qo.2 (qo.2 (hpt.mono fun r3 m3 hq=>?_))
 rcases hq with ⟨x3,tr3,tn3,_,⟨n1,rfl⟩|⟨n1,n2,rfl⟩⟩|⟨n1,rfl,x3,rt,U,tr3,tn3,_⟩
 ·exact absurd ⟨⟨by decide,by decide⟩,by decide⟩ n1
 ·rcases n2 with ⟨_,n2⟩|⟨n2,_⟩
  ·have:=tr2.full n2
   rw [pg2,P2] at this
   simp at this
  ·exact absurd rfl n2
 have tr3:TR x3 (QC [([116],[])] [116] (xD [] [97] [49])) m3:=tr3
 rw [qeP] at tr3
 have tr3:TR x3 [([116],[([97],[49])])] m3:=tr3
 have v3:x3.v=x.v:=by rw [← v2]; show (Value.pointer (some ⟨x3.t,0,none⟩))=_; rw [tn3.t]
 simp -implicitDefEqProofs only [st0,qb,reduceIte,d0]
 have u13:Upd x.fp m1 m3:=tn2.upd.then' tn3.upd fun b hb=>by
  simp only [To.fp,List.mem_cons,tn2.t,tn2.tm] at hb ⊢
  rcases hb with h|h|h
  ·simp [h]
  ·simp [h]
  ·exact (tn2.grow b h).imp (fun h=>.inr (.inr h)) id
 have u03:Upd [] m m3:=u1.then' u13 fun b hb=>.inr (fp1 b hb)
 have hx3:=u03.next
 have hw:=yh tr3
 rw [v3,qfk] at hw
 refine qo.2 (hw.mono fun r4 m4 ⟨e,u4⟩=>?_)
 subst e
 have tr4:=tr3.qx u4
 simp -implicitDefEqProofs only [st0,qb,reduceIte,xt0,xt1,d0]
 refine qo.2 ((hb m4).mono fun r5 m5 ⟨y,tr5,e,ns5,nts5,ts5,nb5,P5,fp5,c5,p5,u5⟩=>?_)
 subst e
 have hx4:=u4.next
 have hx5:=u5.next
 have trx5:=tr4.qx u5
 have hrd:W (Call S tab 9 [y.v,.string ⟨#[1,1,116,0,1,1,97,1,49]⟩] m5) _:=HT (s:=qaX) tr5 (by rw [ns5]; simp) (by rw [nts5]; simp) (by decide)
 refine qo.2 (hrd.mono fun r6 m6 ⟨y6,T6,tr6,t6,P6,_,u6,_,_,_,hq⟩=>?_)
 have all5:∀ b∈y.all,m4.next≤b:=fun b hb=>by
  rcases List.mem_append.1 hb with hb|hb
  ·exact fp5 b hb
  ·rw [nb5] at hb; simp [qf] at hb
 have trx6:=tr4.beside trx5 u6 all5
 rcases hq with ⟨k1,rfl,_⟩|⟨rfl,_,k2⟩|⟨k1,_⟩
 ·rw [qay] at k1
  cases k1
  have hs:=qdM trx6 tr6
  rw [v3,show y6.v=y.v by show (Value.pointer (some ⟨y6.t,0,none⟩))=_; rw [t6]] at hs
  refine qo.2 (hs.mono fun r7 m7 ⟨e,u7⟩=>?_)
  subst e
  have dt:decide (Jq [([116],[([97],[49])])]=Jq [([116],[([97],[49])])])=true:=decide_eq_true rfl
  have eqs:arith .eql (str qaX) (.string ⟨#[1,1,116,0,1,1,97,1,49]⟩)=some (.bool true):=(kI qaX qaX).trans (by rfl)
  simp -implicitDefEqProofs only [st0,qb,reduceIte,xt0,xt1,d0,dt,eqs]
  exact ⟨trivial,(((u03.qz u4).qz u5).then' u6 fun b hb=>.inr (by have:=all5 b hb; omega)).qz u7⟩
 ·rw [P5] at k2
  simp at k2
 ·rw [qay] at k1; cases k1
theorem qeQ (s:Bs) (hs:s.length<2 ^ 62) (m:Mem):W (Call S tab 3 [str s] m) fun r _=>r=.bool true:=by
 have d0:decide ((0:Int)=0)=true:=rfl
 have d8:decide ((8:Int)=0)=false:=rfl
 have d10:decide ((10:Int)=0)=false:=rfl
 rw [C3]
 refine qo.2 ((qdl m).mono fun r1 m1 ⟨e,u1⟩=>?_)
 subst e
 simp -implicitDefEqProofs only [st0,qb,reduceIte]
 have hb:W (Call S tab 8 [.int .i64 160] m1) _:=Yf (n:=160) (by omega) (by omega) m1
 refine qo.2 (hb.mono fun r2 m2 ⟨x,tr2,e,ns2,nts2,ts2,nb2,P2,fp2,c2,p2,u2⟩=>?_)
 subst e
 refine qo.2 ((HT tr2 (by rw [ns2]; simp) (by rw [nts2]; simp) hs).mono fun r3 m3 ⟨x3,T3,tr3,t3,_,_,_,_,_,_,hq⟩=>?_)
 rcases hq with ⟨k1,rfl,_⟩|⟨rfl,_,k2⟩|⟨k1,rfl,_⟩
 ·have he:=(qdN.1 k1).2
  have hw:=yh tr3
  rw [show x3.v=x.v by show (Value.pointer (some ⟨x3.t,0,none⟩))=_; rw [t3],he] at hw
  have ds:decide (s=s)=true:=decide_eq_true rfl
  simp -implicitDefEqProofs only [st0,qb,reduceIte,d0]
  refine qo.2 (hw.mono fun r4 m4 ⟨e,u4⟩=>?_)
  subst e
  simp -implicitDefEqProofs only [st0,qb,reduceIte,xt0,xt1,d0,kI,ds]
 ·simp -implicitDefEqProofs only [st0,qb,reduceIte,d8]
 ·simp -implicitDefEqProofs only [st0,qb,reduceIte,d10]
theorem onlyLaw' {s:ByteArray} (hs:s.size≤140737488351232) (m:Mem):∃ m',Call S tab 3 [.string s] m=some (.bool true,m'):=by
 have h2:s.data.toList.length=s.size:=Array.length_toList
 obtain ⟨r,m',e,hr⟩:=qeQ s.data.toList (by omega) m
 subst hr
 rw [← str_eta] at e
 exact ⟨m',e⟩
end Go.Fx.Tryz
