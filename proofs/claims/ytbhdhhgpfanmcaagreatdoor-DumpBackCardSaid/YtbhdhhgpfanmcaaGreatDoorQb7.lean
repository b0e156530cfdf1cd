/- Parts of a proof: FxDraw3. Conditions: none. -/
import Derived.Test.YtbhdhhgpfanmcaaGreatDoorQb6
namespace Go.Fx
open Go
section
variable {P:Program} {call:zi} {ops:Array Oper} {al:List AOper} {E:Nat->List Nat} {lo hi:Nat->Nat} {ms:List Mem} {ts0:List Value} {T:Nat->List Value} {V:Nat->Value}
def isL (qn:Array Bool) (i:Nat):Bool:=qn.getD i false
structure J (P:Program) (al:List AOper) (E:Nat->List Nat) (ms:List Mem) (ts0:List Value) (V:Nat->Value) (φ0:Ren) (m0:Mem) (w0:World) (a0:Act) (qn:Array Bool) (a:Act) (w:World):Prop where
 sz:qn.size=al.length
 closed:∀ x,isL qn x=true->∀ e∈E x,isL qn e=true
 st:∃ φ ts M,VRs φ ts a.tmps.toList/\Inv φ M w/\Frm φ0 m0 w0 φ M w/\ms[cnt al (isL qn)]? = some M/\a.defers=a0.defers/\Fr al V ts0 (isL qn) ts
theorem WB {qn:Array Bool} {i:Nat} (hi:i<qn.size) (j:Nat):isL (qn.setIfInBounds i true) j=true↔j=i∨isL qn j=true:=by
 unfold isL;simp only [Array.getD_eq_getD_getElem?,Array.getElem?_setIfInBounds];by_cases h:i=j
 ·subst h; simp [hi]
 ·simp [h,Ne.symm h]
theorem yM {qn:Array Bool} {i:Nat} (h:qn.getD i true=false):isL qn i=false:=by
 unfold isL;rcases Nat.lt_or_ge i qn.size with h'|h'
 ·simp [h'] at h ⊢; exact h
 ·simp [Array.getElem?_eq_none h'] at h ⊢
theorem Rg.step {ro:Option Nat} (hc:CallOk P call) (hg:∀ f args m r,f<yBase->call f args m=some r->zW P f=true) (R:Rg P call ops al E lo hi ms ts0 T V) {φ0:Ren} {m0:Mem} {w0:World} {a0 a:Act} {w:World} {qn:Array Bool}
  (h:J P al E ms ts0 V φ0 m0 w0 a0 qn a w) {i:Nat} (hr:i∈Region.ready .any ops qn) {K:Act->World->Prop} {Q:Exit->Act->World->Prop} (hK:∀ a' w',J P al E ms ts0 V φ0 m0 w0 a0 (qn.setIfInBounds i true) a' w'->K a' w'):wpOpIn (rf ro) 0 P ops Q i K a w:=by
 obtain ⟨hi1,hi2,o,ho,hedge⟩:=kz hr;obtain ⟨p,hp,hpd,hpr,hpg⟩:=R.op i o ho;have hLi:=yM hi2;have hEl:∀ e∈E i,isL qn e=true:=by
  intro e he;rw [R.edges i o ho] at he;simp only [zR,List.mem_filterMap] at he;obtain ⟨x,hx,hxe⟩:=he;split at hxe
  ·rename_i hb;cases hxe
   exact hedge x (by simpa using hx) hb
  ·cases hxe
 obtain ⟨φ,ts,M,hvr,hinv,hfrm,hms,hdef,hfr⟩:=h.st;have hag:=R.agree hfr h.closed hp hLi hEl;have hagS:jT p.op.kY ts (T i):=λt ht=>hag t (by simp [AOper.looks,ht])
 have hsz:i<qn.size:=by rw [h.sz,R.len]; exact hi1
 have hset:=WB hsz;have hclosed':∀ x,isL (qn.setIfInBounds i true) x=true->∀ e∈E x,isL (qn.setIfInBounds i true) e=true:=by
  intro x hx e he;rcases (hset x).1 hx with rfl|hx
  ·exact (hset e).2 (.inr (hEl e he))
  ·exact (hset e).2 (.inr (h.closed x hx e he))
 have hcnt:=qhY al hp hLi hset;have hwantT:zg ts p.guard=zg (T i) p.guard:=by
  cases hgd:p.guard with
  | none=>rfl
  | some g =>
   obtain ⟨t,want⟩:=g;have:ts[t]? = (T i)[t]?:=hag t (by simp [AOper.looks,hgd]);simp [zg,this]
 have hw:Region.wanted o (yielded ops a.tmps)=zg (T i) p.guard:=by rw [<- hwantT]; exact Zv hvr hpg
 have fin:∀ (V':Value) (w':World) (φ':Ren) (M':Mem),VR φ' (V i) V'->Inv φ' M' w'->Frm φ M w φ' M' w'->ms[cnt al (isL (qn.setIfInBounds i true))]? = some M'->K (a.put o.dst V') w':=by
  intro V' w' φ' M' h1 h2 h3 h4;refine hK _ _ ⟨by rw [Array.size_setIfInBounds]; exact h.sz,hclosed',φ',xX ts p.dst (V i),M',?_,h2,hfrm.trans h3,h4,by rw [put_defers,hdef],hfr.put R hp hset⟩;rw [<- hpd];exact XJ (hvr.mono h3.ren) p.dst h1
 unfold wpOpIn;rw [ho];simp only;rw [hw];cases hwant:zg (T i) p.guard with
 | false =>
  simp only [Bool.false_eq_true,if_false];refine ⟨λ_ _=>trivial,?_⟩;obtain ⟨hV,hM⟩:=R.idle i p hp hwant;have hVu:VR φ (V i) undef:=by rw [hV]; exact VR.undef φ
  refine fin undef w φ M hVu hinv (Frm.refl φ M w) ?_;rw [hcnt];by_cases he:qN p=true
  ·rw [if_pos he];obtain ⟨M1,hM1,hM2⟩:=hM (by simpa [qN] using he);have hce:=R.qcx h.closed (λx hx=>by
    rcases Nat.lt_or_ge x qn.size with h'|h'
    ·rw [<- h.sz]; exact h'
    ·simp [isL,Array.getElem?_eq_none h'] at hx) hp he hLi hEl
   rw [hce] at hms ⊢;rw [hms] at hM1; cases hM1
   exact hM2
  ·rw [if_neg he]; exact hms
 | true =>
  simp only [if_true];cases hcl:p.op.cls with
  | eff =>
   obtain ⟨M1,M2,hM1,hM2,hs⟩:=R.eff i p hp hwant hcl;have he:qN p=true:=by simp [qN,hcl]
   have hce:=R.qcx h.closed (λx hx=>by
    rcases Nat.lt_or_ge x qn.size with h'|h'
    ·rw [<- h.sz]; exact h'
    ·simp [isL,Array.getElem?_eq_none h'] at hx) hp he hLi hEl
   rw [hce] at hms;rw [hms] at hM1; cases hM1
   rw [<- jq call M hagS] at hs;refine je hc hg hpr hinv hvr hs ?_;intro V' w' φ' h1 h2 h3;refine fin V' w' φ' M2 h1 h2 h3 ?_;rw [hcnt,if_pos he,hce];exact hM2
  | read =>
   have he:qN p=false:=by simp [qN,hcl]
   obtain ⟨q,hq,hall⟩:=R.read i p hp hwant hcl;have hlo:=R.lo_le i (isL qn) (λj hj=>hj.qn (L:=λx=>isL qn x=true) h.closed hEl);have hhi:=R.le_hi i (isL qn) (λj hj ha=>by
    have:=ha.qn (L:=λx=>isL qn x=true) h.closed (h.closed j hj);rw [hLi] at this; cases this)
   obtain ⟨M1,hM1,hrun⟩:=hall _ hlo hhi;rw [hms] at hM1; cases hM1
   rw [<- yC hagS] at hq;have hs:zA call ts M p.op=some (V i,M):=by rw [zH call ts M (Qi hq)]; exact Qc hq hrun
   refine je hc hg hpr hinv hvr hs ?_;intro V' w' φ' h1 h2 h3;refine fin V' w' φ' M h1 h2 h3 ?_;rw [hcnt,if_neg (by simp [he])]; exact hms
  | pure =>
   have he:qN p=false:=by simp [qN,hcl]
   have hall:=R.pure i p hp hwant hcl M;have hnc:p.op.vy=false:=by
    cases hop:p.op<;>rw [hop] at hcl<;>first|rfl|simp [AOp.cls] at hcl
   have hs:zA call ts M p.op=some (V i,M):=by rw [jq call M hagS,zH call _ M hnc]; exact hall
   refine je hc hg hpr hinv hvr hs ?_;intro V' w' φ' h1 h2 h3;refine fin V' w' φ' M h1 h2 h3 ?_;rw [hcnt,if_neg (by simp [he])]; exact hms
def left (qn:Array Bool) (n:Nat):Nat:=((List.range n).filter λi=>!isL qn i).length
theorem Hu {qn:Array Bool} {i n:Nat} (hi:i<qn.size) (hn:i<n) (hl:isL qn i=false):left (qn.setIfInBounds i true) n+1=left qn n:=by
 unfold left;have hset:=WB hi;have key:∀ (l:List Nat),l.Nodup->(l.filter λj=>!isL (qn.setIfInBounds i true) j).length+(if i∈l then 1 else 0)=(l.filter λj=>!isL qn j).length:=by
  intro l
  induction l with
  | nil=>intro _; rfl
  | cons x l ih =>
   intro hnd;rw [List.nodup_cons] at hnd;have:=ih hnd.2;simp only [List.filter_cons,List.mem_cons];by_cases hx:x=i
   ·subst hx;have h1:isL (qn.setIfInBounds x true) x=true:=(hset x).2 (.inl rfl);rw [if_neg hnd.1] at this;simp only [h1,hl,Bool.not_true,Bool.not_false,Bool.false_eq_true,if_false,if_true,true_or,List.length_cons];omega
   ·have h1:isL (qn.setIfInBounds i true) x=isL qn x:=by
     rw [Bool.eq_iff_iff,hset x]; simp [hx]
    simp only [h1,Ne.symm hx,false_or];cases isL qn x<;>simp<;>omega
 have:=key _ (List.nodup_range (n:=n));simpa [hn] using this
theorem Rg.any {ro:Option Nat} (hc:CallOk P call) (hg:∀ f args m r,f<yBase->call f args m=some r->zW P f=true) (R:Rg P call ops al E lo hi ms ts0 T V) {φ0:Ren} {m0:Mem} {w0:World} {a0:Act} {Q:Exit->Act->World->Prop}
  (hQ:∀ φ a w M,VRs φ (T al.length) a.tmps.toList->ms[zn al al.length]? = some M->Inv φ M w->Frm φ0 m0 w0 φ M w->a.defers=a0.defers->Q .normal a w) :
  ∀ (fuel:Nat) (qn:Array Bool) (a:Act) (w:World),left qn al.length=fuel->J P al E ms ts0 V φ0 m0 w0 a0 qn a w->wpAnyIn (rf ro) 0 P .any ops Q fuel qn a w:=by
 have done:∀ (qn:Array Bool) (a:Act) (w:World),left qn al.length=0->J P al E ms ts0 V φ0 m0 w0 a0 qn a w->Region.ready .any ops qn=[]/\Q .normal a w:=by
  intro qn a w h0 h;have hall:∀ i,i<al.length->isL qn i=true:=by
   intro i hi;unfold left at h0;have:=List.length_eq_zero_iff.1 h0;rw [List.filter_eq_nil_iff] at this;simpa using this i (by simpa using hi)
  refine ⟨?_,?_⟩
  ·apply List.eq_nil_iff_forall_not_mem.2;intro i hr;obtain ⟨hi1,hi2,_⟩:=kz hr;have:=hall i (by rw [R.len]; exact hi1);rw [yM hi2] at this; cases this
  ·obtain ⟨φ,ts,M,hvr,hinv,hfrm,hms,hdef,f1,f2,f3⟩:=h.st;obtain ⟨g1,g2,g3⟩:=R.fr al.length (Nat.le_refl _);have hLt:∀ i,isL qn i=true->i<al.length:=by
    intro i hi;rcases Nat.lt_or_ge i qn.size with h'|h'
    ·rw [<- h.sz]; exact h'
    ·simp [isL,Array.getElem?_eq_none h'] at hi
   have hts:ts=T al.length:=by
    apply List.ext_getElem?;intro d;by_cases hlt:d<ts0.length
    ·by_cases hex:∃ j,xx al j=some d
     ·obtain ⟨j,hj⟩:=hex;have hjl:j<al.length:=by
       rcases Nat.lt_or_ge j al.length with h'|h'
       ·exact h'
       ·simp [xx,List.getElem?_eq_none h'] at hj
      rw [f2 j d (hall j hjl) hj hlt,g2 j d (by simpa using hjl) hj hlt]
     ·rw [f3 d (λk _ hk=>hex ⟨k,hk⟩),g3 d (λk _ hk=>hex ⟨k,hk⟩)]
    ·rw [List.getElem?_eq_none (by omega),List.getElem?_eq_none (by omega)]
   have hcnt:cnt al (isL qn)=zn al al.length:=by
    rw [effN_eq];unfold cnt;refine filter_eq _ λj hj=>?_
    have hj':j<al.length:=by simpa using hj
    simp [hall j hj',hj']
   rw [hcnt] at hms;exact hQ φ a w M (hts ▸ hvr) hms hinv hfrm hdef
 intro fuel
 induction fuel with
 | zero=>intro qn a w h0 h; exact done qn a w h0 h
 | succ fuel ih =>
  intro qn a w hf h;refine ⟨λhnil=>?_,λi hr=>?_⟩
  ·exfalso;have hex:∃ i,i<al.length/\isL qn i=false/\∀ j,j<i->isL qn j=true:=by
    have hne:∃ i,i<al.length/\isL qn i=false:=by
     unfold left at hf;cases hl:(List.range al.length).filter (λi=>!isL qn i) with
     | nil=>rw [hl] at hf; simp at hf
     | cons x l =>
      have:x∈(List.range al.length).filter (λi=>!isL qn i):=by rw [hl]; exact List.mem_cons_self ..
      simp only [List.mem_filter,List.mem_range,Bool.not_eq_true'] at this;exact ⟨x,this⟩
    obtain ⟨i,h1,h2⟩:=hne
    induction i using Nat.strongRecOn with
    | _ i ihi =>
     by_cases hm:∀ j,j<i->isL qn j=true
     ·exact ⟨i,h1,h2,hm⟩
     ·have:∃ j,j<i/\isL qn j=false:=by
       apply Classical.byContradiction;intro hn;apply hm;intro j hj;cases hh:isL qn j with
       | true=>rfl
       | false=>exact absurd ⟨j,hj,hh⟩ hn
      obtain ⟨j,hj,hj2⟩:=this;exact ihi j hj (by omega) hj2
   obtain ⟨i,h1,h2,h3⟩:=hex;have hi1:i<ops.size:=by rw [<- R.len]; exact h1
   have ho:ops[i]? = some ops[i]:=Array.getElem?_eq_getElem hi1;have hmem:i∈Region.ready .any ops qn:=by
    refine Hi ho ?_ (λe he hb=>?_)
    ·have:i<qn.size:=by rw [h.sz]; exact h1
     unfold isL at h2;simp [this] at h2 ⊢; exact h2
    ·have hmemE:e.on∈E i:=by
      rw [R.edges i _ ho];simp only [zR,List.mem_filterMap];exact ⟨e,by simpa using he,by rw [if_pos hb]⟩
     exact h3 e.on (R.lt i e.on hmemE)
   rw [hnil] at hmem; cases hmem
  ·have hi:=kz hr;refine R.step hc hg h hr (λa' w' h'=>ih _ a' w' ?_ h');have:=Hu (n:=al.length) (qn:=qn) (i:=i) (by rw [h.sz,R.len]; exact hi.1) (by rw [R.len]; exact hi.1) (yM hi.2.1);omega
end
theorem Jq {ro:Option Nat} {P:Program} {call:zi} (hc:CallOk P call) (hg:∀ f args m r,f<yBase->call f args m=some r->zW P f=true) (hm:P.follows .mixedOrders=true) {id:Nat} {ops:Array Oper} {al:List AOper} {ts:List Value} {m:Mem} {a:Act} {w:World} {φ:Ren} {ts':List Value} {m':Mem} {Q:Exit->Act->World->Prop}
  (hal:jY P ops ops.toList=some al) (hd:dOk (ops.toList.map zR) al=true) (hi:Inv φ m w) (ht:VRs φ ts a.tmps.toList) (hr:kN call al (wT (ops.toList.map zR) al) ts m=some (ts',m'))
  (hQ:∀ a' w',St φ m w a ts' m' a' w'->Q .normal a' w'):(Code.region id ops true).wpIn (rf ro) 0 P Q a w:=by
 simp only [kN,Option.bind_eq_some_iff] at hr;obtain ⟨⟨ts1,m1,ms,rq⟩,htr,hr⟩:=hr;split at hr
 ·rename_i hok;cases hr
  obtain ⟨T,V,hT0,hTn,hms0,hmsn,hfact⟩:=facts call al _ ts m _ _ ms rq htr;obtain ⟨hlen,hops⟩:=yq hal;have hlen':al.length=ops.size:=by rw [hlen]; simp
  generalize hes:ops.toList.map zR=es at hd htr hfact;have hesl:es.length=al.length:=by rw [<- hes,hlen']; simp
  have hE:∀ (i:Nat) o,ops[i]? = some o->es[i]?.getD []=zR o:=by
   intro i o ho;rw [<- hes]; simp [ho]
  have hEn:∀ (i:Nat),al.length<=i->es[i]?.getD []=[]:=by
   intro i hi;rw [List.getElem?_eq_none (by omega)]; rfl
  have hanc:∀ i k,(xw es)[i]? = some k->∀ j,k.testBit j=true->Anc (λi=>es[i]?.getD []) i j :=
   Vi (λi=>es[i]?.getD []) es [] (λi x hx=>by simp [hx]) (λi k h=>by simp at h)
  have hanc':∀ i j,((xw es)[i]?.getD 0).testBit j=true->Anc (λi=>es[i]?.getD []) i j:=by
   intro i j h;cases hk:(xw es)[i]? with
   | none=>rw [hk] at h; simp at h
   | some k=>rw [hk] at h; exact hanc i k hk j h
  unfold dOk at hd;simp only [List.all_eq_true,List.mem_range,Bool.and_eq_true,Bool.or_eq_true,beq_iff_eq,decide_eq_true_eq] at hd;have hlt:∀ (i e:Nat),e∈es[i]?.getD []->e<i:=by
   intro i e he;rcases Nat.lt_or_ge i al.length with h'|h'
   ·exact (hd i h').1 e he
   ·rw [hEn i h'] at he; cases he
  have hpair:∀ (i j:Nat) (o p:AOper),i≠j->al[i]? = some o->al[j]? = some p->Wt (xw es) o p i j=true:=by
   intro i j o p hij ho hp;have hi:i<al.length:=by
    rcases Nat.lt_or_ge i al.length with h|h
    ·exact h
    ·rw [List.getElem?_eq_none h] at ho; cases ho
   have hj:j<al.length:=by
    rcases Nat.lt_or_ge j al.length with h|h
    ·exact h
    ·rw [List.getElem?_eq_none h] at hp; cases hp
   rcases (hd i hi).2 j hj with h|h
   ·exact absurd h hij
   ·rw [ho,hp] at h; exact h
  have R:Rg P call ops al (λi=>es[i]?.getD []) (λi=>(wT es al)[i]?.getD (0,0) |>.1) (λi=>if i<al.length then ((wT es al)[i]?.getD (0,0)).2 else al.length) ms ts T V:=by
   have hdl:∀ i,i<al.length->(wT es al)[i]?.getD (0,0)=Wy (al.map qN) (xw es) i:=by
    intro i hi; simp [wT,hi]
   refine ⟨hlen',λi o ho=>hops i o (by simpa using ho),λi o ho=>hE i o ho,hlt,λi j o p t hij ho hp hpt=>?_,λi j o p hij ho hp hoe hpe=>?_,λi L hL=>?_,λi L hL=>?_,hT0,λi o ho=>(hfact i o ho).1,λi o ho hw hcl=>?_,λi o ho hw hcl=>?_,λi o ho hw hcl=>?_,λi o ho hw=>?_⟩
   ·have:=hpair i j o p hij ho hp;simp only [Wt,hpt,Bool.and_eq_true,Bool.or_eq_true,Bool.not_eq_true',bne_iff_ne,ne_eq] at this;refine ⟨λhmem=>?_,this.1.2⟩;rcases this.1.1 with (h|h)|h
    ·rw [List.contains_eq_mem] at h; simp [hmem] at h
    ·exact .inl (hanc' i j h)
    ·exact .inr (hanc' j i h)
   ·have:=hpair i j o p hij ho hp;simp only [Wt,Bool.and_eq_true,Bool.or_eq_true,Bool.not_eq_true',Bool.and_eq_false_iff] at this;rcases this.2 with (h|h)|h
    ·rcases h with h|h
     ·rw [hoe] at h; cases h
     ·rw [hpe] at h; cases h
    ·exact .inl (hanc' i j h)
    ·exact .inr (hanc' j i h)
   ·rcases Nat.lt_or_ge i al.length with hi|hi
    ·rw [hdl i hi];unfold cnt;simp only [Wy,List.length_map];refine filter_le _ λj hj hp=>?_
     simp only [Bool.and_eq_true] at hp ⊢;exact ⟨hp.1,hL j (hanc' i j hp.2)⟩
    ·have:(wT es al)[i]? = none:=List.getElem?_eq_none (by simp [wT]; omega);simp [this]
   ·rcases Nat.lt_or_ge i al.length with hi|hi
    ·rw [if_pos hi,hdl i hi];unfold cnt;simp only [Wy,List.length_map];refine filter_le _ λj hj hp=>?_
     simp only [Bool.and_eq_true,Bool.not_eq_true'] at hp ⊢;refine ⟨hp.1,?_⟩;cases hh:((xw es)[j]?.getD 0).testBit i with
     | false=>rfl
     | true=>exact absurd (hanc' j i hh) (hL j hp.2)
    ·rw [if_neg (by omega)];unfold cnt;have:=List.length_filter_le (λj=>((al.map qN)[j]?.getD false)&&L j) (List.range al.length);simpa using this
   ·rcases (hfact i o ho).2 with ⟨_,h2,_,_⟩|⟨h1,_⟩
    ·exact h2 hcl
    ·rw [hw] at h1; cases h1
   ·rcases (hfact i o ho).2 with ⟨_,_,h3,_⟩|⟨h1,_⟩
    ·obtain ⟨q,hq,hmem⟩:=h3 hcl;refine ⟨q,hq,λk hk1 hk2=>?_⟩;have hi:i<al.length:=by
      rcases Nat.lt_or_ge i al.length with h|h
      ·exact h
      ·rw [List.getElem?_eq_none h] at ho; cases ho
     rw [if_pos hi] at hk2;have:=List.all_eq_true.1 hok _ hmem;simp only [wR,List.all_eq_true,List.mem_range] at this;have hk:=this (k - ((wT es al)[i]?.getD (0,0)).1) (by omega);rw [show ((wT es al)[i]?.getD (0,0)).1+(k - ((wT es al)[i]?.getD (0,0)).1)=k by omega] at hk;split at hk
     ·rename_i M hM;split at hk
      ·rename_i u hu;have:=veq_eq _ _ hk;subst this;exact ⟨M,hM,hu⟩
      ·cases hk
     ·cases hk
    ·rw [hw] at h1; cases h1
   ·rcases (hfact i o ho).2 with ⟨_,_,_,h4⟩|⟨h1,_⟩
    ·exact h4 hcl
    ·rw [hw] at h1; cases h1
   ·rcases (hfact i o ho).2 with ⟨h1,_⟩|⟨_,h2,h3⟩
    ·rw [hw] at h1; cases h1
    ·exact ⟨h2,h3⟩
  refine wpIn_region_any hm ?_;have hleft:left (Array.replicate ops.size false) al.length=ops.size:=by
   unfold left;have:(List.range al.length).filter (λi=>!isL (Array.replicate ops.size false) i)=List.range al.length:=by
    rw [List.filter_eq_self];intro i hi;have hi':i<ops.size:=by rw [<- hlen']; simpa using hi
    simp [isL,hi']
   rw [this,List.length_range,hlen']
  refine R.any (φ0:=φ) (m0:=m) (w0:=w) (a0:=a) hc hg (λφ' a' w' M h1 h2 h3 h4 h5=>?_) ops.size _ a _ hleft ?_
  ·rw [hTn] at h1;rw [hmsn] at h2; cases h2
   exact hQ a' w' ⟨φ',h1,h3,h4,h5⟩
  ·have hnone:∀ i,isL (Array.replicate ops.size false) i=false:=by
    intro i;unfold isL;rcases Nat.lt_or_ge i ops.size with h|h
    ·simp [h]
    ·simp [h]
   refine ⟨by simp [hlen'],(λx hx=>absurd hx (by rw [hnone x]; decide)),φ,ts,m,ht,hi.drawn rfl,Frm.drawn rfl rfl rfl rfl,?_,rfl,rfl,(λi d h=>absurd h (by rw [hnone i]; decide)),λd _=>rfl⟩;have:cnt al (isL (Array.replicate ops.size false))=0:=by
    unfold cnt;rw [List.length_eq_zero_iff,List.filter_eq_nil_iff];intro i _;simp [hnone i]
   rw [this]; exact hms0
 ·cases hr
end Go.Fx
