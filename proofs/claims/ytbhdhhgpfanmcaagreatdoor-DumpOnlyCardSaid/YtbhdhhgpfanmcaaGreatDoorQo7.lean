/- Parts of a proof: FxDraw3. Conditions: none. -/
import Derived.Test.YtbhdhhgpfanmcaaGreatDoorQo6
set_option linter.unusedSimpArgs false
set_option linter.unusedVariables false
namespace Go.Fx
open Go
section
variable {P:Program} {call:qZ} {ops:Array Oper} {al:List AOper} {E:Nat→List Nat} {lo hi:Nat→Nat} {ms:List Mem} {ts0:List Value} {T:Nat→List Value} {V:Nat→Value}
def isL (qn:Array Bool) (i:Nat):Bool:=qn.getD i false
structure J (P:Program) (al:List AOper) (E:Nat→List Nat) (ms:List Mem) (ts0:List Value) (V:Nat→Value) (φ0:Ren) (m0:Mem) (w0:World) (a0:Act) (qn:Array Bool) (a:Act) (w:World):Prop where
 sz:qn.size=al.length
 closed:∀ x,isL qn x=true→∀ e∈E x,isL qn e=true
 st:∃ φ ts M,VRs φ ts a.tmps.toList∧Inv φ M w∧Frm φ0 m0 w0 φ M w∧ms[cnt al (isL qn)]? = some M∧a.defers=a0.defers∧Fr al V ts0 (isL qn) ts
theorem KV {qn:Array Bool} {i:Nat} (hi:i<qn.size) (j:Nat):isL (qn.setIfInBounds i true) j=true↔j=i∨isL qn j=true:=by
 unfold isL
 simp only [Array.getD_eq_getD_getElem?,Array.getElem?_setIfInBounds]
 by_cases h:i=j
 ·subst h; simp [hi]
 ·simp [h,Ne.symm h]
theorem yc {qn:Array Bool} {i:Nat} (h:qn.getD i true=false):isL qn i=false:=by
 unfold isL
 rcases Nat.lt_or_ge i qn.size with h'|h'
 ·simp [h'] at h ⊢; exact h
 ·simp [Array.getElem?_eq_none h'] at h ⊢
theorem Rg.step {ro:Option Nat} (hc:CallOk P call) (hg:∀ f args m r,f<yBase→call f args m=some r→zL P f=true) (R:Rg P call ops al E lo hi ms ts0 T V) {φ0:Ren} {m0:Mem} {w0:World} {a0 a:Act} {w:World} {qn:Array Bool}
  (h:J P al E ms ts0 V φ0 m0 w0 a0 qn a w) {i:Nat} (hr:i∈Region.ready .any ops qn) {K:Act→World→Prop} {Q:Exit→Act→World→Prop} (hK:∀ a' w',J P al E ms ts0 V φ0 m0 w0 a0 (qn.setIfInBounds i true) a' w'→K a' w'):wpOpIn (rf ro) 0 P ops Q i K a w:=by
 obtain ⟨hi1,hi2,o,ho,hedge⟩:=jQ hr
 obtain ⟨p,hp,hpd,hpr,hpg⟩:=R.op i o ho
 have hLi:=yc hi2
 have hEl:∀ e∈E i,isL qn e=true:=by
  intro e he
  rw [R.edges i o ho] at he
  simp only [zD,List.mem_filterMap] at he
  obtain ⟨x,hx,hxe⟩:=he
  split at hxe
  ·rename_i hb
   cases hxe
   exact hedge x (by simpa using hx) hb
  ·cases hxe
 obtain ⟨φ,ts,M,hvr,hinv,hfrm,hms,hdef,hfr⟩:=h.st
 have hag:=R.agree hfr h.closed hp hLi hEl
 have hagS:jA p.op.kD ts (T i):=fun t ht=>hag t (by simp [AOper.looks,ht])
 have hsz:i<qn.size:=by rw [h.sz,R.len]; exact hi1
 have hset:=KV hsz
 have hclosed':∀ x,isL (qn.setIfInBounds i true) x=true→∀ e∈E x,isL (qn.setIfInBounds i true) e=true:=by
  intro x hx e he
  rcases (hset x).1 hx with rfl|hx
  ·exact (hset e).2 (.inr (hEl e he))
  ·exact (hset e).2 (.inr (h.closed x hx e he))
 have hcnt:=qfo al hp hLi hset
 have hwantT:qX ts p.guard=qX (T i) p.guard:=by
  cases hgd:p.guard with
  | none=>rfl
  | some g =>
   obtain ⟨t,want⟩:=g
   have:ts[t]? = (T i)[t]?:=hag t (by simp [AOper.looks,hgd])
   simp [qX,this]
 have hw:Region.wanted o (yielded ops a.tmps)=qX (T i) p.guard:=by rw [← hwantT]; exact Qx hvr hpg
 have fin:∀ (V':Value) (w':World) (φ':Ren) (M':Mem),VR φ' (V i) V'→Inv φ' M' w'→Frm φ M w φ' M' w'→ms[cnt al (isL (qn.setIfInBounds i true))]? = some M'→K (a.put o.dst V') w':=by
  intro V' w' φ' M' h1 h2 h3 h4
  refine hK _ _ ⟨by rw [Array.size_setIfInBounds]; exact h.sz,hclosed',φ',xK ts p.dst (V i),M',?_,h2,hfrm.trans h3,h4,by rw [put_defers,hdef],hfr.put R hp hset⟩
  rw [← hpd]
  exact ZK (hvr.mono h3.ren) p.dst h1
 unfold wpOpIn
 rw [ho]
 simp only
 rw [hw]
 cases hwant:qX (T i) p.guard with
 | false =>
  simp only [Bool.false_eq_true,if_false]
  refine ⟨fun _ _=>trivial,?_⟩
  obtain ⟨hV,hM⟩:=R.idle i p hp hwant
  have hVu:VR φ (V i) undef:=by rw [hV]; exact VR.undef φ
  refine fin undef w φ M hVu hinv (Frm.refl φ M w) ?_
  rw [hcnt]
  by_cases he:qG p=true
  ·rw [if_pos he]
   obtain ⟨M1,hM1,hM2⟩:=hM (by simpa [qG] using he)
   have hce:=R.qaA h.closed (fun x hx=>by
    rcases Nat.lt_or_ge x qn.size with h'|h'
    ·rw [← h.sz]; exact h'
    ·simp [isL,Array.getElem?_eq_none h'] at hx) hp he hLi hEl
   rw [hce] at hms ⊢
   rw [hms] at hM1; cases hM1
   exact hM2
  ·rw [if_neg he]; exact hms
 | true =>
  simp only [if_true]
  cases hcl:p.op.cls with
  | eff =>
   obtain ⟨M1,M2,hM1,hM2,hs⟩:=R.eff i p hp hwant hcl
   have he:qG p=true:=by simp [qG,hcl]
   have hce:=R.qaA h.closed (fun x hx=>by
    rcases Nat.lt_or_ge x qn.size with h'|h'
    ·rw [← h.sz]; exact h'
    ·simp [isL,Array.getElem?_eq_none h'] at hx) hp he hLi hEl
   rw [hce] at hms
   rw [hms] at hM1; cases hM1
   rw [← ja call M hagS] at hs
   refine xP hc hg hpr hinv hvr hs ?_
   intro V' w' φ' h1 h2 h3
   refine fin V' w' φ' M2 h1 h2 h3 ?_
   rw [hcnt,if_pos he,hce]
   exact hM2
  | read =>
   have he:qG p=false:=by simp [qG,hcl]
   obtain ⟨q,hq,hall⟩:=R.read i p hp hwant hcl
   have hlo:=R.lo_le i (isL qn) (fun j hj=>hj.qn (L:=fun x=>isL qn x=true) h.closed hEl)
   have hhi:=R.le_hi i (isL qn) (fun j hj ha=>by
    have:=ha.qn (L:=fun x=>isL qn x=true) h.closed (h.closed j hj)
    rw [hLi] at this; cases this)
   obtain ⟨M1,hM1,hrun⟩:=hall _ hlo hhi
   rw [hms] at hM1; cases hM1
   rw [← wU hagS] at hq
   have hs:zo call ts M p.op=some (V i,M):=by rw [zw call ts M (yF hq)]; exact yA hq hrun
   refine xP hc hg hpr hinv hvr hs ?_
   intro V' w' φ' h1 h2 h3
   refine fin V' w' φ' M h1 h2 h3 ?_
   rw [hcnt,if_neg (by simp [he])]; exact hms
  | pure =>
   have he:qG p=false:=by simp [qG,hcl]
   have hall:=R.pure i p hp hwant hcl M
   have hnc:p.op.kS=false:=by
    cases hop:p.op<;>rw [hop] at hcl<;>first|rfl|simp [AOp.cls] at hcl
   have hs:zo call ts M p.op=some (V i,M):=by rw [ja call M hagS,zw call _ M hnc]; exact hall
   refine xP hc hg hpr hinv hvr hs ?_
   intro V' w' φ' h1 h2 h3
   refine fin V' w' φ' M h1 h2 h3 ?_
   rw [hcnt,if_neg (by simp [he])]; exact hms
def left (qn:Array Bool) (n:Nat):Nat:=((List.range n).filter fun i=>!isL qn i).length
theorem WK {qn:Array Bool} {i n:Nat} (hi:i<qn.size) (hn:i<n) (hl:isL qn i=false):left (qn.setIfInBounds i true) n+1=left qn n:=by
 unfold left
 have hset:=KV hi
 have key:∀ (l:List Nat),l.Nodup→(l.filter fun j=>!isL (qn.setIfInBounds i true) j).length+(if i∈l then 1 else 0)=(l.filter fun j=>!isL qn j).length:=by
  intro l
  induction l with
  | nil=>intro _; rfl
  | cons x l ih =>
   intro hnd
   rw [List.nodup_cons] at hnd
   have:=ih hnd.2
   simp only [List.filter_cons,List.mem_cons]
   by_cases hx:x=i
   ·subst hx
    have h1:isL (qn.setIfInBounds x true) x=true:=(hset x).2 (.inl rfl)
    rw [if_neg hnd.1] at this
    simp only [h1,hl,Bool.not_true,Bool.not_false,Bool.false_eq_true,if_false,if_true,true_or,List.length_cons]
    omega
   ·have h1:isL (qn.setIfInBounds i true) x=isL qn x:=by
     rw [Bool.eq_iff_iff,hset x]; simp [hx]
    simp only [h1,Ne.symm hx,false_or]
    cases isL qn x<;>simp<;>omega
 have:=key _ (List.nodup_range (n:=n))
 simpa [hn] using this
theorem Rg.any {ro:Option Nat} (hc:CallOk P call) (hg:∀ f args m r,f<yBase→call f args m=some r→zL P f=true) (R:Rg P call ops al E lo hi ms ts0 T V) {φ0:Ren} {m0:Mem} {w0:World} {a0:Act} {Q:Exit→Act→World→Prop}
  (hQ:∀ φ a w M,VRs φ (T al.length) a.tmps.toList→ms[zd al al.length]? = some M→Inv φ M w→Frm φ0 m0 w0 φ M w→a.defers=a0.defers→Q .normal a w) :
  ∀ (fuel:Nat) (qn:Array Bool) (a:Act) (w:World),left qn al.length=fuel→J P al E ms ts0 V φ0 m0 w0 a0 qn a w→wpAnyIn (rf ro) 0 P .any ops Q fuel qn a w:=by
 have done:∀ (qn:Array Bool) (a:Act) (w:World),left qn al.length=0→J P al E ms ts0 V φ0 m0 w0 a0 qn a w→Region.ready .any ops qn=[]∧Q .normal a w:=by
  intro qn a w h0 h
  have hall:∀ i,i<al.length→isL qn i=true:=by
   intro i hi
   unfold left at h0
   have:=List.length_eq_zero_iff.1 h0
   rw [List.filter_eq_nil_iff] at this
   simpa using this i (by simpa using hi)
  refine ⟨?_,?_⟩
  ·apply List.eq_nil_iff_forall_not_mem.2
   intro i hr
   obtain ⟨hi1,hi2,_⟩:=jQ hr
   have:=hall i (by rw [R.len]; exact hi1)
   rw [yc hi2] at this; cases this
  ·obtain ⟨φ,ts,M,hvr,hinv,hfrm,hms,hdef,f1,f2,f3⟩:=h.st
   obtain ⟨g1,g2,g3⟩:=R.fr al.length (Nat.le_refl _)
   have hLt:∀ i,isL qn i=true→i<al.length:=by
    intro i hi
    rcases Nat.lt_or_ge i qn.size with h'|h'
    ·rw [← h.sz]; exact h'
    ·simp [isL,Array.getElem?_eq_none h'] at hi
   have hts:ts=T al.length:=by
    apply List.ext_getElem?
    intro d
    by_cases hlt:d<ts0.length
    ·by_cases hex:∃ j,xe al j=some d
     ·obtain ⟨j,hj⟩:=hex
      have hjl:j<al.length:=by
       rcases Nat.lt_or_ge j al.length with h'|h'
       ·exact h'
       ·simp [xe,List.getElem?_eq_none h'] at hj
      rw [f2 j d (hall j hjl) hj hlt,g2 j d (by simpa using hjl) hj hlt]
     ·rw [f3 d (fun k _ hk=>hex ⟨k,hk⟩),g3 d (fun k _ hk=>hex ⟨k,hk⟩)]
    ·rw [List.getElem?_eq_none (by omega),List.getElem?_eq_none (by omega)]
   have hcnt:cnt al (isL qn)=zd al al.length:=by
    rw [effN_eq]
    unfold cnt
    refine filter_eq _ fun j hj=>?_
    have hj':j<al.length:=by simpa using hj
    simp [hall j hj',hj']
   rw [hcnt] at hms
   exact hQ φ a w M (hts ▸ hvr) hms hinv hfrm hdef
 intro fuel
 induction fuel with
 | zero=>intro qn a w h0 h; exact done qn a w h0 h
 | succ fuel ih =>
  intro qn a w hf h
  refine ⟨fun hnil=>?_,fun i hr=>?_⟩
  ·exfalso
   have hex:∃ i,i<al.length∧isL qn i=false∧∀ j,j<i→isL qn j=true:=by
    have hne:∃ i,i<al.length∧isL qn i=false:=by
     unfold left at hf
     cases hl:(List.range al.length).filter (fun i=>!isL qn i) with
     | nil=>rw [hl] at hf; simp at hf
     | cons x l =>
      have:x∈(List.range al.length).filter (fun i=>!isL qn i):=by rw [hl]; exact List.mem_cons_self ..
      simp only [List.mem_filter,List.mem_range,Bool.not_eq_true'] at this
      exact ⟨x,this⟩
    obtain ⟨i,h1,h2⟩:=hne
    induction i using Nat.strongRecOn with
    | _ i ihi =>
     by_cases hm:∀ j,j<i→isL qn j=true
     ·exact ⟨i,h1,h2,hm⟩
     ·have:∃ j,j<i∧isL qn j=false:=by
       apply Classical.byContradiction
       intro hn
       apply hm
       intro j hj
       cases hh:isL qn j with
       | true=>rfl
       | false=>exact absurd ⟨j,hj,hh⟩ hn
      obtain ⟨j,hj,hj2⟩:=this
      exact ihi j hj (by omega) hj2
   obtain ⟨i,h1,h2,h3⟩:=hex
   have hi1:i<ops.size:=by rw [← R.len]; exact h1
   have ho:ops[i]? = some ops[i]:=Array.getElem?_eq_getElem hi1
   have hmem:i∈Region.ready .any ops qn:=by
    refine Wt ho ?_ (fun e he hb=>?_)
    ·have:i<qn.size:=by rw [h.sz]; exact h1
     unfold isL at h2
     simp [this] at h2 ⊢; exact h2
    ·have hmemE:e.on∈E i:=by
      rw [R.edges i _ ho]
      simp only [zD,List.mem_filterMap]
      exact ⟨e,by simpa using he,by rw [if_pos hb]⟩
     exact h3 e.on (R.lt i e.on hmemE)
   rw [hnil] at hmem; cases hmem
  ·have hi:=jQ hr
   refine R.step hc hg h hr (fun a' w' h'=>ih _ a' w' ?_ h')
   have:=WK (n:=al.length) (qn:=qn) (i:=i) (by rw [h.sz,R.len]; exact hi.1) (by rw [R.len]; exact hi.1) (yc hi.2.1)
   omega
end
theorem Xl {ro:Option Nat} {P:Program} {call:qZ} (hc:CallOk P call) (hg:∀ f args m r,f<yBase→call f args m=some r→zL P f=true) (hm:P.follows .mixedOrders=true) {id:Nat} {ops:Array Oper} {al:List AOper} {ts:List Value} {m:Mem} {a:Act} {w:World} {φ:Ren} {ts':List Value} {m':Mem} {Q:Exit→Act→World→Prop}
  (hal:jG P ops ops.toList=some al) (hd:dOk (ops.toList.map zD) al=true) (hi:Inv φ m w) (ht:VRs φ ts a.tmps.toList) (hr:kj call al (wa (ops.toList.map zD) al) ts m=some (ts',m'))
  (hQ:∀ a' w',St φ m w a ts' m' a' w'→Q .normal a' w'):(Code.region id ops true).wpIn (rf ro) 0 P Q a w:=by
 simp only [kj,Option.bind_eq_some_iff] at hr
 obtain ⟨⟨ts1,m1,ms,rq⟩,htr,hr⟩:=hr
 split at hr
 ·rename_i hok
  cases hr
  obtain ⟨T,V,hT0,hTn,hms0,hmsn,hfact⟩:=facts call al _ ts m _ _ ms rq htr
  obtain ⟨hlen,hops⟩:=wF hal
  have hlen':al.length=ops.size:=by rw [hlen]; simp
  generalize hes:ops.toList.map zD=es at hd htr hfact
  have hesl:es.length=al.length:=by rw [← hes,hlen']; simp
  have hE:∀ (i:Nat) o,ops[i]? = some o→es[i]?.getD []=zD o:=by
   intro i o ho
   rw [← hes]; simp [ho]
  have hEn:∀ (i:Nat),al.length≤i→es[i]?.getD []=[]:=by
   intro i hi
   rw [List.getElem?_eq_none (by omega)]; rfl
  have hanc:∀ i k,(xc es)[i]? = some k→∀ j,k.testBit j=true→Anc (fun i=>es[i]?.getD []) i j :=
   JH (fun i=>es[i]?.getD []) es [] (fun i x hx=>by simp [hx]) (fun i k h=>by simp at h)
  have hanc':∀ i j,((xc es)[i]?.getD 0).testBit j=true→Anc (fun i=>es[i]?.getD []) i j:=by
   intro i j h
   cases hk:(xc es)[i]? with
   | none=>rw [hk] at h; simp at h
   | some k=>rw [hk] at h; exact hanc i k hk j h
  unfold dOk at hd
  simp only [List.all_eq_true,List.mem_range,Bool.and_eq_true,Bool.or_eq_true,beq_iff_eq,decide_eq_true_eq] at hd
  have hlt:∀ (i e:Nat),e∈es[i]?.getD []→e<i:=by
   intro i e he
   rcases Nat.lt_or_ge i al.length with h'|h'
   ·exact (hd i h').1 e he
   ·rw [hEn i h'] at he; cases he
  have hpair:∀ (i j:Nat) (o p:AOper),i≠j→al[i]? = some o→al[j]? = some p→KN (xc es) o p i j=true:=by
   intro i j o p hij ho hp
   have hi:i<al.length:=by
    rcases Nat.lt_or_ge i al.length with h|h
    ·exact h
    ·rw [List.getElem?_eq_none h] at ho; cases ho
   have hj:j<al.length:=by
    rcases Nat.lt_or_ge j al.length with h|h
    ·exact h
    ·rw [List.getElem?_eq_none h] at hp; cases hp
   rcases (hd i hi).2 j hj with h|h
   ·exact absurd h hij
   ·rw [ho,hp] at h; exact h
  have R:Rg P call ops al (fun i=>es[i]?.getD []) (fun i=>(wa es al)[i]?.getD (0,0) |>.1) (fun i=>if i<al.length then ((wa es al)[i]?.getD (0,0)).2 else al.length) ms ts T V:=by
   have hdl:∀ i,i<al.length→(wa es al)[i]?.getD (0,0)=KS (al.map qG) (xc es) i:=by
    intro i hi; simp [wa,hi]
   refine ⟨hlen',fun i o ho=>hops i o (by simpa using ho),fun i o ho=>hE i o ho,hlt,fun i j o p t hij ho hp hpt=>?_,fun i j o p hij ho hp hoe hpe=>?_,fun i L hL=>?_,fun i L hL=>?_,hT0,fun i o ho=>(hfact i o ho).1,fun i o ho hw hcl=>?_,fun i o ho hw hcl=>?_,fun i o ho hw hcl=>?_,fun i o ho hw=>?_⟩
   ·have:=hpair i j o p hij ho hp
    simp only [KN,hpt,Bool.and_eq_true,Bool.or_eq_true,Bool.not_eq_true',bne_iff_ne,ne_eq] at this
    refine ⟨fun hmem=>?_,this.1.2⟩
    rcases this.1.1 with (h|h)|h
    ·rw [List.contains_eq_mem] at h; simp [hmem] at h
    ·exact .inl (hanc' i j h)
    ·exact .inr (hanc' j i h)
   ·have:=hpair i j o p hij ho hp
    simp only [KN,Bool.and_eq_true,Bool.or_eq_true,Bool.not_eq_true',Bool.and_eq_false_iff] at this
    rcases this.2 with (h|h)|h
    ·rcases h with h|h
     ·rw [hoe] at h; cases h
     ·rw [hpe] at h; cases h
    ·exact .inl (hanc' i j h)
    ·exact .inr (hanc' j i h)
   ·rcases Nat.lt_or_ge i al.length with hi|hi
    ·rw [hdl i hi]
     unfold cnt
     simp only [KS,List.length_map]
     refine filter_le _ fun j hj hp=>?_
     simp only [Bool.and_eq_true] at hp ⊢
     exact ⟨hp.1,hL j (hanc' i j hp.2)⟩
    ·have:(wa es al)[i]? = none:=List.getElem?_eq_none (by simp [wa]; omega)
     simp [this]
   ·rcases Nat.lt_or_ge i al.length with hi|hi
    ·rw [if_pos hi,hdl i hi]
     unfold cnt
     simp only [KS,List.length_map]
     refine filter_le _ fun j hj hp=>?_
     simp only [Bool.and_eq_true,Bool.not_eq_true'] at hp ⊢
     refine ⟨hp.1,?_⟩
     cases hh:((xc es)[j]?.getD 0).testBit i with
     | false=>rfl
     | true=>exact absurd (hanc' j i hh) (hL j hp.2)
    ·rw [if_neg (by omega)]
     unfold cnt
     have:=List.length_filter_le (fun j=>((al.map qG)[j]?.getD false)&&L j) (List.range al.length)
     simpa using this
   ·rcases (hfact i o ho).2 with ⟨_,h2,_,_⟩|⟨h1,_⟩
    ·exact h2 hcl
    ·rw [hw] at h1; cases h1
   ·rcases (hfact i o ho).2 with ⟨_,_,h3,_⟩|⟨h1,_⟩
    ·obtain ⟨q,hq,hmem⟩:=h3 hcl
     refine ⟨q,hq,fun k hk1 hk2=>?_⟩
     have hi:i<al.length:=by
      rcases Nat.lt_or_ge i al.length with h|h
      ·exact h
      ·rw [List.getElem?_eq_none h] at ho; cases ho
     rw [if_pos hi] at hk2
     have:=List.all_eq_true.1 hok _ hmem
     simp only [vY,List.all_eq_true,List.mem_range] at this
     have hk:=this (k - ((wa es al)[i]?.getD (0,0)).1) (by omega)
     rw [show ((wa es al)[i]?.getD (0,0)).1+(k - ((wa es al)[i]?.getD (0,0)).1)=k by omega] at hk
     split at hk
     ·rename_i M hM
      split at hk
      ·rename_i u hu
       have:=veq_eq _ _ hk
       subst this
       exact ⟨M,hM,hu⟩
      ·cases hk
     ·cases hk
    ·rw [hw] at h1; cases h1
   ·rcases (hfact i o ho).2 with ⟨_,_,_,h4⟩|⟨h1,_⟩
    ·exact h4 hcl
    ·rw [hw] at h1; cases h1
   ·rcases (hfact i o ho).2 with ⟨h1,_⟩|⟨_,h2,h3⟩
    ·rw [hw] at h1; cases h1
    ·exact ⟨h2,h3⟩
  refine wpIn_region_any hm ?_
  have hleft:left (Array.replicate ops.size false) al.length=ops.size:=by
   unfold left
   have:(List.range al.length).filter (fun i=>!isL (Array.replicate ops.size false) i)=List.range al.length:=by
    rw [List.filter_eq_self]
    intro i hi
    have hi':i<ops.size:=by rw [← hlen']; simpa using hi
    simp [isL,hi']
   rw [this,List.length_range,hlen']
  refine R.any (φ0:=φ) (m0:=m) (w0:=w) (a0:=a) hc hg (fun φ' a' w' M h1 h2 h3 h4 h5=>?_) ops.size _ a _ hleft ?_
  ·rw [hTn] at h1
   rw [hmsn] at h2; cases h2
   exact hQ a' w' ⟨φ',h1,h3,h4,h5⟩
  ·have hnone:∀ i,isL (Array.replicate ops.size false) i=false:=by
    intro i
    unfold isL
    rcases Nat.lt_or_ge i ops.size with h|h
    ·simp [h]
    ·simp [h]
   refine ⟨by simp [hlen'],(fun x hx=>absurd hx (by rw [hnone x]; decide)),φ,ts,m,ht,hi.drawn rfl,Frm.drawn rfl rfl rfl rfl,?_,rfl,rfl,(fun i d h=>absurd h (by rw [hnone i]; decide)),fun d _=>rfl⟩
   have:cnt al (isL (Array.replicate ops.size false))=0:=by
    unfold cnt
    rw [List.length_eq_zero_iff,List.filter_eq_nil_iff]
    intro i _
    simp [hnone i]
   rw [this]; exact hms0
 ·cases hr
end Go.Fx
