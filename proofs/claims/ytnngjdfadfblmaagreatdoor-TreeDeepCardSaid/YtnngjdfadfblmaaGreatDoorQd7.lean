/- Parts of a proof: FxDraw, FxDraw2, FxDraw3. Conditions: none. -/
import Derived.Orders
import Derived.Test.YtnngjdfadfblmaaGreatDoorQd6
namespace Go.Fx
open Go
set_option linter.unusedSimpArgs false
set_option linter.unusedVariables false
abbrev Tr:=List Value × Mem × List Mem × List (Req × Value × Nat × Nat)
def runTr (call:CallF):List AOper→List (Nat × Nat)→List Value→Mem→Option Tr
 | [],_,ts,m=>some (ts,m,[m],[])
 | o::r,lh,ts,m =>
  if wantedA ts o.guard then
   match o.op.cls with
   | .eff=>(stepOp call ts m o.op).bind fun p=>(runTr call r lh.tail (putT ts o.dst p.1) p.2).map fun x=>(x.1,x.2.1,m::x.2.2.1,x.2.2.2)
   | .read=>(o.op.req ts).bind fun q=>(q.run m).bind fun v=>(runTr call r lh.tail (putT ts o.dst v) m).map fun x=>(x.1,x.2.1,x.2.2.1,(q,v,lh.headD (0,0))::x.2.2.2)
   | .pure=>(o.op.run ts m).bind fun p=>runTr call r lh.tail (putT ts o.dst p.1) m
  else
   match o.op.cls with
   | .eff=>(runTr call r lh.tail (putT ts o.dst undef) m).map fun x=>(x.1,x.2.1,m::x.2.2.1,x.2.2.2)
   | _=>runTr call r lh.tail (putT ts o.dst undef) m
def okReq (ms:List Mem) (x:Req × Value × Nat × Nat):Bool :=
 (List.range (x.2.2.2+1 - x.2.2.1)).all fun k=>match ms[x.2.2.1+k]? with
  | some M=>match x.1.run M with
   | some u=>veq u x.2.1
   | none=>false
  | none=>false
def runD (call:CallF) (ops:List AOper) (lh:List (Nat × Nat)) (ts:List Value) (m:Mem):Option (List Value × Mem) :=
 (runTr call ops lh ts m).bind fun x=>if x.2.2.2.all (okReq x.2.2.1)=true then some (x.1,x.2.1) else none
def seqOk:Nat→List AOper→List (Nat × Nat)→Bool
 | _,[],_=>true
 | k,o::r,lh=>match o.op.cls with
  | .eff=>seqOk (k+1) r lh.tail
  | .read=>lh.headD (0,0) == (k,k)&&seqOk k r lh.tail
  | .pure=>seqOk k r lh.tail
theorem runTr_seq (call:CallF):∀ (ops:List AOper) (k:Nat) (lh:List (Nat × Nat)) (ts:List Value) (m:Mem),seqOk k ops lh=true→∀ r,runOps call ops ts m=some r →
    ∃ ms rq,runTr call ops lh ts m=some (r.1,r.2,m::ms,rq)∧∀ pre:List Mem,pre.length=k→rq.all (okReq (pre++m::ms))=true:=by
  intro ops
  induction ops with
  | nil =>
    intro k lh ts m _ r hr
    simp only [runOps,Option.some.injEq] at hr
    subst hr
    exact ⟨[],[],rfl,fun _ _=>rfl⟩
  | cons o r ih =>
    intro k lh ts m hs x hr
    unfold seqOk at hs
    unfold runOps at hr
    unfold runTr
    by_cases hw:wantedA ts o.guard=true
    · rw [if_pos hw] at hr
      rw [if_pos hw]
      cases hc:o.op.cls with
      | eff =>
        rw [hc] at hs
        simp only at hs ⊢
        obtain ⟨p,hp,hr⟩:=Option.bind_eq_some_iff.1 hr
        obtain ⟨ms,rq,h1,h2⟩:=ih (k+1) lh.tail _ _ hs x hr
        refine ⟨p.2::ms,rq,by rw [hp,Option.bind_some,h1]; rfl,fun pre hpre=>?_⟩
        have:=h2 (pre++[m]) (by simp [hpre])
        simpa using this
      | pure =>
        rw [hc] at hs
        simp only at hs ⊢
        obtain ⟨p,hp,hr⟩:=Option.bind_eq_some_iff.1 hr
        rw [stepOp_other call ts m (by cases ho:o.op<;>rw [ho] at hc<;>first|rfl|cases hc)] at hp
        obtain ⟨h3,_⟩:=run_pure (v:=p.1) (m':=p.2) hc hp
        rw [h3] at hr
        obtain ⟨ms,rq,h1,h2⟩:=ih k lh.tail _ _ hs x hr
        exact ⟨ms,rq,by rw [hp,Option.bind_some,h1],h2⟩
      | read =>
        rw [hc] at hs
        simp only [Bool.and_eq_true,beq_iff_eq] at hs ⊢
        obtain ⟨hl,hs⟩:=hs
        obtain ⟨p,hp,hr⟩:=Option.bind_eq_some_iff.1 hr
        rw [stepOp_other call ts m (by cases ho:o.op<;>rw [ho] at hc<;>first|rfl|cases hc)] at hp
        obtain ⟨q,hq1,hq2,hq3⟩:∃ q,o.op.req ts=some q∧q.run m=some p.1∧p.2=m:=by
          cases ho:o.op<;>rw [ho] at hc hp<;>first
            | (cases hc; done)
            | (simp only [AOp.run,Option.bind_eq_some_iff,Option.map_eq_some_iff] at hp
               first
                 | (obtain ⟨v,hv,u,hu,rfl⟩:=hp; refine ⟨_,by simp only [AOp.req,hv]; rfl,?_,rfl⟩; exact hu)
                 | (obtain ⟨v,hv,l,hl,u,hu,rfl⟩:=hp; refine ⟨_,by simp only [AOp.req,hv,hl,Option.bind_some]; rfl,?_,rfl⟩; exact hu)
                 | (obtain ⟨v,hv,l,hl,h,hh,u,hu,rfl⟩:=hp; refine ⟨_,by simp only [AOp.req,hv,hl,hh,Option.bind_some]; rfl,?_,rfl⟩; exact hu)
                 | (obtain ⟨v,hv,l,hl,h,hh,k,hk,u,hu,rfl⟩:=hp; refine ⟨_,by simp only [AOp.req,hv,hl,hh,hk,Option.bind_some]; rfl,?_,rfl⟩; exact hu))
        rw [hq3] at hr
        obtain ⟨ms,rq,h1,h2⟩:=ih k lh.tail _ _ hs x hr
        refine ⟨ms,(q,p.1,lh.headD (0,0))::rq,by rw [hq1,Option.bind_some,hq2,Option.bind_some,h1]; rfl,fun pre hpre=>?_⟩
        rw [List.all_cons,h2 pre hpre,Bool.and_true,hl]
        subst hpre
        simp [okReq,hq2,veq_refl]
    · rw [if_neg hw] at hr
      rw [if_neg hw]
      cases hc:o.op.cls with
      | eff =>
        rw [hc] at hs
        simp only at hs ⊢
        obtain ⟨ms,rq,h1,h2⟩:=ih (k+1) lh.tail _ _ hs x hr
        refine ⟨m::ms,rq,by rw [h1]; rfl,fun pre hpre=>?_⟩
        have:=h2 (pre++[m]) (by simp [hpre])
        simpa using this
      | pure =>
        rw [hc] at hs
        simp only at hs ⊢
        exact ih k lh.tail _ _ hs x hr
      | read =>
        rw [hc] at hs
        simp only [Bool.and_eq_true] at hs ⊢
        obtain ⟨ms,rq,h1,h2⟩:=ih k lh.tail _ _ hs.2 x hr
        exact ⟨ms,rq,h1,h2⟩
theorem runD_seq {call:CallF} {ops:List AOper} {lh:List (Nat × Nat)} (h:seqOk 0 ops lh=true) {ts:List Value} {m:Mem} {r:List Value × Mem} (hr:runOps call ops ts m=some r):runD call ops lh ts m=some r:=by
 obtain ⟨ms,rq,h1,h2⟩:=runTr_seq call ops 0 lh ts m h r hr
 have:=h2 [] rfl
 simp only [List.nil_append] at this
 simp only [runD,h1,Option.bind_some,this,if_true]
def isEff (o:AOper):Bool:=decide (o.op.cls=.eff)
def effN:List AOper→Nat→Nat
 | [],_=>0
 | _::_,0=>0
 | o::r,i+1=>(if isEff o then 1 else 0)+effN r i
def Fact (call:CallF) (ms:List Mem) (rq:List (Req × Value × Nat × Nat)) (lh:Nat × Nat) (c:Nat) (o:AOper) (T:List Value) (V:Value):Prop :=
 (wantedA T o.guard=true∧(o.op.cls=.eff→∃ M M',ms[c]? = some M∧ms[c+1]? = some M'∧stepOp call T M o.op=some (V,M')) ∧
  (o.op.cls=.read→∃ q,o.op.req T=some q∧(q,V,lh)∈rq)∧(o.op.cls=.pure→∀ M,o.op.run T M=some (V,M))) ∨
 (wantedA T o.guard=false∧V=undef∧(o.op.cls=.eff→∃ M,ms[c]? = some M∧ms[c+1]? = some M))
theorem Fact.shift {call:CallF} {ms:List Mem} {rq:List (Req × Value × Nat × Nat)} {lh:Nat × Nat} {c:Nat} {o:AOper} {T:List Value} {V:Value} (h:Fact call ms rq lh c o T V) (m:Mem) (q:List (Req × Value × Nat × Nat)):Fact call (m::ms) (q++rq) lh (1+c) o T V:=by
 rcases h with ⟨h1,h2,h3,h4⟩|⟨h1,h2,h3⟩
 ·refine .inl ⟨h1,fun hc=>?_,fun hc=>?_,h4⟩
  ·obtain ⟨M,M',a,b,d⟩:=h2 hc
   exact ⟨M,M',by rw [Nat.add_comm]; exact a,by rw [show 1+c+1=(c+1)+1 by omega]; exact b,d⟩
  ·obtain ⟨q',a,b⟩:=h3 hc
   exact ⟨q',a,List.mem_append_right _ b⟩
 ·refine .inr ⟨h1,h2,fun hc=>?_⟩
  obtain ⟨M,a,b⟩:=h3 hc
  exact ⟨M,by rw [Nat.add_comm]; exact a,by rw [show 1+c+1=(c+1)+1 by omega]; exact b⟩
theorem Fact.more {call:CallF} {ms:List Mem} {rq:List (Req × Value × Nat × Nat)} {lh:Nat × Nat} {c:Nat} {o:AOper} {T:List Value} {V:Value} (h:Fact call ms rq lh c o T V) (q:List (Req × Value × Nat × Nat)):Fact call ms (q++rq) lh c o T V:=by
 rcases h with ⟨h1,h2,h3,h4⟩|h
 ·refine .inl ⟨h1,h2,fun hc=>?_,h4⟩
  obtain ⟨q',a,b⟩:=h3 hc
  exact ⟨q',a,List.mem_append_right _ b⟩
 ·exact .inr h
theorem facts (call:CallF):∀ (ops:List AOper) (lh:List (Nat × Nat)) (ts:List Value) (m:Mem) (ts':List Value) (m':Mem) (ms:List Mem) (rq:List (Req × Value × Nat × Nat)),
  runTr call ops lh ts m=some (ts',m',ms,rq)→∃ (T:Nat→List Value) (V:Nat→Value),T 0=ts∧T ops.length=ts'∧ms[0]? = some m∧ms[effN ops ops.length]? = some m' ∧
   ∀ i o,ops[i]? = some o→T (i+1)=putT (T i) o.dst (V i)∧Fact call ms rq (lh[i]?.getD (0,0)) (effN ops i) o (T i) (V i):=by
 intro ops
 induction ops with
 | nil =>
  intro lh ts m ts' m' ms rq h
  simp only [runTr,Option.some.injEq,Prod.mk.injEq] at h
  obtain ⟨rfl,rfl,rfl,rfl⟩:=h
  exact ⟨fun _=>ts,fun _=>undef,rfl,rfl,rfl,rfl,fun i o h=>by simp at h⟩
 | cons o r ih =>
  intro lh ts m ts' m' ms rq h
  have hlh:∀ i:Nat,lh.tail[i]?.getD (0,0)=lh[i+1]?.getD (0,0):=by intro i; rw [List.getElem?_tail]
  have hlh0:lh.headD (0,0)=lh[0]?.getD (0,0):=by cases lh<;>rfl
  have build:∀ (v:Value) (m1:Mem) (ms1:List Mem) (rq1 q:List (Req × Value × Nat × Nat)),runTr call r lh.tail (putT ts o.dst v) m1=some (ts',m',ms1,rq1) →
    (if isEff o then ms=m::ms1 else ms=ms1∧m1=m)→rq=q++rq1→(Fact call ms rq (lh[0]?.getD (0,0)) 0 o ts v) →
    ∃ (T:Nat→List Value) (V:Nat→Value),T 0=ts∧T (o::r).length=ts'∧ms[0]? = some m∧ms[effN (o::r) (o::r).length]? = some m' ∧
     ∀ i p,(o::r)[i]? = some p→T (i+1)=putT (T i) p.dst (V i)∧Fact call ms rq (lh[i]?.getD (0,0)) (effN (o::r) i) p (T i) (V i):=by
   intro v m1 ms1 rq1 q hrun hms hrq hfact
   obtain ⟨T,V,h1,h2,h3,h4,h5⟩:=ih lh.tail _ m1 ts' m' ms1 rq1 hrun
   refine ⟨fun i=>match i with|0=>ts|i+1=>T i,fun i=>match i with|0=>v|i+1=>V i,rfl,h2,?_,?_,?_⟩
   ·split at hms
    ·rw [hms]; rfl
    ·rw [hms.1,h3,hms.2]
   ·simp only [List.length_cons,effN]
    split at hms
    ·rename_i he
     rw [hms,if_pos he,Nat.add_comm]; exact h4
    ·rename_i he
     rw [hms.1,if_neg he,Nat.zero_add]; exact h4
   ·intro i p hp
    cases i with
    | zero =>
     simp only [List.getElem?_cons_zero,Option.some.injEq] at hp
     subst hp
     exact ⟨h1,hfact⟩
    | succ i =>
     obtain ⟨g1,g2⟩:=h5 i p (by simpa using hp)
     refine ⟨g1,?_⟩
     rw [hlh] at g2
     simp only [effN]
     split at hms
     ·rename_i he
      rw [hms,hrq,if_pos he]; exact g2.shift m q
     ·rename_i he
      rw [hms.1,hrq,if_neg he,Nat.zero_add]; exact g2.more q
  simp only [runTr] at h
  split at h
  ·rename_i hw
   split at h
   ·rename_i hc
    simp only [Option.bind_eq_some_iff,Option.map_eq_some_iff] at h
    obtain ⟨⟨v,m1⟩,hs,⟨ts1,m2,ms1,rq1⟩,hr,he⟩:=h
    simp only [Prod.mk.injEq] at he
    obtain ⟨rfl,rfl,rfl,rfl⟩:=he
    have hm1:ms1[0]? = some m1:=by
     obtain ⟨_,_,_,_,h3,_⟩:=ih lh.tail _ m1 _ _ ms1 rq1 hr
     exact h3
    exact build v m1 ms1 rq1 [] hr (by simp [isEff,hc]) rfl (.inl ⟨hw,fun _=>⟨m,m1,rfl,by simpa using hm1,hs⟩,(fun h=>absurd (hc.symm.trans h) (by decide)),(fun h=>absurd (hc.symm.trans h) (by decide))⟩)
   ·rename_i hc
    simp only [Option.bind_eq_some_iff,Option.map_eq_some_iff] at h
    obtain ⟨q,hq,v,hv,⟨ts1,m2,ms1,rq1⟩,hr,he⟩:=h
    simp only [Prod.mk.injEq] at he
    obtain ⟨rfl,rfl,rfl,rfl⟩:=he
    exact build v m ms1 rq1 [(q,v,lh.headD (0,0))] hr (by simp [isEff,hc]) rfl (.inl ⟨hw,(fun h=>absurd (hc.symm.trans h) (by decide)),fun _=>⟨q,hq,by rw [← hlh0]; exact List.mem_cons_self ..⟩,(fun h=>absurd (hc.symm.trans h) (by decide))⟩)
   ·rename_i hc
    simp only [Option.bind_eq_some_iff] at h
    obtain ⟨⟨v,m1⟩,hs,hr⟩:=h
    obtain ⟨rfl,hall⟩:=run_pure hc hs
    exact build v m1 ms rq [] hr (by simp [isEff,hc]) rfl (.inl ⟨hw,(fun h=>absurd (hc.symm.trans h) (by decide)),(fun h=>absurd (hc.symm.trans h) (by decide)),fun _=>hall⟩)
  ·rename_i hw
   have hw:wantedA ts o.guard=false:=by simpa using hw
   split at h
   ·rename_i hc
    simp only [Option.map_eq_some_iff] at h
    obtain ⟨⟨ts1,m2,ms1,rq1⟩,hr,he⟩:=h
    simp only [Prod.mk.injEq] at he
    obtain ⟨rfl,rfl,rfl,rfl⟩:=he
    have hm1:ms1[0]? = some m:=by
     obtain ⟨_,_,_,_,h3,_⟩:=ih lh.tail _ m _ _ ms1 rq1 hr
     exact h3
    exact build undef m ms1 rq1 [] hr (by simp [isEff,hc]) rfl (.inr ⟨hw,rfl,fun _=>⟨m,rfl,by simpa using hm1⟩⟩)
   ·rename_i hc
    exact build undef m ms rq [] h (by simp [isEff]; intro h; exact absurd h hc) rfl (.inr ⟨hw,rfl,fun h=>absurd h hc⟩)
inductive Anc (E:Nat→List Nat):Nat→Nat→Prop where
 | base {i e:Nat} (h:e∈E i):Anc E i e
 | step {i e j:Nat} (h:e∈E i) (h':Anc E e j):Anc E i j
theorem Anc.lt {E:Nat→List Nat} (hE:∀ i e,e∈E i→e<i) {i j:Nat} (h:Anc E i j):j<i:=by
 induction h with
 | base h=>exact hE _ _ h
 | step h _ ih=>exact Nat.lt_trans ih (hE _ _ h)
theorem Anc.listed {E:Nat→List Nat} {L:Nat→Prop} (hL:∀ x,L x→∀ e∈E x,L e) {i j:Nat} (h:Anc E i j) (hi:∀ e∈E i,L e):L j:=by
 induction h with
 | base h=>exact hi _ h
 | step h _ ih=>exact ih (hL _ (hi _ h))
def maskStep (acc:List Nat) (es:List Nat):List Nat:=acc++[es.foldl (fun s e=>s ||| 2 ^ e ||| acc[e]?.getD 0) 0]
def masks (l:List (List Nat)):List Nat:=l.foldl maskStep []
theorem foldl_mask (acc:List Nat) (j:Nat):∀ (es:List Nat) (s:Nat),(es.foldl (fun s e=>s ||| 2 ^ e ||| acc[e]?.getD 0) s).testBit j=true→s.testBit j=true∨∃ e∈es,e=j∨(acc[e]?.getD 0).testBit j=true:=by
 intro es
 induction es with
 | nil=>intro s h; exact .inl h
 | cons e es ih =>
  intro s h
  rcases ih _ h with h|⟨e',he',h⟩
  ·simp only [Nat.testBit_or,Bool.or_eq_true,Nat.testBit_two_pow,decide_eq_true_eq] at h
   rcases h with (h|h)|h
   ·exact .inl h
   ·exact .inr ⟨e,List.mem_cons_self ..,.inl h⟩
   ·exact .inr ⟨e,List.mem_cons_self ..,.inr h⟩
  ·exact .inr ⟨e',List.mem_cons_of_mem _ he',h⟩
theorem masks_anc (E:Nat→List Nat):∀ (l:List (List Nat)) (acc:List Nat) ,(∀ i es,l[i]? = some es→es=E (acc.length+i))→(∀ i k,acc[i]? = some k→∀ j,k.testBit j=true→Anc E i j) →
  ∀ i k,(l.foldl maskStep acc)[i]? = some k→∀ j,k.testBit j=true→Anc E i j:=by
 intro l
 induction l with
 | nil=>intro acc _ h; exact h
 | cons es l ih =>
  intro acc hl hacc
  simp only [List.foldl_cons]
  refine ih (maskStep acc es) (fun i es' h=>?_) (fun i k hk j hj=>?_)
  ·have:=hl (i+1) es' (by simpa using h)
   rw [this]; congr 1; simp [maskStep]; omega
  ·simp only [maskStep] at hk
   by_cases hi:i<acc.length
   ·rw [List.getElem?_append_left hi] at hk
    exact hacc i k hk j hj
   ·rw [List.getElem?_append_right (by omega)] at hk
    have hi':i - acc.length=0:=by
     rcases Nat.eq_zero_or_pos (i - acc.length) with h|h
     ·exact h
     ·rw [List.getElem?_eq_none (by simp; omega)] at hk; cases hk
    rw [hi'] at hk
    simp only [List.getElem?_cons_zero,Option.some.injEq] at hk
    subst hk
    have hEi:es=E i:=by
     have:=hl 0 es rfl
     rw [this]; congr 1; omega
    rcases foldl_mask acc j es 0 hj with h|⟨e,he,h⟩
    ·simp at h
    ·rcases h with rfl|h
     ·exact .base (by rw [← hEi]; exact he)
     ·cases ha:acc[e]? with
      | none=>rw [ha] at h; simp at h
      | some k' =>
       rw [ha] at h
       exact .step (by rw [← hEi]; exact he) (hacc e k' ha j h)
def edgesOf (o:Oper):List Nat:=o.after.toList.filterMap fun e=>if Region.binds .any e then some e.on else none
def AOper.looks (o:AOper):List Nat:=o.op.slots++(match o.guard with|some (t,_)=>[t]|none=>[])
def lohiAt (effs:List Bool) (ms:List Nat) (i:Nat):Nat × Nat :=
  (((List.range effs.length).filter fun j=>(effs[j]?.getD false)&&(ms[i]?.getD 0).testBit j).length,
   ((List.range effs.length).filter fun j=>(effs[j]?.getD false)&&!(ms[j]?.getD 0).testBit i).length)
def pairOk (ms:List Nat) (o p:AOper) (i j:Nat):Bool :=
  (match p.dst with
   | some t=>(!(o.looks.contains t)||(ms[i]?.getD 0).testBit j||(ms[j]?.getD 0).testBit i)&&o.dst != some t
   | none=>true)&&(!(isEff o&&isEff p)||(ms[i]?.getD 0).testBit j||(ms[j]?.getD 0).testBit i)
def dOk (es:List (List Nat)) (ops:List AOper):Bool :=
 let ms:=masks es
 (List.range ops.length).all fun i =>
  ((es[i]?.getD []).all fun e=>e<i) &&
  (List.range ops.length).all fun j=>i == j||(match ops[i]?,ops[j]? with
   | some o,some p=>pairOk ms o p i j
   | _,_=>false)
def dLohi (es:List (List Nat)) (ops:List AOper):List (Nat × Nat):=(List.range ops.length).map (lohiAt (ops.map isEff) (masks es))
theorem effN_eq:∀ (ops:List AOper) (i:Nat),effN ops i=((List.range ops.length).filter fun j=>((ops.map isEff)[j]?.getD false)&&decide (j<i)).length:=by
 intro ops
 induction ops with
 | nil=>intro i; simp [effN]
 | cons o r ih =>
  intro i
  cases i with
  | zero =>
   have:∀ l:List Nat,(l.filter fun _=>false).length=0:=by intro l; induction l<;>simp_all
   simp [effN,this]
  | succ i =>
   simp only [effN,ih i,List.length_cons,List.range_succ_eq_map,List.filter_cons,List.map_cons,List.getElem?_cons_zero,Option.getD_some,Nat.zero_lt_succ,decide_true,Bool.and_true,List.filter_map,List.length_map]
   have:((fun j=>((isEff o::r.map isEff)[j]?.getD false)&&decide (j<i+1)) ∘ Nat.succ)=fun j=>((r.map isEff)[j]?.getD false)&&decide (j<i):=by
    funext j; simp
   rw [this]
   by_cases h:isEff o=true
   ·simp [h]; omega
   ·simp [h]
theorem filter_le {p q:Nat→Bool} (l:List Nat) (h:∀ x∈l,p x=true→q x=true):(l.filter p).length≤(l.filter q).length:=by
 induction l with
 | nil=>simp
 | cons x l ih =>
  have:=ih (fun y hy=>h y (List.mem_cons_of_mem _ hy))
  simp only [List.filter_cons]
  by_cases hp:p x=true
  ·rw [if_pos hp,if_pos (h x (List.mem_cons_self ..) hp)]; simp; exact this
  ·rw [if_neg hp]
   by_cases hq:q x=true
   ·rw [if_pos hq]; simp; omega
   ·rw [if_neg hq]; exact this
theorem filter_eq {p q:Nat→Bool} (l:List Nat) (h:∀ x∈l,p x=q x):(l.filter p).length=(l.filter q).length :=
 Nat.le_antisymm (filter_le l fun x hx hp=>by rw [← h x hx]; exact hp) (filter_le l fun x hx hq=>by rw [h x hx]; exact hq)
end Go.Fx
namespace Go.Fx
open Go
set_option linter.unusedSimpArgs false
set_option linter.unusedVariables false
theorem mem_ready' {md:Region.Mode} {ops:Array Oper} {listed:Array Bool} {i:Nat} (h:i∈Region.ready md ops listed) :
  i<ops.size∧listed.getD i true=false∧∃ o,ops[i]? = some o∧∀ e∈o.after,Region.binds md e=true→listed.getD e.on false=true:=by
 unfold Region.ready at h
 simp only [List.mem_filter,List.mem_range,Bool.and_eq_true,Bool.not_eq_true'] at h
 obtain ⟨h1,h2,h3⟩:=h
 refine ⟨h1,h2,ops[i],Array.getElem?_eq_getElem h1,fun e he hb=>?_⟩
 rw [Array.getElem?_eq_getElem h1] at h3
 simp only [Option.map_some,Option.getD_some,Array.all_eq_true',Bool.or_eq_true,Bool.not_eq_true'] at h3
 rcases h3 e he with h|h
 ·rw [hb] at h; cases h
 ·exact h
theorem ready_of {md:Region.Mode} {ops:Array Oper} {listed:Array Bool} {i:Nat} {o:Oper} (h1:ops[i]? = some o) (h2:listed.getD i true=false) (h3:∀ e∈o.after,Region.binds md e=true→listed.getD e.on false=true):i∈Region.ready md ops listed:=by
 have hi:i<ops.size:=by
  rcases Nat.lt_or_ge i ops.size with h|h
  ·exact h
  ·rw [Array.getElem?_eq_none h] at h1; cases h1
 unfold Region.ready
 simp only [List.mem_filter,List.mem_range,Bool.and_eq_true,Bool.not_eq_true']
 refine ⟨hi,h2,?_⟩
 rw [h1]
 simp only [Option.map_some,Option.getD_some,Array.all_eq_true',Bool.or_eq_true,Bool.not_eq_true']
 intro e he
 cases hb:Region.binds md e with
 | false=>exact .inl rfl
 | true=>exact .inr (h3 e he hb)
theorem compOps_get {P:Program} {ops:Array Oper}:∀ {l:List Oper} {al:List AOper},compOps P ops l=some al→al.length=l.length∧∀ (i:Nat) o,l[i]? = some o→∃ p,al[i]? = some p∧p.dst=o.dst∧resT P o=p.op ∧
  (match o.guard with|none=>p.guard=none|some (j,want)=>∃ t,(ops[j]?).bind (·.dst)=some t∧p.guard=some (t,want))
 | [],al,h=>by simp only [compOps,Option.some.injEq] at h; subst h; exact ⟨rfl,fun i o h=>by simp at h⟩
 | o::l,al,h=>by
  simp only [compOps,Option.bind_eq_some_iff] at h
  obtain ⟨al',hal,h⟩:=h
  obtain ⟨h1,h2⟩:=compOps_get hal
  have hal2:∃ g,al=⟨o.dst,resT P o,g⟩::al'∧(match o.guard with|none=>g=none|some (j,want)=>∃ t,(ops[j]?).bind (·.dst)=some t∧g=some (t,want)):=by
   split at h
   ·rename_i h0; cases h; exact ⟨none,rfl,by rw [h0]⟩
   ·rename_i j want h0
    simp only [Option.map_eq_some_iff] at h
    obtain ⟨t,ht,rfl⟩:=h
    exact ⟨some (t,want),rfl,by rw [h0]; exact ⟨t,ht,rfl⟩⟩
  obtain ⟨g,rfl,hgu⟩:=hal2
  refine ⟨by simp [h1],fun i p hp=>?_⟩
  cases i with
  | zero =>
   simp only [List.getElem?_cons_zero,Option.some.injEq] at hp
   subst hp
   exact ⟨_,rfl,rfl,rfl,hgu⟩
  | succ i=>simpa using h2 i p (by simpa using hp)
theorem putT_length (ts:List Value) (d:Option Nat) (v:Value):(putT ts d v).length=ts.length:=by cases d<;>simp [putT]
theorem putT_get (ts:List Value) (d:Option Nat) (v:Value) (t:Nat):(putT ts d v)[t]? = if d=some t∧t<ts.length then some v else ts[t]?:=by
 cases d with
 | none=>simp [putT]
 | some d =>
  simp only [putT,List.getElem?_set,Option.some.injEq]
  by_cases h:d=t
  ·subst h
   by_cases h2:d<ts.length
   ·simp [h2]
   ·simp [h2]
  ·simp [h]
def cnt (al:List AOper) (L:Nat→Bool):Nat:=((List.range al.length).filter fun j=>((al.map isEff)[j]?.getD false)&&L j).length
structure Rg (P:Program) (call:CallF) (ops:Array Oper) (al:List AOper) (E:Nat→List Nat) (lo hi:Nat→Nat) (ms:List Mem) (ts0:List Value) (T:Nat→List Value) (V:Nat→Value):Prop where
 len:al.length=ops.size
 op:∀ (i:Nat) o,ops[i]? = some o→∃ p,al[i]? = some p∧p.dst=o.dst∧resT P o=p.op ∧
  (match o.guard with|none=>p.guard=none|some (j,want)=>∃ t,(ops[j]?).bind (·.dst)=some t∧p.guard=some (t,want))
 edges:∀ (i:Nat) o,ops[i]? = some o→E i=edgesOf o
 lt:∀ i e,e∈E i→e<i
 slot:∀ (i j:Nat) (o p:AOper) t,i≠j→al[i]? = some o→al[j]? = some p→p.dst=some t→(t∈o.looks→Anc E i j∨Anc E j i)∧o.dst≠some t
 chain:∀ (i j:Nat) (o p:AOper),i≠j→al[i]? = some o→al[j]? = some p→isEff o=true→isEff p=true→Anc E i j∨Anc E j i
 lo_le:∀ i L,(∀ j,Anc E i j→L j=true)→lo i≤cnt al L
 le_hi:∀ i L,(∀ j,L j=true→¬ Anc E j i)→cnt al L≤hi i
 zero:T 0=ts0
 next:∀ (i:Nat) o,al[i]? = some o→T (i+1)=putT (T i) o.dst (V i)
 eff:∀ (i:Nat) o,al[i]? = some o→wantedA (T i) o.guard=true→o.op.cls=.eff→∃ M M',ms[effN al i]? = some M∧ms[effN al i+1]? = some M'∧stepOp call (T i) M o.op=some (V i,M')
 read:∀ (i:Nat) o,al[i]? = some o→wantedA (T i) o.guard=true→o.op.cls=.read→∃ q,o.op.req (T i)=some q∧∀ k,lo i≤k→k≤hi i→∃ M,ms[k]? = some M∧q.run M=some (V i)
 pure:∀ (i:Nat) o,al[i]? = some o→wantedA (T i) o.guard=true→o.op.cls=.pure→∀ M,o.op.run (T i) M=some (V i,M)
 idle:∀ (i:Nat) o,al[i]? = some o→wantedA (T i) o.guard=false→V i=undef∧(o.op.cls=.eff→∃ M,ms[effN al i]? = some M∧ms[effN al i+1]? = some M)
section
variable {P:Program} {call:CallF} {ops:Array Oper} {al:List AOper} {E:Nat→List Nat} {lo hi:Nat→Nat} {ms:List Mem} {ts0:List Value} {T:Nat→List Value} {V:Nat→Value}
def dstAt (al:List AOper) (i:Nat):Option Nat:=(al[i]?).bind (·.dst)
def Fr (al:List AOper) (V:Nat→Value) (ts0:List Value) (L:Nat→Bool) (ts:List Value):Prop :=
 ts.length=ts0.length∧(∀ i d,L i=true→dstAt al i=some d→d<ts0.length→ts[d]? = some (V i))∧(∀ d,(∀ i,L i=true→dstAt al i≠some d)→ts[d]? = ts0[d]?)
theorem Rg.dst_ne (R:Rg P call ops al E lo hi ms ts0 T V) {i j d:Nat} (hi:dstAt al i=some d) (hj:dstAt al j=some d):i=j:=by
 rcases Nat.decEq i j with h|h
 ·simp only [dstAt,Option.bind_eq_some_iff] at hi hj
  obtain ⟨o,ho,hod⟩:=hi
  obtain ⟨p,hp,hpd⟩:=hj
  exact absurd hod (R.slot i j o p d h ho hp hpd).2
 ·exact h
theorem Rg.fr (R:Rg P call ops al E lo hi ms ts0 T V):∀ i,i≤al.length→Fr al V ts0 (fun j=>decide (j<i)) (T i):=by
 intro i
 induction i with
 | zero =>
  intro _
  rw [R.zero]
  exact ⟨rfl,fun i d h=>by simp at h,fun _ _=>rfl⟩
 | succ i ih =>
  intro hi'
  obtain ⟨h1,h2,h3⟩:=ih (by omega)
  have ho:al[i]? = some (al[i]'(by omega)):=List.getElem?_eq_getElem (by omega)
  generalize al[i]'(by omega)=o at ho
  rw [R.next i o ho]
  refine ⟨by rw [putT_length,h1],fun j d hj hd hlt=>?_,fun d hd=>?_⟩
  ·rw [putT_get,h1]
   simp only [decide_eq_true_eq] at hj
   by_cases hji:j=i
   ·subst hji
    have:o.dst=some d:=by simpa [dstAt,ho] using hd
    rw [if_pos ⟨this,hlt⟩]
   ·rw [if_neg (fun hh=>hji (R.dst_ne hd (by simpa [dstAt,ho] using hh.1)))]
    exact h2 j d (by simp; omega) hd hlt
  ·rw [putT_get]
   have:o.dst≠some d:=by
    have:=hd i (by simp)
    simpa [dstAt,ho] using this
   rw [if_neg (fun hh=>this hh.1)]
   exact h3 d (fun j hj=>hd j (by simp at hj ⊢; omega))
theorem Fr.put (R:Rg P call ops al E lo hi ms ts0 T V) {L:Nat→Bool} {ts:List Value} (h:Fr al V ts0 L ts) {i:Nat} {o:AOper} (ho:al[i]? = some o) {L':Nat→Bool} (hL:∀ j,L' j=true↔j=i∨L j=true):Fr al V ts0 L' (putT ts o.dst (V i)):=by
 obtain ⟨h1,h2,h3⟩:=h
 refine ⟨by rw [putT_length,h1],fun j d hj hd hlt=>?_,fun d hd=>?_⟩
 ·rw [putT_get,h1]
  by_cases hji:j=i
  ·subst hji
   have:o.dst=some d:=by simpa [dstAt,ho] using hd
   rw [if_pos ⟨this,hlt⟩]
  ·rw [if_neg (fun hh=>hji (R.dst_ne hd (by simpa [dstAt,ho] using hh.1)))]
   exact h2 j d (((hL j).1 hj).resolve_left hji) hd hlt
 ·rw [putT_get]
  have:o.dst≠some d:=by
   have:=hd i ((hL i).2 (.inl rfl))
   simpa [dstAt,ho] using this
  rw [if_neg (fun hh=>this hh.1)]
  exact h3 d (fun j hj=>hd j ((hL j).2 (.inr hj)))
theorem Rg.agree (R:Rg P call ops al E lo hi ms ts0 T V) {L:Nat→Bool} {ts:List Value} (h:Fr al V ts0 L ts) (hL:∀ x,L x=true→∀ e∈E x,L e=true) {i:Nat} {o:AOper} (ho:al[i]? = some o) (hi':L i=false) (hr:∀ e∈E i,L e=true):Agree o.looks ts (T i):=by
 intro t ht
 have hlen:i<al.length:=by
  rcases Nat.lt_or_ge i al.length with h|h
  ·exact h
  ·rw [List.getElem?_eq_none h] at ho; cases ho
 obtain ⟨g1,g2,g3⟩:=R.fr i (by omega)
 obtain ⟨f1,f2,f3⟩:=h
 by_cases hlt:t<ts0.length
 ·by_cases hex:∃ j,dstAt al j=some t
  ·obtain ⟨j,hj⟩:=hex
   by_cases hji:j=i
   ·subst hji
    rw [f3 t (fun k hk hkd=>by rw [R.dst_ne hkd hj] at hk; rw [hk] at hi'; cases hi'),g3 t (fun k hk hkd=>by rw [R.dst_ne hkd hj] at hk; simp at hk)]
   ·have hj':=hj
    simp only [dstAt,Option.bind_eq_some_iff] at hj
    obtain ⟨p,hp,hpd⟩:=hj
    rcases (R.slot i j o p t (Ne.symm hji) ho hp hpd).1 ht with ha|ha
    ·have hLj:L j=true:=ha.listed (L:=fun x=>L x=true) hL hr
     have hlt':=ha.lt R.lt
     rw [f2 j t hLj hj' hlt,g2 j t (by simpa using hlt') hj' hlt]
    ·have hLj:L j=false:=by
      cases hh:L j with
      | false=>rfl
      | true =>
       have:=ha.listed (L:=fun x=>L x=true) hL (hL j hh)
       rw [hi'] at this; cases this
     have hlt':=ha.lt R.lt
     rw [f3 t (fun k hk hkd=>by rw [R.dst_ne hkd hj'] at hk; rw [hk] at hLj; cases hLj),g3 t (fun k hk hkd=>by rw [R.dst_ne hkd hj'] at hk; simp at hk; omega)]
  ·have hn:∀ k,dstAt al k≠some t:=fun k hk=>hex ⟨k,hk⟩
   rw [f3 t (fun k _=>hn k),g3 t (fun k _=>hn k)]
 ·rw [List.getElem?_eq_none (by omega),List.getElem?_eq_none (by omega)]
theorem cnt_put (al:List AOper) {L L':Nat→Bool} {i:Nat} {o:AOper} (ho:al[i]? = some o) (hi:L i=false) (hL:∀ j,L' j=true↔j=i∨L j=true):cnt al L'=cnt al L+(if isEff o then 1 else 0):=by
 have hlen:i<al.length:=by
  rcases Nat.lt_or_ge i al.length with h|h
  ·exact h
  ·rw [List.getElem?_eq_none h] at ho; cases ho
 unfold cnt
 have hL':∀ j,L' j=(decide (j=i)||L j):=by
  intro j
  rw [Bool.eq_iff_iff]; simp [hL j]
 have key:∀ (l:List Nat),l.Nodup→(l.filter fun j=>((al.map isEff)[j]?.getD false)&&L' j).length=(l.filter fun j=>((al.map isEff)[j]?.getD false)&&L j).length+(if i∈l∧isEff o=true then 1 else 0):=by
  intro l
  induction l with
  | nil=>intro _; simp
  | cons x l ih =>
   intro hnd
   rw [List.nodup_cons] at hnd
   have:=ih hnd.2
   simp only [List.filter_cons,hL',List.mem_cons]
   simp only [hL'] at this
   by_cases hx:x=i
   ·subst hx
    have hx':(al.map isEff)[x]?.getD false=isEff o:=by simp [ho]
    simp only [hx',hi,decide_true,Bool.true_or,Bool.and_true,Bool.and_false,Bool.false_eq_true,if_false,true_or,true_and]
    have hnot:¬ (x∈l∧isEff o=true):=fun h=>hnd.1 h.1
    rw [if_neg hnot] at this
    by_cases he:isEff o=true
    ·rw [if_pos he,if_pos he,List.length_cons,this]
    ·rw [if_neg he,if_neg he,this]
   ·simp only [hx,decide_false,Bool.false_or,Ne.symm hx,false_or]
    have hx2:(i=x)=False:=by simp; exact fun h=>hx h.symm
    by_cases he:((al.map isEff)[x]?.getD false&&L x)=true
    ·rw [if_pos he,if_pos he,List.length_cons,List.length_cons,this]; omega
    ·rw [if_neg he,if_neg he,this]
 rw [key _ List.nodup_range]
 simp [hlen]
theorem Rg.cnt_eff (R:Rg P call ops al E lo hi ms ts0 T V) {L:Nat→Bool} (hL:∀ x,L x=true→∀ e∈E x,L e=true) (hsub:∀ x,L x=true→x<al.length) {i:Nat} {o:AOper} (ho:al[i]? = some o) (he:isEff o=true) (hi':L i=false) (hr:∀ e∈E i,L e=true):cnt al L=effN al i:=by
 rw [effN_eq]
 unfold cnt
 refine filter_eq _ fun j hj=>?_
 cases hje:(al.map isEff)[j]?.getD false with
 | false=>rfl
 | true =>
  have hjl:j<al.length:=by simpa using hj
  have hp:al[j]? = some al[j]:=List.getElem?_eq_getElem hjl
  have hpe:isEff al[j]=true:=by simpa [hp] using hje
  by_cases hji:j=i
  ·subst hji; simp [hi']
  ·rcases R.chain i j o al[j] (Ne.symm hji) ho hp he hpe with ha|ha
   ·have hLj:L j=true:=ha.listed (L:=fun x=>L x=true) hL hr
    have hlt:=ha.lt R.lt
    simp [hLj,hlt]
   ·have hLj:L j=false:=by
     cases hh:L j with
     | false=>rfl
     | true =>
      have:=ha.listed (L:=fun x=>L x=true) hL (hL j hh)
      rw [hi'] at this; cases this
    have hlt:=ha.lt R.lt
    simp [hLj]; omega
end
end Go.Fx
namespace Go.Fx
open Go
set_option linter.unusedSimpArgs false
set_option linter.unusedVariables false
section
variable {P:Program} {call:CallF} {ops:Array Oper} {al:List AOper} {E:Nat→List Nat} {lo hi:Nat→Nat} {ms:List Mem} {ts0:List Value} {T:Nat→List Value} {V:Nat→Value}
def isL (listed:Array Bool) (i:Nat):Bool:=listed.getD i false
structure J (P:Program) (al:List AOper) (E:Nat→List Nat) (ms:List Mem) (ts0:List Value) (V:Nat→Value) (φ0:Ren) (m0:Mem) (w0:World) (a0:Act) (listed:Array Bool) (a:Act) (w:World):Prop where
 sz:listed.size=al.length
 closed:∀ x,isL listed x=true→∀ e∈E x,isL listed e=true
 st:∃ φ ts M,VRs φ ts a.tmps.toList∧Inv φ M w∧Frm φ0 m0 w0 φ M w∧ms[cnt al (isL listed)]? = some M∧a.defers=a0.defers∧Fr al V ts0 (isL listed) ts
theorem isL_set {listed:Array Bool} {i:Nat} (hi:i<listed.size) (j:Nat):isL (listed.setIfInBounds i true) j=true↔j=i∨isL listed j=true:=by
 unfold isL
 simp only [Array.getD_eq_getD_getElem?,Array.getElem?_setIfInBounds]
 by_cases h:i=j
 ·subst h; simp [hi]
 ·simp [h,Ne.symm h]
theorem getD_tf {listed:Array Bool} {i:Nat} (h:listed.getD i true=false):isL listed i=false:=by
 unfold isL
 rcases Nat.lt_or_ge i listed.size with h'|h'
 ·simp [h'] at h ⊢; exact h
 ·simp [Array.getElem?_eq_none h'] at h ⊢
theorem Rg.step {ro:Option Nat} (hc:CallOk P call) (hg:∀ f args m r,f<yBase→call f args m=some r→goodFn P f=true) (R:Rg P call ops al E lo hi ms ts0 T V) {φ0:Ren} {m0:Mem} {w0:World} {a0 a:Act} {w:World} {listed:Array Bool}
  (h:J P al E ms ts0 V φ0 m0 w0 a0 listed a w) {i:Nat} (hr:i∈Region.ready .any ops listed) {K:Act→World→Prop} {Q:Exit→Act→World→Prop} (hK:∀ a' w',J P al E ms ts0 V φ0 m0 w0 a0 (listed.setIfInBounds i true) a' w'→K a' w'):wpOpIn (rf ro) 0 P ops Q i K a w:=by
 obtain ⟨hi1,hi2,o,ho,hedge⟩:=mem_ready' hr
 obtain ⟨p,hp,hpd,hpr,hpg⟩:=R.op i o ho
 have hLi:=getD_tf hi2
 have hEl:∀ e∈E i,isL listed e=true:=by
  intro e he
  rw [R.edges i o ho] at he
  simp only [edgesOf,List.mem_filterMap] at he
  obtain ⟨x,hx,hxe⟩:=he
  split at hxe
  ·rename_i hb
   cases hxe
   exact hedge x (by simpa using hx) hb
  ·cases hxe
 obtain ⟨φ,ts,M,hvr,hinv,hfrm,hms,hdef,hfr⟩:=h.st
 have hag:=R.agree hfr h.closed hp hLi hEl
 have hagS:Agree p.op.slots ts (T i):=fun t ht=>hag t (by simp [AOper.looks,ht])
 have hsz:i<listed.size:=by rw [h.sz,R.len]; exact hi1
 have hset:=isL_set hsz
 have hclosed':∀ x,isL (listed.setIfInBounds i true) x=true→∀ e∈E x,isL (listed.setIfInBounds i true) e=true:=by
  intro x hx e he
  rcases (hset x).1 hx with rfl|hx
  ·exact (hset e).2 (.inr (hEl e he))
  ·exact (hset e).2 (.inr (h.closed x hx e he))
 have hcnt:=cnt_put al hp hLi hset
 have hwantT:wantedA ts p.guard=wantedA (T i) p.guard:=by
  cases hgd:p.guard with
  | none=>rfl
  | some g =>
   obtain ⟨t,want⟩:=g
   have:ts[t]? = (T i)[t]?:=hag t (by simp [AOper.looks,hgd])
   simp [wantedA,this]
 have hw:Region.wanted o (yielded ops a.tmps)=wantedA (T i) p.guard:=by rw [← hwantT]; exact wanted_ok hvr hpg
 have fin:∀ (V':Value) (w':World) (φ':Ren) (M':Mem),VR φ' (V i) V'→Inv φ' M' w'→Frm φ M w φ' M' w'→ms[cnt al (isL (listed.setIfInBounds i true))]? = some M'→K (a.put o.dst V') w':=by
  intro V' w' φ' M' h1 h2 h3 h4
  refine hK _ _ ⟨by rw [Array.size_setIfInBounds]; exact h.sz,hclosed',φ',putT ts p.dst (V i),M',?_,h2,hfrm.trans h3,h4,by rw [put_defers,hdef],hfr.put R hp hset⟩
  rw [← hpd]
  exact put_VRs (hvr.mono h3.ren) p.dst h1
 unfold wpOpIn
 rw [ho]
 simp only
 rw [hw]
 cases hwant:wantedA (T i) p.guard with
 | false =>
  simp only [Bool.false_eq_true,if_false]
  refine ⟨fun _ _=>trivial,?_⟩
  obtain ⟨hV,hM⟩:=R.idle i p hp hwant
  have hVu:VR φ (V i) undef:=by rw [hV]; exact VR.undef φ
  refine fin undef w φ M hVu hinv (Frm.refl φ M w) ?_
  rw [hcnt]
  by_cases he:isEff p=true
  ·rw [if_pos he]
   obtain ⟨M1,hM1,hM2⟩:=hM (by simpa [isEff] using he)
   have hce:=R.cnt_eff h.closed (fun x hx=>by
    rcases Nat.lt_or_ge x listed.size with h'|h'
    ·rw [← h.sz]; exact h'
    ·simp [isL,Array.getElem?_eq_none h'] at hx) hp he hLi hEl
   rw [hce] at hms ⊢
   rw [hms] at hM1; cases hM1
   exact hM2
  ·rw [if_neg he]; exact hms
 | true =>
  simp only [if_true]
  cases hcl:p.op.cls with
  | eff =>
   obtain ⟨M1,M2,hM1,hM2,hs⟩:=R.eff i p hp hwant hcl
   have he:isEff p=true:=by simp [isEff,hcl]
   have hce:=R.cnt_eff h.closed (fun x hx=>by
    rcases Nat.lt_or_ge x listed.size with h'|h'
    ·rw [← h.sz]; exact h'
    ·simp [isL,Array.getElem?_eq_none h'] at hx) hp he hLi hEl
   rw [hce] at hms
   rw [hms] at hM1; cases hM1
   rw [← stepOp_agree call M hagS] at hs
   refine sound_step hc hg hpr hinv hvr hs ?_
   intro V' w' φ' h1 h2 h3
   refine fin V' w' φ' M2 h1 h2 h3 ?_
   rw [hcnt,if_pos he,hce]
   exact hM2
  | read =>
   have he:isEff p=false:=by simp [isEff,hcl]
   obtain ⟨q,hq,hall⟩:=R.read i p hp hwant hcl
   have hlo:=R.lo_le i (isL listed) (fun j hj=>hj.listed (L:=fun x=>isL listed x=true) h.closed hEl)
   have hhi:=R.le_hi i (isL listed) (fun j hj ha=>by
    have:=ha.listed (L:=fun x=>isL listed x=true) h.closed (h.closed j hj)
    rw [hLi] at this; cases this)
   obtain ⟨M1,hM1,hrun⟩:=hall _ hlo hhi
   rw [hms] at hM1; cases hM1
   rw [← req_agree hagS] at hq
   have hs:stepOp call ts M p.op=some (V i,M):=by rw [stepOp_other call ts M (req_isCall hq)]; exact run_of_req hq hrun
   refine sound_step hc hg hpr hinv hvr hs ?_
   intro V' w' φ' h1 h2 h3
   refine fin V' w' φ' M h1 h2 h3 ?_
   rw [hcnt,if_neg (by simp [he])]; exact hms
  | pure =>
   have he:isEff p=false:=by simp [isEff,hcl]
   have hall:=R.pure i p hp hwant hcl M
   have hnc:p.op.isCall=false:=by
    cases hop:p.op<;>rw [hop] at hcl<;>first|rfl|simp [AOp.cls] at hcl
   have hs:stepOp call ts M p.op=some (V i,M):=by rw [stepOp_agree call M hagS,stepOp_other call _ M hnc]; exact hall
   refine sound_step hc hg hpr hinv hvr hs ?_
   intro V' w' φ' h1 h2 h3
   refine fin V' w' φ' M h1 h2 h3 ?_
   rw [hcnt,if_neg (by simp [he])]; exact hms
def left (listed:Array Bool) (n:Nat):Nat:=((List.range n).filter fun i=>!isL listed i).length
theorem left_set {listed:Array Bool} {i n:Nat} (hi:i<listed.size) (hn:i<n) (hl:isL listed i=false):left (listed.setIfInBounds i true) n+1=left listed n:=by
 unfold left
 have hset:=isL_set hi
 have key:∀ (l:List Nat),l.Nodup→(l.filter fun j=>!isL (listed.setIfInBounds i true) j).length+(if i∈l then 1 else 0)=(l.filter fun j=>!isL listed j).length:=by
  intro l
  induction l with
  | nil=>intro _; rfl
  | cons x l ih =>
   intro hnd
   rw [List.nodup_cons] at hnd
   have:=ih hnd.2
   simp only [List.filter_cons,List.mem_cons]
   by_cases hx:x=i
   ·subst hx
    have h1:isL (listed.setIfInBounds x true) x=true:=(hset x).2 (.inl rfl)
    rw [if_neg hnd.1] at this
    simp only [h1,hl,Bool.not_true,Bool.not_false,Bool.false_eq_true,if_false,if_true,true_or,List.length_cons]
    omega
   ·have h1:isL (listed.setIfInBounds i true) x=isL listed x:=by
     rw [Bool.eq_iff_iff,hset x]; simp [hx]
    simp only [h1,Ne.symm hx,false_or]
    cases isL listed x<;>simp<;>omega
 have:=key _ (List.nodup_range (n:=n))
 simpa [hn] using this
theorem Rg.any {ro:Option Nat} (hc:CallOk P call) (hg:∀ f args m r,f<yBase→call f args m=some r→goodFn P f=true) (R:Rg P call ops al E lo hi ms ts0 T V) {φ0:Ren} {m0:Mem} {w0:World} {a0:Act} {Q:Exit→Act→World→Prop}
  (hQ:∀ φ a w M,VRs φ (T al.length) a.tmps.toList→ms[effN al al.length]? = some M→Inv φ M w→Frm φ0 m0 w0 φ M w→a.defers=a0.defers→Q .normal a w) :
  ∀ (fuel:Nat) (listed:Array Bool) (a:Act) (w:World),left listed al.length=fuel→J P al E ms ts0 V φ0 m0 w0 a0 listed a w→wpAnyIn (rf ro) 0 P .any ops Q fuel listed a w:=by
 have done:∀ (listed:Array Bool) (a:Act) (w:World),left listed al.length=0→J P al E ms ts0 V φ0 m0 w0 a0 listed a w→Region.ready .any ops listed=[]∧Q .normal a w:=by
  intro listed a w h0 h
  have hall:∀ i,i<al.length→isL listed i=true:=by
   intro i hi
   unfold left at h0
   have:=List.length_eq_zero_iff.1 h0
   rw [List.filter_eq_nil_iff] at this
   simpa using this i (by simpa using hi)
  refine ⟨?_,?_⟩
  ·apply List.eq_nil_iff_forall_not_mem.2
   intro i hr
   obtain ⟨hi1,hi2,_⟩:=mem_ready' hr
   have:=hall i (by rw [R.len]; exact hi1)
   rw [getD_tf hi2] at this; cases this
  ·obtain ⟨φ,ts,M,hvr,hinv,hfrm,hms,hdef,f1,f2,f3⟩:=h.st
   obtain ⟨g1,g2,g3⟩:=R.fr al.length (Nat.le_refl _)
   have hLt:∀ i,isL listed i=true→i<al.length:=by
    intro i hi
    rcases Nat.lt_or_ge i listed.size with h'|h'
    ·rw [← h.sz]; exact h'
    ·simp [isL,Array.getElem?_eq_none h'] at hi
   have hts:ts=T al.length:=by
    apply List.ext_getElem?
    intro d
    by_cases hlt:d<ts0.length
    ·by_cases hex:∃ j,dstAt al j=some d
     ·obtain ⟨j,hj⟩:=hex
      have hjl:j<al.length:=by
       rcases Nat.lt_or_ge j al.length with h'|h'
       ·exact h'
       ·simp [dstAt,List.getElem?_eq_none h'] at hj
      rw [f2 j d (hall j hjl) hj hlt,g2 j d (by simpa using hjl) hj hlt]
     ·rw [f3 d (fun k _ hk=>hex ⟨k,hk⟩),g3 d (fun k _ hk=>hex ⟨k,hk⟩)]
    ·rw [List.getElem?_eq_none (by omega),List.getElem?_eq_none (by omega)]
   have hcnt:cnt al (isL listed)=effN al al.length:=by
    rw [effN_eq]
    unfold cnt
    refine filter_eq _ fun j hj=>?_
    have hj':j<al.length:=by simpa using hj
    simp [hall j hj',hj']
   rw [hcnt] at hms
   exact hQ φ a w M (hts ▸ hvr) hms hinv hfrm hdef
 intro fuel
 induction fuel with
 | zero=>intro listed a w h0 h; exact done listed a w h0 h
 | succ fuel ih =>
  intro listed a w hf h
  refine ⟨fun hnil=>?_,fun i hr=>?_⟩
  ·exfalso
   have hex:∃ i,i<al.length∧isL listed i=false∧∀ j,j<i→isL listed j=true:=by
    have hne:∃ i,i<al.length∧isL listed i=false:=by
     unfold left at hf
     cases hl:(List.range al.length).filter (fun i=>!isL listed i) with
     | nil=>rw [hl] at hf; simp at hf
     | cons x l =>
      have:x∈(List.range al.length).filter (fun i=>!isL listed i):=by rw [hl]; exact List.mem_cons_self ..
      simp only [List.mem_filter,List.mem_range,Bool.not_eq_true'] at this
      exact ⟨x,this⟩
    obtain ⟨i,h1,h2⟩:=hne
    induction i using Nat.strongRecOn with
    | _ i ihi =>
     by_cases hm:∀ j,j<i→isL listed j=true
     ·exact ⟨i,h1,h2,hm⟩
     ·have:∃ j,j<i∧isL listed j=false:=by
       apply Classical.byContradiction
       intro hn
       apply hm
       intro j hj
       cases hh:isL listed j with
       | true=>rfl
       | false=>exact absurd ⟨j,hj,hh⟩ hn
      obtain ⟨j,hj,hj2⟩:=this
      exact ihi j hj (by omega) hj2
   obtain ⟨i,h1,h2,h3⟩:=hex
   have hi1:i<ops.size:=by rw [← R.len]; exact h1
   have ho:ops[i]? = some ops[i]:=Array.getElem?_eq_getElem hi1
   have hmem:i∈Region.ready .any ops listed:=by
    refine ready_of ho ?_ (fun e he hb=>?_)
    ·have:i<listed.size:=by rw [h.sz]; exact h1
     unfold isL at h2
     simp [this] at h2 ⊢; exact h2
    ·have hmemE:e.on∈E i:=by
      rw [R.edges i _ ho]
      simp only [edgesOf,List.mem_filterMap]
      exact ⟨e,by simpa using he,by rw [if_pos hb]⟩
     exact h3 e.on (R.lt i e.on hmemE)
   rw [hnil] at hmem; cases hmem
  ·have hi:=mem_ready' hr
   refine R.step hc hg h hr (fun a' w' h'=>ih _ a' w' ?_ h')
   have:=left_set (n:=al.length) (listed:=listed) (i:=i) (by rw [h.sz,R.len]; exact hi.1) (by rw [R.len]; exact hi.1) (getD_tf hi.2.1)
   omega
end
theorem sound_draw {ro:Option Nat} {P:Program} {call:CallF} (hc:CallOk P call) (hg:∀ f args m r,f<yBase→call f args m=some r→goodFn P f=true) (hm:P.follows .mixedOrders=true) {id:Nat} {ops:Array Oper} {al:List AOper} {ts:List Value} {m:Mem} {a:Act} {w:World} {φ:Ren} {ts':List Value} {m':Mem} {Q:Exit→Act→World→Prop}
  (hal:compOps P ops ops.toList=some al) (hd:dOk (ops.toList.map edgesOf) al=true) (hi:Inv φ m w) (ht:VRs φ ts a.tmps.toList) (hr:runD call al (dLohi (ops.toList.map edgesOf) al) ts m=some (ts',m'))
  (hQ:∀ a' w',St φ m w a ts' m' a' w'→Q .normal a' w'):(Code.region id ops true).wpIn (rf ro) 0 P Q a w:=by
 simp only [runD,Option.bind_eq_some_iff] at hr
 obtain ⟨⟨ts1,m1,ms,rq⟩,htr,hr⟩:=hr
 split at hr
 ·rename_i hok
  cases hr
  obtain ⟨T,V,hT0,hTn,hms0,hmsn,hfact⟩:=facts call al _ ts m _ _ ms rq htr
  obtain ⟨hlen,hops⟩:=compOps_get hal
  have hlen':al.length=ops.size:=by rw [hlen]; simp
  generalize hes:ops.toList.map edgesOf=es at hd htr hfact
  have hesl:es.length=al.length:=by rw [← hes,hlen']; simp
  have hE:∀ (i:Nat) o,ops[i]? = some o→es[i]?.getD []=edgesOf o:=by
   intro i o ho
   rw [← hes]; simp [ho]
  have hEn:∀ (i:Nat),al.length≤i→es[i]?.getD []=[]:=by
   intro i hi
   rw [List.getElem?_eq_none (by omega)]; rfl
  have hanc:∀ i k,(masks es)[i]? = some k→∀ j,k.testBit j=true→Anc (fun i=>es[i]?.getD []) i j :=
   masks_anc (fun i=>es[i]?.getD []) es [] (fun i x hx=>by simp [hx]) (fun i k h=>by simp at h)
  have hanc':∀ i j,((masks es)[i]?.getD 0).testBit j=true→Anc (fun i=>es[i]?.getD []) i j:=by
   intro i j h
   cases hk:(masks es)[i]? with
   | none=>rw [hk] at h; simp at h
   | some k=>rw [hk] at h; exact hanc i k hk j h
  unfold dOk at hd
  simp only [List.all_eq_true,List.mem_range,Bool.and_eq_true,Bool.or_eq_true,beq_iff_eq,decide_eq_true_eq] at hd
  have hlt:∀ (i e:Nat),e∈es[i]?.getD []→e<i:=by
   intro i e he
   rcases Nat.lt_or_ge i al.length with h'|h'
   ·exact (hd i h').1 e he
   ·rw [hEn i h'] at he; cases he
  have hpair:∀ (i j:Nat) (o p:AOper),i≠j→al[i]? = some o→al[j]? = some p→pairOk (masks es) o p i j=true:=by
   intro i j o p hij ho hp
   have hi:i<al.length:=by
    rcases Nat.lt_or_ge i al.length with h|h
    ·exact h
    ·rw [List.getElem?_eq_none h] at ho; cases ho
   have hj:j<al.length:=by
    rcases Nat.lt_or_ge j al.length with h|h
    ·exact h
    ·rw [List.getElem?_eq_none h] at hp; cases hp
   rcases (hd i hi).2 j hj with h|h
   ·exact absurd h hij
   ·rw [ho,hp] at h; exact h
  have R:Rg P call ops al (fun i=>es[i]?.getD []) (fun i=>(dLohi es al)[i]?.getD (0,0) |>.1) (fun i=>if i<al.length then ((dLohi es al)[i]?.getD (0,0)).2 else al.length) ms ts T V:=by
   have hdl:∀ i,i<al.length→(dLohi es al)[i]?.getD (0,0)=lohiAt (al.map isEff) (masks es) i:=by
    intro i hi; simp [dLohi,hi]
   refine ⟨hlen',fun i o ho=>hops i o (by simpa using ho),fun i o ho=>hE i o ho,hlt,fun i j o p t hij ho hp hpt=>?_,fun i j o p hij ho hp hoe hpe=>?_,fun i L hL=>?_,fun i L hL=>?_,hT0,fun i o ho=>(hfact i o ho).1,fun i o ho hw hcl=>?_,fun i o ho hw hcl=>?_,fun i o ho hw hcl=>?_,fun i o ho hw=>?_⟩
   ·have:=hpair i j o p hij ho hp
    simp only [pairOk,hpt,Bool.and_eq_true,Bool.or_eq_true,Bool.not_eq_true',bne_iff_ne,ne_eq] at this
    refine ⟨fun hmem=>?_,this.1.2⟩
    rcases this.1.1 with (h|h)|h
    ·rw [List.contains_eq_mem] at h; simp [hmem] at h
    ·exact .inl (hanc' i j h)
    ·exact .inr (hanc' j i h)
   ·have:=hpair i j o p hij ho hp
    simp only [pairOk,Bool.and_eq_true,Bool.or_eq_true,Bool.not_eq_true',Bool.and_eq_false_iff] at this
    rcases this.2 with (h|h)|h
    ·rcases h with h|h
     ·rw [hoe] at h; cases h
     ·rw [hpe] at h; cases h
    ·exact .inl (hanc' i j h)
    ·exact .inr (hanc' j i h)
   ·rcases Nat.lt_or_ge i al.length with hi|hi
    ·rw [hdl i hi]
     unfold cnt
     simp only [lohiAt,List.length_map]
     refine filter_le _ fun j hj hp=>?_
     simp only [Bool.and_eq_true] at hp ⊢
     exact ⟨hp.1,hL j (hanc' i j hp.2)⟩
    ·have:(dLohi es al)[i]? = none:=List.getElem?_eq_none (by simp [dLohi]; omega)
     simp [this]
   ·rcases Nat.lt_or_ge i al.length with hi|hi
    ·rw [if_pos hi,hdl i hi]
     unfold cnt
     simp only [lohiAt,List.length_map]
     refine filter_le _ fun j hj hp=>?_
     simp only [Bool.and_eq_true,Bool.not_eq_true'] at hp ⊢
     refine ⟨hp.1,?_⟩
     cases hh:((masks es)[j]?.getD 0).testBit i with
     | false=>rfl
     | true=>exact absurd (hanc' j i hh) (hL j hp.2)
    ·rw [if_neg (by omega)]
     unfold cnt
     have:=List.length_filter_le (fun j=>((al.map isEff)[j]?.getD false)&&L j) (List.range al.length)
     simpa using this
   ·rcases (hfact i o ho).2 with ⟨_,h2,_,_⟩|⟨h1,_⟩
    ·exact h2 hcl
    ·rw [hw] at h1; cases h1
   ·rcases (hfact i o ho).2 with ⟨_,_,h3,_⟩|⟨h1,_⟩
    ·obtain ⟨q,hq,hmem⟩:=h3 hcl
     refine ⟨q,hq,fun k hk1 hk2=>?_⟩
     have hi:i<al.length:=by
      rcases Nat.lt_or_ge i al.length with h|h
      ·exact h
      ·rw [List.getElem?_eq_none h] at ho; cases ho
     rw [if_pos hi] at hk2
     have:=List.all_eq_true.1 hok _ hmem
     simp only [okReq,List.all_eq_true,List.mem_range] at this
     have hk:=this (k - ((dLohi es al)[i]?.getD (0,0)).1) (by omega)
     rw [show ((dLohi es al)[i]?.getD (0,0)).1+(k - ((dLohi es al)[i]?.getD (0,0)).1)=k by omega] at hk
     split at hk
     ·rename_i M hM
      split at hk
      ·rename_i u hu
       have:=veq_eq _ _ hk
       subst this
       exact ⟨M,hM,hu⟩
      ·cases hk
     ·cases hk
    ·rw [hw] at h1; cases h1
   ·rcases (hfact i o ho).2 with ⟨_,_,_,h4⟩|⟨h1,_⟩
    ·exact h4 hcl
    ·rw [hw] at h1; cases h1
   ·rcases (hfact i o ho).2 with ⟨h1,_⟩|⟨_,h2,h3⟩
    ·rw [hw] at h1; cases h1
    ·exact ⟨h2,h3⟩
  refine wpIn_region_any hm ?_
  have hleft:left (Array.replicate ops.size false) al.length=ops.size:=by
   unfold left
   have:(List.range al.length).filter (fun i=>!isL (Array.replicate ops.size false) i)=List.range al.length:=by
    rw [List.filter_eq_self]
    intro i hi
    have hi':i<ops.size:=by rw [← hlen']; simpa using hi
    simp [isL,hi']
   rw [this,List.length_range,hlen']
  refine R.any (φ0:=φ) (m0:=m) (w0:=w) (a0:=a) hc hg (fun φ' a' w' M h1 h2 h3 h4 h5=>?_) ops.size _ a _ hleft ?_
  ·rw [hTn] at h1
   rw [hmsn] at h2; cases h2
   exact hQ a' w' ⟨φ',h1,h3,h4,h5⟩
  ·have hnone:∀ i,isL (Array.replicate ops.size false) i=false:=by
    intro i
    unfold isL
    rcases Nat.lt_or_ge i ops.size with h|h
    ·simp [h]
    ·simp [h]
   refine ⟨by simp [hlen'],(fun x hx=>absurd hx (by rw [hnone x]; decide)),φ,ts,m,ht,hi.drawn rfl,Frm.drawn rfl rfl rfl rfl,?_,rfl,rfl,(fun i d h=>absurd h (by rw [hnone i]; decide)),fun d _=>rfl⟩
   have:cnt al (isL (Array.replicate ops.size false))=0:=by
    unfold cnt
    rw [List.length_eq_zero_iff,List.filter_eq_nil_iff]
    intro i _
    simp [hnone i]
   rw [this]; exact hms0
 ·cases hr
end Go.Fx
