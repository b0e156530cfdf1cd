/- Parts of a proof: FxLive, FxDec, FxRun, FxHook. Conditions: none. -/
import Derived.Below
import Derived.Test.YtnngjdfadfblmaaGreatDoorQd10
namespace Go.Fx
open Go
set_option linter.unusedSimpArgs false
set_option linter.unusedVariables false
def bitOf (t:Nat):Nat:=1 <<< t
def lks:List Nat→Nat→Nat
 | [],L=>L
 | t::l,L=>lks l L ||| bitOf t
def clr (L:Nat):Option Nat→Nat
 | none=>L
 | some t=>if L.testBit t then L ^^^ bitOf t else L
theorem bitOf_bit (t j:Nat):(bitOf t).testBit j=decide (t=j):=by
 unfold bitOf; rw [Nat.one_shiftLeft]; exact Nat.testBit_two_pow
theorem lks_bit (j:Nat):∀ (l:List Nat) (L:Nat),(lks l L).testBit j=true↔j∈l∨L.testBit j=true
 | [],L=>by simp [lks]
 | t::l,L=>by
  simp only [lks,Nat.testBit_or,Bool.or_eq_true,lks_bit j l L,bitOf_bit,decide_eq_true_eq,List.mem_cons]
  constructor
  ·rintro ((h|h)|h)
   ·exact .inl (.inr h)
   ·exact .inr h
   ·exact .inl (.inl h.symm)
  ·rintro ((h|h)|h)
   ·exact .inr h.symm
   ·exact .inl (.inl h)
   ·exact .inl (.inr h)
theorem clr_bit {L:Nat} {d:Option Nat} {j:Nat} (h:L.testBit j=true) (hd:d≠some j):(clr L d).testBit j=true:=by
 cases d with
 | none=>exact h
 | some t =>
  have ht:t≠j:=fun e=>hd (by rw [e])
  simp only [clr]
  split
  ·simp [Nat.testBit_xor,h,bitOf_bit,ht]
  ·exact h
def AgM (L:Nat) (ts us:List Value):Prop:=∀ t,L.testBit t=true→ts[t]? = us[t]?
theorem AgM.mono {L K:Nat} {ts us:List Value} (h:AgM L ts us) (hk:∀ t,K.testBit t=true→L.testBit t=true):AgM K ts us:=fun t ht=>h t (hk t ht)
theorem AgM.symm {L:Nat} {ts us:List Value} (h:AgM L ts us):AgM L us ts:=fun t ht=>(h t ht).symm
theorem AgM.agree {l:List Nat} {L:Nat} {ts us:List Value} (h:AgM (lks l L) ts us):Agree l ts us:=fun t ht=>h t ((lks_bit t l L).2 (.inl ht))
theorem AgM.rest {l:List Nat} {L:Nat} {ts us:List Value} (h:AgM (lks l L) ts us):AgM L ts us:=h.mono fun t ht=>(lks_bit t l L).2 (.inr ht)
theorem AgM.lor_left {L K:Nat} {ts us:List Value} (h:AgM (L ||| K) ts us):AgM L ts us:=h.mono fun t ht=>by simp [Nat.testBit_or,ht]
theorem AgM.lor_right {L K:Nat} {ts us:List Value} (h:AgM (L ||| K) ts us):AgM K ts us:=h.mono fun t ht=>by simp [Nat.testBit_or,ht]
theorem AgM.put {L:Nat} {d:Option Nat} {ts us:List Value} (h:AgM (clr L d) ts us) (hl:ts.length=us.length) (v:Value):AgM L (putT ts d v) (putT us d v):=by
 intro t ht
 rw [putT_get,putT_get,hl]
 by_cases e:d=some t∧t<us.length
 ·rw [if_pos e,if_pos e]
 ·rw [if_neg e,if_neg e]
  by_cases hd:d=some t
  ·have:¬ t<us.length:=fun hlt=>e ⟨hd,hlt⟩
   rw [List.getElem?_eq_none (by omega),List.getElem?_eq_none (by omega)]
  ·exact h t (clr_bit ht hd)
def liveOps:List AOper→Nat→Nat
 | [],L=>L
 | o::r,L=>lks o.looks (clr (liveOps r L) o.dst)
theorem wanted_agree {o:AOper} {ts us:List Value} (h:Agree o.looks ts us):wantedA ts o.guard=wantedA us o.guard:=by
 unfold AOper.looks at h
 have h2:=h.right
 cases hg:o.guard with
 | none=>rfl
 | some p =>
  obtain ⟨t,w⟩:=p
  rw [hg] at h2
  simp only [wantedA]
  rw [h2 t (by simp)]
def ROps (L:Nat):Option (List Value × Mem)→Option (List Value × Mem)→Prop
 | none,none=>True
 | some (ts,m),some (us,m')=>m=m'∧ts.length=us.length∧AgM L ts us
 | _,_=>False
theorem runOps_live (call:CallF) (L:Nat):∀ (ops:List AOper) (ts us:List Value) (m:Mem),ts.length=us.length→AgM (liveOps ops L) ts us→ROps L (runOps call ops ts m) (runOps call ops us m)
 | [],ts,us,m,hl,h=>⟨rfl,hl,h⟩
 | o::r,ts,us,m,hl,h=>by
  simp only [liveOps] at h
  have ha:=h.agree
  simp only [runOps,wanted_agree ha]
  have hs:stepOp call ts m o.op=stepOp call us m o.op:=stepOp_agree call m ha.left
  rw [hs]
  split
  ·cases stepOp call us m o.op with
   | none=>exact trivial
   | some p=>exact runOps_live call L r _ _ _ (by simp [putT_length,hl]) (h.rest.put hl _)
  ·exact runOps_live call L r _ _ _ (by simp [putT_length,hl]) (h.rest.put hl _)
def RTr (L:Nat):Option Tr→Option Tr→Prop
 | none,none=>True
 | some (ts,m,x),some (us,m',y)=>m=m'∧x=y∧ts.length=us.length∧AgM L ts us
 | _,_=>False
theorem RTr.map {L:Nat} {a b:Option Tr} (h:RTr L a b) (f:List Mem × List (Req × Value × Nat × Nat)→List Mem × List (Req × Value × Nat × Nat)) :
  RTr L (a.map fun x=>(x.1,x.2.1,f x.2.2)) (b.map fun x=>(x.1,x.2.1,f x.2.2)):=by
 cases a with
 | none=>cases b with
  | none=>exact trivial
  | some _=>exact h.elim
 | some x=>cases b with
  | none=>exact h.elim
  | some y =>
   obtain ⟨h1,h2,h3,h4⟩:=h
   exact ⟨h1,congrArg f h2,h3,h4⟩
theorem runTr_live (call:CallF) (L:Nat):∀ (ops:List AOper) (lh:List (Nat × Nat)) (ts us:List Value) (m:Mem),ts.length=us.length→AgM (liveOps ops L) ts us→RTr L (runTr call ops lh ts m) (runTr call ops lh us m)
 | [],lh,ts,us,m,hl,h=>⟨rfl,rfl,hl,h⟩
 | o::r,lh,ts,us,m,hl,h=>by
  simp only [liveOps] at h
  have ha:=h.agree
  simp only [runTr,wanted_agree ha]
  have hs:stepOp call ts m o.op=stepOp call us m o.op:=stepOp_agree call m ha.left
  have hq:o.op.req ts=o.op.req us:=req_agree ha.left
  have hp:∀ v,AgM (liveOps r L) (putT ts o.dst v) (putT us o.dst v):=fun v=>h.rest.put hl v
  have hll:∀ v,(putT ts o.dst v).length=(putT us o.dst v).length:=fun v=>by simp [putT_length,hl]
  split
  ·split
   ·rw [hs]
    cases stepOp call us m o.op with
    | none=>exact trivial
    | some p=>exact (runTr_live call L r lh.tail _ _ p.2 (hll _) (hp _)).map fun x=>(m::x.1,x.2)
   ·rw [hq]
    cases o.op.req us with
    | none=>exact trivial
    | some q =>
     simp only [Option.bind_some]
     cases q.run m with
     | none=>exact trivial
     | some v=>exact (runTr_live call L r lh.tail _ _ m (hll _) (hp _)).map fun x=>(x.1,(q,v,lh.headD (0,0))::x.2)
   ·rename_i hc
    have hs':o.op.run ts m=o.op.run us m:=by
     have hn:o.op.isCall=false:=by cases he:o.op<;>first|rfl|(rw [he] at hc; cases hc)
     rw [stepOp_other call ts m hn,stepOp_other call us m hn] at hs
     exact hs
    rw [hs']
    cases o.op.run us m with
    | none=>exact trivial
    | some p=>exact runTr_live call L r lh.tail _ _ m (hll _) (hp _)
  ·split
   ·exact (runTr_live call L r lh.tail _ _ m (hll _) (hp _)).map fun x=>(m::x.1,x.2)
   ·exact runTr_live call L r lh.tail _ _ m (hll _) (hp _)
theorem runD_live (call:CallF) (L:Nat) (ops:List AOper) (lh:List (Nat × Nat)) (ts us:List Value) (m:Mem) (hl:ts.length=us.length) (h:AgM (liveOps ops L) ts us):ROps L (runD call ops lh ts m) (runD call ops lh us m):=by
 have:=runTr_live call L ops lh ts us m hl h
 simp only [runD]
 cases ha:runTr call ops lh ts m with
 | none=>rw [ha] at this; cases hb:runTr call ops lh us m with
  | none=>exact trivial
  | some _=>rw [hb] at this; exact this.elim
 | some x=>rw [ha] at this; cases hb:runTr call ops lh us m with
  | none=>rw [hb] at this; exact this.elim
  | some y =>
   rw [hb] at this
   obtain ⟨h1,h2,h3,h4⟩:=this
   simp only [Option.bind_some,h2]
   split
   ·exact ⟨h1,h3,h4⟩
   ·exact trivial
theorem liveOps_setB (b L:Nat):∀ ops:List AOper,liveOps (ops.map (setB b)) L=liveOps ops L
 | []=>rfl
 | o::r=>by simp only [List.map_cons,liveOps,setB_looks,setB_dst,liveOps_setB b L r]
abbrev Env:=List (Nat × Nat)
def lkp:Env→Nat→Nat
 | [],_=>0
 | (i,L)::r,j=>if j=i then L else lkp r j
def fixL (f:Nat→Option Nat):Nat→Nat→Option Nat
 | 0,_=>none
 | n+1,L=>(f L).bind fun K=>if K ||| L=L then some L else fixL f n (K ||| L)
theorem fixL_ok {f:Nat→Option Nat}:∀ {n L X:Nat},fixL f n L=some X→∃ K,f X=some K∧∀ t,K.testBit t=true→X.testBit t=true
 | 0,_,_,h=>by simp [fixL] at h
 | n+1,L,X,h=>by
  simp only [fixL,Option.bind_eq_some_iff] at h
  obtain ⟨K,hK,h⟩:=h
  split at h
  ·rename_i he
   cases h
   refine ⟨K,hK,fun t ht=>?_⟩
   rw [← he,Nat.testBit_or,ht]; rfl
  ·exact fixL_ok h
def liveC:ACode→Nat→Env→Nat→Option Nat
 | .skip,N,_,_=>some N
 | .region ops,N,_,_=>some (liveOps ops N)
 | .draw ops _,N,_,_=>some (liveOps ops N)
 | .drawF ops _,N,_,_=>some (liveOps ops N)
 | .seq a b,N,E,R=>(liveC b N E R).bind fun K=>liveC a K E R
 | .cond c a b,N,E,R=>(liveC a N E R).bind fun A=>(liveC b N E R).map fun B=>lks (opT c) (A ||| B)
 | .block id a,N,E,R=>liveC a N ((id,N)::E) R
 | .loop a,_,E,R=>fixL (fun K=>liveC a K E R) 20 0
 | .exit id,_,E,_=>some (lkp E id)
 | .ret,_,_,R=>some R
 | .stop,_,_,_=>some 0
def livePost (N:Nat) (E:Env) (R:Nat):AEx→Nat
 | .normal=>N
 | .exit id=>lkp E id
 | .ret=>R
def RO (N:Nat) (E:Env) (R:Nat):Option Out→Option Out→Prop
 | none,none=>True
 | some (e,ts,m),some (e',us,m')=>e=e'∧m=m'∧ts.length=us.length∧AgM (livePost N E R e) ts us
 | _,_=>False
theorem loopN_live {f:List Value→Mem→Option Out} {L N:Nat} {E:Env} {R:Nat} (h:∀ ts us m,ts.length=us.length→AgM L ts us→RO L E R (f ts m) (f us m)) :
  ∀ (n:Nat) (ts us:List Value) (m:Mem),ts.length=us.length→AgM L ts us→RO N E R (loopN f n ts m) (loopN f n us m)
 | 0,_,_,_,_,_=>trivial
 | n+1,ts,us,m,hl,ha=>by
  have:=h ts us m hl ha
  simp only [loopN]
  cases hx:f ts m with
  | none=>rw [hx] at this; cases hy:f us m with
   | none=>exact trivial
   | some _=>rw [hy] at this; exact this.elim
  | some x=>rw [hx] at this; cases hy:f us m with
   | none=>rw [hy] at this; exact this.elim
   | some y =>
    rw [hy] at this
    obtain ⟨e,ts',m1⟩:=x
    obtain ⟨e',us',m2⟩:=y
    obtain ⟨rfl,rfl,h3,h4⟩:=this
    simp only [Option.bind_some]
    cases e with
    | normal=>exact loopN_live h n _ _ _ h3 h4
    | exit id=>exact ⟨rfl,rfl,h3,h4⟩
    | ret=>exact ⟨rfl,rfl,h3,h4⟩
theorem exec_live (call:CallF) (n:Nat):∀ (a:ACode) (N:Nat) (E:Env) (R L:Nat),liveC a N E R=some L→∀ (ts us:List Value) (m:Mem),ts.length=us.length→AgM L ts us→RO N E R (exec call n a ts m) (exec call n a us m):=by
 intro a
 induction a with
 | skip=>intro N E R L h ts us m hl ha; cases h; exact ⟨rfl,rfl,hl,ha⟩
 | exit id=>intro N E R L h ts us m hl ha; cases h; exact ⟨rfl,rfl,hl,ha⟩
 | ret=>intro N E R L h ts us m hl ha; cases h; exact ⟨rfl,rfl,hl,ha⟩
 | stop=>intro N E R L h ts us m hl ha; exact trivial
 | region ops =>
  intro N E R L h ts us m hl ha
  cases h
  have:=runOps_live call N ops ts us m hl ha
  simp only [exec]
  cases hx:runOps call ops ts m with
  | none=>rw [hx] at this; cases hy:runOps call ops us m with
   | none=>exact trivial
   | some _=>rw [hy] at this; exact this.elim
  | some x=>rw [hx] at this; cases hy:runOps call ops us m with
   | none=>rw [hy] at this; exact this.elim
   | some y=>rw [hy] at this; exact ⟨rfl,this.1,this.2.1,this.2.2⟩
 | draw ops lh =>
  intro N E R L h ts us m hl ha
  cases h
  have:=runD_live call N ops lh ts us m hl ha
  simp only [exec]
  cases hx:runD call ops lh ts m with
  | none=>rw [hx] at this; cases hy:runD call ops lh us m with
   | none=>exact trivial
   | some _=>rw [hy] at this; exact this.elim
  | some x=>rw [hx] at this; cases hy:runD call ops lh us m with
   | none=>rw [hy] at this; exact this.elim
   | some y=>rw [hy] at this; exact ⟨rfl,this.1,this.2.1,this.2.2⟩
 | drawF ops lh =>
  intro N E R L h ts us m hl ha
  cases h
  have:=runD_live call N (ops.map (setB m.next)) lh ts us (m.bump ops.length) hl (by rw [liveOps_setB]; exact ha)
  simp only [exec]
  cases hx:runD call (ops.map (setB m.next)) lh ts (m.bump ops.length) with
  | none=>rw [hx] at this; cases hy:runD call (ops.map (setB m.next)) lh us (m.bump ops.length) with
   | none=>exact trivial
   | some _=>rw [hy] at this; exact this.elim
  | some x=>rw [hx] at this; cases hy:runD call (ops.map (setB m.next)) lh us (m.bump ops.length) with
   | none=>rw [hy] at this; exact this.elim
   | some y=>rw [hy] at this; exact ⟨rfl,this.1,this.2.1,this.2.2⟩
 | seq x y ihx ihy =>
  intro N E R L h ts us m hl ha
  simp only [liveC,Option.bind_eq_some_iff] at h
  obtain ⟨K,hK,h⟩:=h
  have:=ihx K E R L h ts us m hl ha
  simp only [exec]
  cases hx:exec call n x ts m with
  | none=>rw [hx] at this; cases hy:exec call n x us m with
   | none=>exact trivial
   | some _=>rw [hy] at this; exact this.elim
  | some p=>rw [hx] at this; cases hy:exec call n x us m with
   | none=>rw [hy] at this; exact this.elim
   | some q =>
    rw [hy] at this
    obtain ⟨e,ts',m1⟩:=p
    obtain ⟨e',us',m2⟩:=q
    obtain ⟨rfl,rfl,h3,h4⟩:=this
    simp only [Option.bind_some]
    cases e with
    | normal=>exact ihy N E R K hK _ _ _ h3 h4
    | exit id=>exact ⟨rfl,rfl,h3,h4⟩
    | ret=>exact ⟨rfl,rfl,h3,h4⟩
 | cond c x y ihx ihy =>
  intro N E R L h ts us m hl ha
  simp only [liveC,Option.bind_eq_some_iff,Option.map_eq_some_iff] at h
  obtain ⟨A,hA,B,hB,rfl⟩:=h
  simp only [exec]
  rw [aval_agree ha.agree]
  cases aval us c with
  | none=>exact trivial
  | some v =>
   simp only [Option.bind_some]
   cases asB v with
   | none=>exact trivial
   | some t =>
    cases t
    ·exact ihy N E R B hB _ _ _ hl ha.rest.lor_right
    ·exact ihx N E R A hA _ _ _ hl ha.rest.lor_left
 | block id x ih =>
  intro N E R L h ts us m hl ha
  simp only [liveC] at h
  have:=ih N ((id,N)::E) R L h ts us m hl ha
  simp only [exec]
  cases hx:exec call n x ts m with
  | none=>rw [hx] at this; cases hy:exec call n x us m with
   | none=>exact trivial
   | some _=>rw [hy] at this; exact this.elim
  | some p=>rw [hx] at this; cases hy:exec call n x us m with
   | none=>rw [hy] at this; exact this.elim
   | some q =>
    rw [hy] at this
    obtain ⟨e,ts',m1⟩:=p
    obtain ⟨e',us',m2⟩:=q
    obtain ⟨rfl,rfl,h3,h4⟩:=this
    simp only [Option.map_some]
    cases e with
    | normal=>exact ⟨rfl,rfl,h3,h4⟩
    | exit j =>
     simp only
     split
     ·rename_i hj
      simp only [livePost,lkp,if_pos hj] at h4
      exact ⟨rfl,rfl,h3,h4⟩
     ·rename_i hj
      simp only [livePost,lkp,if_neg hj] at h4
      exact ⟨rfl,rfl,h3,h4⟩
    | ret=>exact ⟨rfl,rfl,h3,h4⟩
 | loop x ih =>
  intro N E R L h ts us m hl ha
  simp only [liveC] at h
  obtain ⟨K,hK,hs⟩:=fixL_ok h
  simp only [exec]
  refine loopN_live (L:=L) (fun ts us m hl ha=>?_) n ts us m hl ha
  exact ih L E R K hK ts us m hl (ha.mono hs)
theorem Exec_live {S:CallF} {tab:Tab} {a:ACode} {N:Nat} {E:Env} {R L:Nat} (h:liveC a N E R=some L) {ts us:List Value} {m:Mem} (hl:ts.length=us.length) (ha:AgM L ts us):RO N E R (Exec S tab a ts m) (Exec S tab a us m):=by
 have key:∀ {ts us:List Value} {r:Out},ts.length=us.length→AgM L ts us→Exec S tab a ts m=some r→∃ r',Exec S tab a us m=some r'∧RO N E R (some r) (some r'):=by
  intro ts us r hl ha hx
  obtain ⟨n,hn⟩:=Exec_iff.1 hx
  have:=exec_live (call S tab n) n a N E R L h ts us m hl ha
  rw [hn] at this
  cases hy:exec (call S tab n) n a us m with
  | none=>rw [hy] at this; exact this.elim
  | some r'=>rw [hy] at this; exact ⟨r',Exec_iff.2 ⟨n,hy⟩,this⟩
 cases hx:Exec S tab a ts m with
 | some r =>
  obtain ⟨r',h1,h2⟩:=key hl ha hx
  rw [h1]; exact h2
 | none =>
  cases hy:Exec S tab a us m with
  | none=>exact trivial
  | some r =>
   obtain ⟨r',h1,_⟩:=key hl.symm ha.symm hy
   rw [hx] at h1; cases h1
end Go.Fx
namespace Go.Fx
open Go
set_option linter.unusedSimpArgs false
set_option linter.unusedVariables false
abbrev O:=Option (Value × Mem)
inductive KFr where
 | code (c:ACode)
 | blk (id:Nat)
 | loop (a:ACode)
abbrev Ks:=List KFr
def cnd (v:Value) (a b:O):O:=match v with
 | .bool true=>a
 | .bool false=>b
 | _=>none
def wantV (v:Value) (w:Bool):Bool:=match v with
 | .bool b=>b == w
 | _=>false
def gdo (v:Value) (w:Bool) (o:O) (m:Mem):O:=if wantV v w=true then o else some (undef,m)
def nw (m:Mem) (x:ABlk) (k:Value→Mem→O):O:=k (.pointer (some ⟨m.next,0,none⟩)) (m.add x)
def nws (m:Mem) (x:ABlk) (n:Nat) (k:Value→Mem→O):O:=k (.slice (some ⟨m.next,0,none⟩) n n) (m.add x)
def nwAt (b:Nat) (m:Mem) (x:ABlk) (k':Option Nat) (k:Value→Mem→O):O:=k (newVal b k') (m.put b x)
def chk (ms:List Mem) (rq:List Rq) (o:O):O:=if rq.all (okReq ms)=true then o else none
def avT (ts:List Value) (t:Nat):Value:=ts[t]?.getD undef
def evX (ts:List Value) (x:Operand) (k:Value→O):O:=match x with
 | .tmp t=>k (avT ts t)
 | .const v=>if plain v then k v else none
 | .func f=>k (.func (.func f) #[] #[])
 | .global _=>none
def evXs (ts:List Value):List Operand→(List Value→O)→O
 | [],k=>k []
 | x::r,k=>evX ts x fun v=>evXs ts r fun l=>k (v::l)
def evXO (ts:List Value) (x:Option Operand) (k:Option Value→O):O:=match x with
 | none=>k none
 | some x=>evX ts x fun v=>k (some v)
def evPs (ts:List Value):List (Nat × Nat × Operand)→(List (Nat × Nat × Value)→O)→O
 | [],k=>k []
 | (o,s,x)::r,k=>evX ts x fun v=>evPs ts r fun l=>k ((o,s,v)::l)
theorem evX_eq (ts:List Value) (x:Operand) (k:Value→O):evX ts x k=(aval ts x).bind k:=by
 cases x with
 | const v=>simp only [evX,aval]; split<;>rfl
 | _=>rfl
theorem evXs_eq (ts:List Value):∀ (xs:List Operand) (k:List Value→O),evXs ts xs k=(avals ts xs).bind k
 | [],k=>rfl
 | x::r,k=>by
  simp only [evXs,evX_eq,avals]
  cases aval ts x with
  | none=>rfl
  | some v =>
   simp only [Option.bind_some,evXs_eq ts r]
   cases avals ts r<;>rfl
theorem evXO_eq (ts:List Value) (x:Option Operand) (k:Option Value→O):evXO ts x k=(avalO ts x).bind k:=by
 cases x with
 | none=>rfl
 | some x=>simp only [evXO,evX_eq,avalO]; cases aval ts x<;>rfl
theorem evPs_eq (ts:List Value):∀ (xs:List (Nat × Nat × Operand)) (k:List (Nat × Nat × Value)→O),evPs ts xs k=(aparts ts xs).bind k
 | [],k=>rfl
 | (o,s,x)::r,k=>by
  simp only [evPs,evX_eq,aparts]
  cases aval ts x with
  | none=>rfl
  | some v =>
   simp only [Option.bind_some,evPs_eq ts r]
   cases aparts ts r<;>rfl
def evNew (ts:List Value) (k:ABlk→Option Nat→O):AOp→O
 | .alloc e z=>k ⟨.cells z.cells.toList e,false,none⟩ none
 | .box e x=>evX ts x fun v=>k ⟨.cells v.cells.toList e,false,none⟩ none
 | .buildSlice e len z ps=>evPs ts ps fun l=>(afill z l).bind fun c=>k ⟨.cells c e,false,none⟩ (some len)
 | _=>none
theorem evNew_eq (ts:List Value) (k:ABlk→Option Nat→O) (op:AOp):evNew ts k op=(newBlk ts op).bind fun p=>k p.1 p.2:=by
 cases op<;>simp only [evNew,newBlk,evX_eq,evPs_eq,Option.map_eq_bind,Option.bind_assoc,Option.bind_some,Option.bind_none,Function.comp_def]
def evOp (call:CallF) (ts:List Value) (m:Mem) (k:Value→Mem→O):AOp→O
 | .mov x=>evX ts x fun v=>k v m
 | .nilck x=>evX ts x fun v=>(runNilck v).bind fun u=>k u m
 | .pick c a b=>evX ts c fun v=>evX ts a fun p=>evX ts b fun q=>(asB v).bind fun t=>k (if t then p else q) m
 | .alloc e z=>nw m ⟨.cells z.cells.toList e,false,none⟩ k
 | .box e x=>evX ts x fun v=>nw m ⟨.cells v.cells.toList e,false,none⟩ k
 | .build z ps=>evPs ts ps fun l=>(afill z l).bind fun c=>k (.agg c.toArray) m
 | .buildSlice e len z ps=>evPs ts ps fun l=>(afill z l).bind fun c=>nws m ⟨.cells c e,false,none⟩ len k
 | .load1 x=>evX ts x fun v=>(runLoad1 v m).bind fun u=>k u m
 | .loadN n x=>evX ts x fun v=>(runLoadN n v m).bind fun u=>k u m
 | .store n a x=>evX ts a fun v=>evX ts x fun u=>(runStore n v u m).bind fun m'=>k undef m'
 | .arith op x y=>evX ts x fun v=>evX ts y fun u=>(Fx.arith op v u).bind fun r=>k r m
 | .eqD neg d x y=>evX ts x fun v=>evX ts y fun u=>(runEq neg (.st d) v u).bind fun r=>k r m
 | .eqBool neg x y=>evX ts x fun v=>evX ts y fun u=>(runEqBool neg v u).bind fun r=>k r m
 | .eqNil kd neg x y=>evX ts x fun v=>evX ts y fun u=>(runEqNil kd neg v u).bind fun r=>k r m
 | .un op x=>evX ts x fun v=>(runUn op v).bind fun r=>k r m
 | .conv kd x=>evX ts x fun v=>(runConv kd v).bind fun r=>k r m
 | .b2s x=>evX ts x fun v=>(runB2S v m).bind fun r=>k r m
 | .fieldAddr off x=>evX ts x fun v=>(runFieldAddr off v).bind fun r=>k r m
 | .field off size agg x=>evX ts x fun v=>(runField off size agg v).bind fun r=>k r m
 | .indexS size x i=>evX ts x fun v=>evX ts i fun u=>(runIndexS size v u).bind fun r=>k r m
 | .indexA len size x i=>evX ts x fun v=>evX ts i fun u=>(runIndexA len size v u).bind fun r=>k r m
 | .indexStr x i=>evX ts x fun v=>evX ts i fun u=>(runIndexStr v u).bind fun r=>k r m
 | .indexArr len size agg x i=>evX ts x fun v=>evX ts i fun u=>(runIndexArr len size agg v u).bind fun r=>k r m
 | .sliceStr x lo hi=>evX ts x fun v=>evXO ts lo fun l=>evXO ts hi fun h=>(runSliceStr v l h).bind fun r=>k r m
 | .sliceS size x lo hi=>evX ts x fun v=>evXO ts lo fun l=>evXO ts hi fun h=>(runSliceS size v l h m).bind fun r=>k r m
 | .sliceA n size x lo hi=>evX ts x fun v=>evXO ts lo fun l=>evXO ts hi fun h=>(runSliceA n size v l h m).bind fun r=>k r m
 | .extract i x=>evX ts x fun v=>(runExtract i v).bind fun r=>k r m
 | .lenS x=>evX ts x fun v=>(runLenSlice v).bind fun r=>k r m
 | .lenStr x=>evX ts x fun v=>(runLenStr v).bind fun r=>k r m
 | .append e size eb x y=>evX ts x fun v=>evX ts y fun u=>(runSrc size u m).bind fun p=>(runAppend e size eb v p.1 p.2 m).bind fun r=>k r.1 r.2
 | .copy size x y=>evX ts x fun v=>evX ts y fun u=>(runSrc size u m).bind fun p=>(runCopy size v p.1 p.2 m).bind fun r=>k r.1 r.2
 | .min x xs=>evX ts x fun v=>evXs ts xs fun l=>(foldV min2 v l).bind fun r=>k r m
 | .max x xs=>evX ts x fun v=>evXs ts xs fun l=>(foldV max2 v l).bind fun r=>k r m
 | .mkfunc f fs xs=>evXs ts fs fun h=>evXs ts xs fun l=>k (.func (.func f) h.toArray l.toArray) m
 | .p1 q x=>evX ts x fun v=>(q.run v).bind fun r=>k r m
 | .p2 q x y=>evX ts x fun v=>evX ts y fun u=>(q.run v u).bind fun r=>k r m
 | .r1 q x=>evX ts x fun v=>(q.run v m).bind fun r=>k r m
 | .r2 q x y=>evX ts x fun v=>evX ts y fun u=>(q.run v u m).bind fun r=>k r m
 | .e1 q x=>evX ts x fun v=>(q.run v m).bind fun r=>k r.1 r.2
 | .e2 q x y=>evX ts x fun v=>evX ts y fun u=>(q.run v u m).bind fun r=>k r.1 r.2
 | .mapUpd kk x y z=>evX ts x fun v=>evX ts y fun q=>evX ts z fun u=>(runMapUpd kk v q u m).bind fun m'=>k undef m'
 | .makeM x=>evXO ts x fun h=>if hintOk h=true then k (runMakeM m).1 (runMakeM m).2 else none
 | .slice3 size x lo hi mx=>evX ts x fun v=>evXO ts lo fun l=>evXO ts hi fun h=>evX ts mx fun u=>(runSlice3 size v l h u m).bind fun r=>k r m
 | .clearS z x=>evX ts x fun v=>(runClear z v m).bind fun m'=>k undef m'
 | .makeS e bytes z n c=>evX ts n fun v=>evX ts c fun u=>(runMakeS e bytes z v u m).bind fun r=>k r.1 r.2
 | .mkiface t x=>evX ts x fun v=>k (.iface t v) m
 | .call f xs=>evXs ts xs fun l=>(call f l m).bind fun p=>k p.1 p.2
 | .callv x xs=>evX ts x fun v=>evXs ts xs fun l=>(capsOf v).bind fun p=>(call p.1 (p.2.1++(l++p.2.2)) m).bind fun r=>k r.1 r.2
 | .floAt b o=>evNew ts (fun x k'=>nwAt b m x k' k) o
 | .flo _ _=>none
 | .stop=>none
theorem evOp_eq (call:CallF) (ts:List Value) (m:Mem) (k:Value→Mem→O) (op:AOp):evOp call ts m k op=(stepOp call ts m op).bind fun p=>k p.1 p.2:=by
 cases op<;>simp only [evOp,evX_eq,evXs_eq,evXO_eq,evPs_eq,stepOp,AOp.run,Option.bind_assoc,nw,nws,nwAt,evNew_eq,runBox,runBuildSlice,Option.map_eq_bind,Option.bind_some,Function.comp_def,Option.bind_none]
 ·rename_i c a b
  cases aval ts c with
  | none=>rfl
  | some v =>
   simp only [Option.bind_some]
   cases ha:aval ts a with
   | none=>simp
   | some p =>
    cases hb:aval ts b with
    | none=>simp
    | some q=>simp
 ·rename_i x
  cases avalO ts x with
  | none=>rfl
  | some h=>simp only [Option.bind_some]; split<;>rfl
 ·rename_i x xs
  cases aval ts x with
  | none=>rfl
  | some v =>
   simp only [Option.bind_some]
   cases avals ts xs with
   | none=>simp
   | some l=>simp
def evOps (call:CallF):List AOper→List Value→Mem→(List Value→Mem→O)→O
 | [],ts,m,k=>k ts m
 | ⟨d,op,none⟩::r,ts,m,k=>evOp call ts m (fun v m'=>evOps call r (putT ts d v) m' k) op
 | ⟨d,op,some (t,w)⟩::r,ts,m,k=>(gdo (avT ts t) w (evOp call ts m (fun v m'=>some (v,m')) op) m).bind fun p=>evOps call r (putT ts d p.1) p.2 k
theorem wantV_eq (ts:List Value) (t:Nat) (w:Bool):wantV (avT ts t) w=wantedA ts (some (t,w)):=by
 simp only [wantV,wantedA,avT]
 cases ts[t]? with
 | none=>rfl
 | some v=>cases v<;>rfl
theorem evOps_eq (call:CallF):∀ (ops:List AOper) (ts:List Value) (m:Mem) (k:List Value→Mem→O),evOps call ops ts m k=(runOps call ops ts m).bind fun p=>k p.1 p.2
 | [],_,_,_=>rfl
 | ⟨d,op,none⟩::r,ts,m,k=>by
  simp only [evOps,evOp_eq,runOps,wantedA,if_true,Option.bind_assoc]
  congr 1; funext p
  exact evOps_eq call r _ _ k
 | ⟨d,op,some (t,w)⟩::r,ts,m,k=>by
  simp only [evOps,evOp_eq,runOps,gdo,wantV_eq]
  split
  ·have:∀ o:O,(o.bind fun p=>some (p.1,p.2))=o:=by intro o; cases o<;>rfl
   rw [this,Option.bind_assoc]
   congr 1; funext p
   exact evOps_eq call r _ _ k
  ·simp only [Option.bind_some]
   exact evOps_eq call r _ _ k
def evReq (ts:List Value) (op:AOp) (k:Req→O):O:=match op with
 | .load1 x=>evX ts x fun v=>k (.load1 v)
 | .loadN n x=>evX ts x fun v=>k (.loadN n v)
 | .b2s x=>evX ts x fun v=>k (.b2s v)
 | .sliceS size x lo hi=>evX ts x fun v=>evXO ts lo fun l=>evXO ts hi fun h=>k (.sliceS size v l h)
 | .sliceA n size x lo hi=>evX ts x fun v=>evXO ts lo fun l=>evXO ts hi fun h=>k (.sliceA n size v l h)
 | .slice3 size x lo hi mx=>evX ts x fun v=>evXO ts lo fun l=>evXO ts hi fun h=>evX ts mx fun u=>k (.slice3 size v l h u)
 | .r1 q x=>evX ts x fun v=>k (.r1 q v)
 | .r2 q x y=>evX ts x fun v=>evX ts y fun u=>k (.r2 q v u)
 | _=>none
theorem evReq_eq (ts:List Value) (op:AOp) (k:Req→O):evReq ts op k=(op.req ts).bind k:=by
 cases op<;>simp only [evReq,evX_eq,evXO_eq,AOp.req,Option.map_eq_bind,Option.bind_assoc,Option.bind_some,Function.comp_def,Option.bind_none]
def gdq (v:Value) (w:Bool) (lh:Nat × Nat) (o:Option Req) (m:Mem):Option (Value × List Rq) :=
 if wantV v w=true then o.bind fun q=>(q.run m).map fun u=>(u,[(q,u,lh)]) else some (undef,[])
def evD (call:CallF):List AOper→List (Nat × Nat)→List Value→Mem→List Mem→List Rq→(List Value→Mem→O)→O
 | [],_,ts,m,ms,rq,k=>chk (ms++[m]) rq (k ts m)
 | ⟨d,op,none⟩::r,lh,ts,m,ms,rq,k=>match op.cls with
  | .eff=>evOp call ts m (fun v m'=>evD call r lh.tail (putT ts d v) m' (ms++[m]) rq k) op
  | .read=>evReq ts op fun q=>(q.run m).bind fun v=>evD call r lh.tail (putT ts d v) m ms (rq++[(q,v,lh.headD (0,0))]) k
  | .pure=>evOp call ts m (fun v _=>evD call r lh.tail (putT ts d v) m ms rq k) op
 | ⟨d,op,some (t,w)⟩::r,lh,ts,m,ms,rq,k=>match op.cls with
  | .eff=>(gdo (avT ts t) w (evOp call ts m (fun v m'=>some (v,m')) op) m).bind fun p=>evD call r lh.tail (putT ts d p.1) p.2 (ms++[m]) rq k
  | .read=>(gdq (avT ts t) w (lh.headD (0,0)) (op.req ts) m).bind fun p=>evD call r lh.tail (putT ts d p.1) m ms (rq++p.2) k
  | .pure=>(gdo (avT ts t) w (evOp call ts m (fun v m'=>some (v,m')) op) m).bind fun p=>evD call r lh.tail (putT ts d p.1) m ms rq k
theorem evD_eq (call:CallF):∀ (ops:List AOper) (lh:List (Nat × Nat)) (ts:List Value) (m:Mem) (ms:List Mem) (rq:List Rq) (k:List Value→Mem→O),
  evD call ops lh ts m ms rq k=(runTr call ops lh ts m).bind fun x=>chk (ms++x.2.2.1) (rq++x.2.2.2) (k x.1 x.2.1)
 | [],lh,ts,m,ms,rq,k=>by simp [evD,runTr]
 | ⟨d,op,none⟩::r,lh,ts,m,ms,rq,k=>by
  simp only [evD,runTr,wantedA,if_true]
  cases hc:op.cls with
  | eff =>
   simp only [evOp_eq,Option.bind_assoc]
   congr 1; funext p
   rw [evD_eq call r]
   simp [Option.bind_map,Function.comp_def]
  | read =>
   simp only [evReq_eq,Option.bind_assoc]
   congr 1; funext q; congr 1; funext v
   rw [evD_eq call r]
   simp [Option.bind_map,Function.comp_def]
  | pure =>
   have hn:op.isCall=false:=by cases op<;>first|rfl|cases hc
   simp only [evOp_eq,stepOp_other call ts m hn,Option.bind_assoc]
   congr 1; funext p
   exact evD_eq call r _ _ _ _ _ _
 | ⟨d,op,some (t,w)⟩::r,lh,ts,m,ms,rq,k=>by
  have hid:∀ o:O,(o.bind fun p=>some (p.1,p.2))=o:=by intro o; cases o<;>rfl
  simp only [evD,runTr,evOp_eq,gdo,wantV_eq]
  cases hc:op.cls with
  | eff =>
   simp only
   split
   ·rw [hid,Option.bind_assoc]
    congr 1; funext p
    rw [evD_eq call r]
    simp [Option.bind_map,Function.comp_def]
   ·simp only [Option.bind_some]
    rw [evD_eq call r]
    simp [Option.bind_map,Function.comp_def]
  | read =>
   simp only [gdq,wantV_eq]
   split
   ·simp only [Option.bind_assoc,Option.map_eq_bind,Function.comp_def,Option.bind_some]
    congr 1; funext q; congr 1; funext v
    rw [evD_eq call r]
    simp [Option.bind_map,Function.comp_def]
   ·simp only [Option.bind_some,List.append_nil]
    exact evD_eq call r _ _ _ _ _ _
  | pure =>
   simp only
   split
   ·have hn:op.isCall=false:=by cases op<;>first|rfl|cases hc
    rw [hid,stepOp_other call ts m hn,Option.bind_assoc]
    congr 1; funext p
    exact evD_eq call r _ _ _ _ _ _
   ·simp only [Option.bind_some]
    exact evD_eq call r _ _ _ _ _ _
def evRes (ts:List Value) (m:Mem):List ARes→(List Value→O)→O
 | [],k=>k []
 | .tmp t::r,k=>evRes ts m r fun l=>k (avT ts t::l)
 | .cell a none::r,k=>(runLoad1 (avT ts a) m).bind fun v=>evRes ts m r fun l=>k (v::l)
 | .cell a (some n)::r,k=>(runLoadN n (avT ts a) m).bind fun v=>evRes ts m r fun l=>k (v::l)
def fin (rs:List ARes) (ts:List Value) (m:Mem):O:=evRes ts m rs fun l=>some (oneOf l,m)
theorem evRes_eq (ts:List Value) (m:Mem):∀ (rs:List ARes) (k:List Value→O),evRes ts m rs k=(resVs ts m rs).bind k
 | [],_=>rfl
 | r::rs,k=>by
  have go:∀ o:Option Value,(o.bind fun v=>(resVs ts m rs).bind fun l=>k (v::l))=(match o,resVs ts m rs with|some v,some l=>some (v::l)|_,_=>none).bind k:=by
   intro o
   cases o with
   | none=>rfl
   | some v=>cases resVs ts m rs<;>rfl
  cases r with
  | tmp t=>simp only [evRes,evRes_eq ts m rs,resVs,resV]; exact go (some _)
  | cell a n=>cases n with
   | none=>simp only [evRes,evRes_eq ts m rs,resVs,resV]; exact go _
   | some n=>simp only [evRes,evRes_eq ts m rs,resVs,resV]; exact go _
theorem fin_eq (rs:List ARes) (ts:List Value) (m:Mem):fin rs ts m=(resVs ts m rs).map fun l=>(oneOf l,m):=by
 simp only [fin,evRes_eq,Option.map_eq_bind,Function.comp_def]
section
variable (S:CallF) (tab:Tab) (rs:List ARes)
noncomputable def runK:Ks→AEx→List Value→Mem→O
 | [],.exit _,_,_=>none
 | [],.normal,ts,m=>fin rs ts m
 | [],.ret,ts,m=>fin rs ts m
 | .code c::K,.normal,ts,m=>(Exec S tab c ts m).bind fun r=>runK K r.1 r.2.1 r.2.2
 | .code _::K,.exit j,ts,m=>runK K (.exit j) ts m
 | .code _::K,.ret,ts,m=>runK K .ret ts m
 | .blk id::K,.exit j,ts,m=>if j=id then runK K .normal ts m else runK K (.exit j) ts m
 | .blk _::K,.normal,ts,m=>runK K .normal ts m
 | .blk _::K,.ret,ts,m=>runK K .ret ts m
 | .loop a::K,.normal,ts,m=>(Exec S tab (.loop a) ts m).bind fun r=>runK K r.1 r.2.1 r.2.2
 | .loop _::K,.exit j,ts,m=>runK K (.exit j) ts m
 | .loop _::K,.ret,ts,m=>runK K .ret ts m
noncomputable def XK (c:ACode) (K:Ks) (ts:List Value) (m:Mem):O:=(Exec S tab c ts m).bind fun r=>runK S tab rs K r.1 r.2.1 r.2.2
noncomputable def Pt (K:Ks) (ts:List Value) (m:Mem):O:=runK S tab rs K .normal ts m
def resSlots (rs:List ARes) (L:Nat):Nat:=lks (rs.map fun r=>match r with|.tmp t=>t|.cell a _=>a) L
def envOf:Ks→Option (Nat × Env × Nat)
 | []=>some (resSlots rs 0,[],resSlots rs 0)
 | .code c::K=>(envOf K).bind fun x=>(liveC c x.1 x.2.1 x.2.2).map fun L=>(L,x.2)
 | .blk id::K=>(envOf K).map fun x=>(x.1,(id,x.1)::x.2.1,x.2.2)
 | .loop a::K=>(envOf K).bind fun x=>(liveC (.loop a) x.1 x.2.1 x.2.2).map fun L=>(L,x.2)
def maskG (L:Nat):Nat→List Value→List Value
 | _,[]=>[]
 | i,v::r=>(if L.testBit i then v else undef)::maskG L (i+1) r
def maskK (K:Ks) (ts:List Value):List Value:=match envOf rs K with
 | some x=>maskG x.1 0 ts
 | none=>ts
noncomputable def jmp (K:Ks) (ts:List Value) (m:Mem):O:=Pt S tab rs K (maskK rs K ts) m
def nE (id:Nat):ACode→Nat
 | .exit j=>if j=id then 1 else 0
 | .seq a b=>nE id a+nE id b
 | .cond _ a b=>nE id a+nE id b
 | .block j a=>if j=id then 0 else nE id a
 | _=>0
def nN:ACode→Nat
 | .skip|.region _|.draw _ _|.drawF _ _=>1
 | .seq a b=>if nN a=0 then 0 else nN b
 | .cond _ a b=>nN a+nN b
 | .block id a=>nN a+nE id a
 | _=>0
def smallC:ACode→Bool→Bool
 | .skip,s=>s
 | .ret,_=>true
 | .loop _,_=>true
 | .region ops,s=>s&&decide (ops.length≤4)
 | .seq (.region ops) b,s=>decide (ops.length≤4)&&smallC b s
 | _,_=>false
def strip:Ks→Ks
 | .blk _::K=>strip K
 | .code (.loop a)::K=>.loop a::K
 | .code .skip::K=>strip K
 | K=>K
structure Cont where
 n:List Value→Mem→O
 e:Nat→List Value→Mem→O
 r:List Value→Mem→O
 s:Bool
noncomputable def evC:ACode→Ks→Cont→List Value→Mem→O
 | .skip,_,k,ts,m=>k.n ts m
 | .region ops,_,k,ts,m=>evOps (Call S tab) ops ts m k.n
 | .draw ops lh,_,k,ts,m=>evD (Call S tab) ops lh ts m [] [] k.n
 | .drawF ops lh,_,k,ts,m=>evD (Call S tab) (ops.map (setB m.next)) lh ts (m.bump ops.length) [] [] k.n
 | .seq a b,K,k,ts,m =>
  if nN a≤1||smallC b k.s then evC a (.code b::K) ⟨evC b K k,k.e,k.r,smallC b k.s⟩ ts m
  else evC a (.code b::K) ⟨jmp S tab rs (strip (.code b::K)),k.e,k.r,true⟩ ts m
 | .cond c a b,K,k,ts,m=>evX ts c fun v=>cnd v (evC a K k ts m) (evC b K k ts m)
 | .block id a,K,k,ts,m =>
  if nN a+nE id a≤1||k.s then evC a (.blk id::K) ⟨k.n,fun j=>if j=id then k.n else k.e j,k.r,k.s⟩ ts m
  else evC a (.blk id::K) ⟨jmp S tab rs (strip K),fun j=>if j=id then jmp S tab rs (strip K) else k.e j,k.r,true⟩ ts m
 | .loop a,K,_,ts,m=>jmp S tab rs (.loop a::K) ts m
 | .exit id,_,k,ts,m=>k.e id ts m
 | .ret,_,k,ts,m=>k.r ts m
 | .stop,_,_,_,_=>none
noncomputable def contOf:Ks→Cont
 | []=>⟨fin rs,fun _ _ _=>none,fin rs,true⟩
 | .code c::K=>if smallC c (contOf K).s then ⟨evC S tab rs c K (contOf K),(contOf K).e,(contOf K).r,true⟩ else ⟨jmp S tab rs (strip (.code c::K)),(contOf K).e,(contOf K).r,true⟩
 | .blk id::K=>⟨(contOf K).n,fun j=>if j=id then (contOf K).n else (contOf K).e j,(contOf K).r,(contOf K).s⟩
 | .loop a::K=>⟨jmp S tab rs (.loop a::K),(contOf K).e,(contOf K).r,true⟩
noncomputable def evPt:Ks→List Value→Mem→O
 | .loop a::K=>evC S tab rs a (.loop a::K) ⟨jmp S tab rs (.loop a::K),(contOf S tab rs K).e,(contOf S tab rs K).r,true⟩
 | .code c::K=>evC S tab rs c K (contOf S tab rs K)
 | K=>(contOf S tab rs K).n
end
section
variable {S:CallF} {tab:Tab} {rs:List ARes}
theorem maskG_get (L:Nat):∀ (ts:List Value) (i t:Nat),(maskG L i ts)[t]? = (ts[t]?).map fun v=>if L.testBit (i+t) then v else undef
 | [],i,t=>by simp [maskG]
 | v::r,i,0=>by simp [maskG]
 | v::r,i,t+1=>by simp only [maskG,List.getElem?_cons_succ,maskG_get L r (i+1) t]; rw [show i+1+t=i+(t+1) by omega]
theorem maskG_length (L:Nat):∀ (ts:List Value) (i:Nat),(maskG L i ts).length=ts.length
 | [],_=>rfl
 | _::r,i=>by simp [maskG,maskG_length L r]
theorem maskG_agree (L:Nat) (ts:List Value):AgM L (maskG L 0 ts) ts:=by
 intro t ht
 rw [maskG_get,Nat.zero_add,ht]
 cases ts[t]?<;>rfl
theorem fin_live {ts us:List Value} {m:Mem} (h:AgM (resSlots rs 0) ts us):fin rs ts m=fin rs us m:=by
 simp only [fin_eq]
 congr 1
 have ha:=h.agree
 have:∀ l:List ARes,(∀ r∈l,r∈rs)→resVs ts m l=resVs us m l:=by
  intro l
  induction l with
  | nil=>intro _; rfl
  | cons r l ih =>
   intro hl
   have hr:resV ts m r=resV us m r:=by
    have hm:=hl r (List.mem_cons_self ..)
    cases r with
    | tmp t=>simp only [resV]; rw [ha t (List.mem_map.2 ⟨_,hm,rfl⟩)]
    | cell a n=>cases n<;>· simp only [resV]; rw [ha a (List.mem_map.2 ⟨_,hm,rfl⟩)]
   simp only [resVs]
   rw [hr,ih (fun r h=>hl r (List.mem_cons_of_mem _ h))]
 exact this rs (fun r h=>h)
theorem bindK {N:Nat} {E:Env} {R:Nat} {a b:Option Out} (h:RO N E R a b) {f:AEx→List Value→Mem→O} (hf:∀ e ts us m,ts.length=us.length→AgM (livePost N E R e) ts us→f e ts m=f e us m) :
  (a.bind fun r=>f r.1 r.2.1 r.2.2)=b.bind fun r=>f r.1 r.2.1 r.2.2:=by
 cases a with
 | none=>cases b with
  | none=>rfl
  | some _=>exact h.elim
 | some x=>cases b with
  | none=>exact h.elim
  | some y =>
   obtain ⟨e,ts,m⟩:=x
   obtain ⟨e',us,m'⟩:=y
   obtain ⟨rfl,rfl,h3,h4⟩:=h
   exact hf _ _ _ _ h3 h4
theorem runK_live:∀ (K:Ks) (N:Nat) (E:Env) (R:Nat),envOf rs K=some (N,E,R)→∀ (e:AEx) (ts us:List Value) (m:Mem),ts.length=us.length→AgM (livePost N E R e) ts us→runK S tab rs K e ts m=runK S tab rs K e us m
 | [],N,E,R,h,e,ts,us,m,hl,ha=>by
  simp only [envOf,Option.some.injEq,Prod.mk.injEq] at h
  obtain ⟨rfl,rfl,rfl⟩:=h
  cases e with
  | normal=>exact fin_live ha
  | exit _=>rfl
  | ret=>exact fin_live ha
 | .code c::K,N,E,R,h,e,ts,us,m,hl,ha=>by
  simp only [envOf,Option.bind_eq_some_iff,Option.map_eq_some_iff,Prod.mk.injEq] at h
  obtain ⟨⟨N',E',R'⟩,hK,L,hL,rfl,rfl,rfl⟩:=h
  have ih:=runK_live K N' E R hK
  cases e with
  | normal=>exact bindK (Exec_live hL hl ha) ih
  | exit j=>exact ih (.exit j) _ _ _ hl ha
  | ret=>exact ih .ret _ _ _ hl ha
 | .blk id::K,N,E,R,h,e,ts,us,m,hl,ha=>by
  simp only [envOf,Option.map_eq_some_iff,Prod.mk.injEq] at h
  obtain ⟨⟨N',E',R'⟩,hK,rfl,rfl,rfl⟩:=h
  have ih:=runK_live K N' E' R' hK
  cases e with
  | normal=>exact ih .normal _ _ _ hl ha
  | exit j =>
   simp only [runK]
   simp only [livePost,lkp] at ha
   split
   ·rename_i hj
    rw [if_pos hj] at ha
    exact ih .normal _ _ _ hl ha
   ·rename_i hj
    rw [if_neg hj] at ha
    exact ih (.exit j) _ _ _ hl ha
  | ret=>exact ih .ret _ _ _ hl ha
 | .loop a::K,N,E,R,h,e,ts,us,m,hl,ha=>by
  simp only [envOf,Option.bind_eq_some_iff,Option.map_eq_some_iff,Prod.mk.injEq] at h
  obtain ⟨⟨N',E',R'⟩,hK,L,hL,rfl,rfl,rfl⟩:=h
  have ih:=runK_live K N' E R hK
  cases e with
  | normal=>exact bindK (Exec_live hL hl ha) ih
  | exit j=>exact ih (.exit j) _ _ _ hl ha
  | ret=>exact ih .ret _ _ _ hl ha
theorem jmp_eq (K:Ks) (ts:List Value) (m:Mem):jmp S tab rs K ts m=Pt S tab rs K ts m:=by
 simp only [jmp,maskK]
 split
 ·rename_i x h
  exact runK_live K x.1 x.2.1 x.2.2 h .normal _ _ m (maskG_length ..) (maskG_agree _ _)
 ·rfl
theorem Pt_strip:∀ (K:Ks) (ts:List Value) (m:Mem),Pt S tab rs (strip K) ts m=Pt S tab rs K ts m
 | [],ts,m=>by simp only [strip]
 | .blk id::K,ts,m=>by
  simp only [strip]
  rw [Pt_strip K]; rfl
 | .loop a::K,ts,m=>by simp only [strip]
 | .code c::K,ts,m=>by
  cases c with
  | loop a=>rfl
  | skip =>
   simp only [strip]
   rw [Pt_strip K]
   simp only [Pt,runK,Exec_skip,Option.bind_some]
  | _=>simp only [strip]
structure Cont.Ok (S:CallF) (tab:Tab) (rs:List ARes) (k:Cont) (K:Ks):Prop where
 n:∀ ts m,k.n ts m=runK S tab rs K .normal ts m
 e:∀ j ts m,k.e j ts m=runK S tab rs K (.exit j) ts m
 r:∀ ts m,k.r ts m=runK S tab rs K .ret ts m
theorem evC_ok:∀ (c:ACode) (K:Ks) (k:Cont),k.Ok S tab rs K→∀ ts m,evC S tab rs c K k ts m=XK S tab rs c K ts m:=by
 intro c
 induction c with
 | skip=>intro K k hk ts m; simp only [evC,XK,Exec_skip,Option.bind_some,hk.n]
 | exit id=>intro K k hk ts m; simp only [evC,XK,Exec_exit,Option.bind_some,hk.e]
 | ret=>intro K k hk ts m; simp only [evC,XK,Exec_ret,Option.bind_some,hk.r]
 | stop =>
  intro K k hk ts m
  have:Exec S tab .stop ts m=none:=by
   cases h:Exec S tab .stop ts m with
   | none=>rfl
   | some r=>obtain ⟨n,hn⟩:=Exec_iff.1 h; cases hn
  simp only [evC,XK,this,Option.bind_none]
 | region ops =>
  intro K k hk ts m
  simp only [evC,XK,evOps_eq,Exec_region,Option.map_eq_bind,Option.bind_assoc,Function.comp_def,Option.bind_some]
  congr 1; funext p; exact hk.n _ _
 | draw ops lh =>
  intro K k hk ts m
  simp only [evC,XK,evD_eq,Exec_draw,runD,Option.map_eq_bind,Option.bind_assoc,Function.comp_def,Option.bind_some,List.nil_append,chk]
  congr 1; funext p
  split
  ·simp only [Option.bind_some]; exact hk.n _ _
  ·rfl
 | drawF ops lh =>
  intro K k hk ts m
  simp only [evC,XK,evD_eq,Exec_drawF,runD,Option.map_eq_bind,Option.bind_assoc,Function.comp_def,Option.bind_some,List.nil_append,chk]
  congr 1; funext p
  split
  ·simp only [Option.bind_some]; exact hk.n _ _
  ·rfl
 | seq a b iha ihb =>
  intro K k hk ts m
  have main:XK S tab rs (.seq a b) K ts m=XK S tab rs a (.code b::K) ts m:=by
   simp only [XK,Exec_seq,andThen,Option.bind_assoc]
   congr 1; funext r
   obtain ⟨e,ts',m'⟩:=r
   cases e<;>rfl
  rw [main]
  simp only [evC]
  split
  ·refine iha (.code b::K) _ ?_ ts m
   exact ⟨fun ts m=>ihb K k hk ts m,fun j ts m=>hk.e j ts m,fun ts m=>hk.r ts m⟩
  ·refine iha (.code b::K) _ ?_ ts m
   exact ⟨fun ts m=>by simp only [jmp_eq,Pt_strip]; rfl,fun j ts m=>hk.e j ts m,fun ts m=>hk.r ts m⟩
 | cond c a b iha ihb =>
  intro K k hk ts m
  simp only [evC,XK,evX_eq,Exec_cond]
  cases aval ts c with
  | none=>rfl
  | some v =>
   simp only [Option.bind_some]
   rw [iha K k hk,ihb K k hk]
   cases v with
   | bool t=>cases t<;>rfl
   | _=>rfl
 | block id a ih =>
  intro K k hk ts m
  have main:XK S tab rs (.block id a) K ts m=XK S tab rs a (.blk id::K) ts m:=by
   simp only [XK,Exec_block,Option.map_eq_bind,Option.bind_assoc,Function.comp_def,Option.bind_some]
   congr 1; funext r
   obtain ⟨e,ts',m'⟩:=r
   cases e with
   | normal=>rfl
   | ret=>rfl
   | exit j =>
    simp only [unblock,runK]
    split<;>rfl
  rw [main]
  simp only [evC]
  split
  ·refine ih (.blk id::K) _ ?_ ts m
   refine ⟨fun ts m=>hk.n ts m,fun j ts m=>?_,fun ts m=>hk.r ts m⟩
   simp only [runK]
   split
   ·exact hk.n ts m
   ·exact hk.e j ts m
  ·have hj:∀ ts m,jmp S tab rs (strip K) ts m=runK S tab rs K .normal ts m:=fun ts m=>by rw [jmp_eq,Pt_strip]; rfl
   refine ih (.blk id::K) _ ?_ ts m
   refine ⟨hj,fun j ts m=>?_,fun ts m=>hk.r ts m⟩
   simp only [runK]
   split
   ·exact hj ts m
   ·exact hk.e j ts m
 | loop a ih =>
  intro K k hk ts m
  simp only [evC,jmp_eq]
  rfl
theorem loop_body (a:ACode) (K:Ks) (ts:List Value) (m:Mem):runK S tab rs (.loop a::K) .normal ts m=XK S tab rs a (.loop a::K) ts m:=by
 simp only [runK,XK]
 rw [Exec_loop]
 simp only [andThen,Option.bind_assoc]
 congr 1; funext r
 obtain ⟨e,ts',m'⟩:=r
 cases e<;>rfl
theorem contOf_ok:∀ K:Ks,(contOf S tab rs K).Ok S tab rs K
 | []=>⟨fun _ _=>rfl,fun _ _ _=>rfl,fun _ _=>rfl⟩
 | .code c::K=>by
  have ih:=contOf_ok K
  simp only [contOf]
  split
  ·exact ⟨fun ts m=>evC_ok c K _ ih ts m,fun j ts m=>ih.e j ts m,fun ts m=>ih.r ts m⟩
  ·exact ⟨fun ts m=>by simp only [jmp_eq,Pt_strip]; rfl,fun j ts m=>ih.e j ts m,fun ts m=>ih.r ts m⟩
 | .blk id::K=>by
  have ih:=contOf_ok K
  refine ⟨fun ts m=>ih.n ts m,fun j ts m=>?_,fun ts m=>ih.r ts m⟩
  simp only [contOf,runK]
  split
  ·exact ih.n ts m
  ·exact ih.e j ts m
 | .loop a::K=>by
  have ih:=contOf_ok K
  exact ⟨fun ts m=>by simp only [contOf,jmp_eq]; rfl,fun j ts m=>ih.e j ts m,fun ts m=>ih.r ts m⟩
theorem Pt_ev (K:Ks) (ts:List Value) (m:Mem):Pt S tab rs K ts m=evPt S tab rs K ts m:=by
 cases K with
 | nil=>rfl
 | cons f K =>
  cases f with
  | code c=>exact (evC_ok c K _ (contOf_ok K) ts m).symm
  | blk id=>exact ((contOf_ok (S:=S) (tab:=tab) (rs:=rs) (.blk id::K)).n ts m).symm
  | loop a =>
   have ih:=contOf_ok (S:=S) (tab:=tab) (rs:=rs) K
   refine Eq.trans (loop_body a K ts m) (Eq.symm ?_)
   refine evC_ok a (.loop a::K) _ ?_ ts m
   exact ⟨fun ts m=>by simp only [jmp_eq]; rfl,fun j ts m=>ih.e j ts m,fun ts m=>ih.r ts m⟩
theorem Call_ev {f:FuncId} {fn:AFunc} (hf:tab f=some fn) (args:List Value) (m:Mem) (hS:S f args m=none) :
  Call S tab f args m=evC S tab fn.results fn.body [] (contOf S tab fn.results []) (args++List.replicate (fn.ntmps - args.length) undef) m:=by
 rw [Call_eq hf args m hS,evC_ok _ _ _ (contOf_ok [])]
 simp only [leave,XK]
 congr 1; funext r
 obtain ⟨e,ts,m'⟩:=r
 cases e with
 | normal=>simp only [runK,fin_eq]
 | exit j=>rfl
 | ret=>simp only [runK,fin_eq]
end
def walkC:List Nat→ACode→Ks→Option Ks
 | [],.loop a,K=>some (.loop a::K)
 | [],c,K=>some (.code c::K)
 | 0::p,.seq a b,K=>walkC p a (.code b::K)
 | 1::p,.seq _ b,K=>walkC p b K
 | 0::p,.cond _ a _,K=>walkC p a K
 | 1::p,.cond _ _ b,K=>walkC p b K
 | 0::p,.block id a,K=>walkC p a (.blk id::K)
 | 0::p,.loop a,K=>walkC p a (.loop a::K)
 | _,_,_=>none
def tabP (P:Program):Tab:=fun f=>if goodFn P f=true then compF P f else none
def fnOf (P:Program) (f:FuncId):AFunc:=(compF P f).getD ⟨0,.stop,[]⟩
theorem tabP_ok (P:Program):TabOk P (tabP P):=by
 intro f x h
 unfold tabP at h
 split at h
 ·exact h
 ·cases h
theorem tabP_good (P:Program):∀ f x,tabP P f=some x→goodFn P f=true:=by
 intro f x h
 unfold tabP at h
 split at h
 ·assumption
 ·cases h
def at' (fn:AFunc) (p:List Nat):Ks:=(walkC p fn.body []).getD []
end Go.Fx
namespace Go.Fx
open Go
set_option linter.unusedSimpArgs false
set_option linter.unusedVariables false
section
variable (call:CallF) (jp:Ks→List Value→Mem→O)
variable (rs:List ARes)
end
def Le (a b:O):Prop:=∀ r,a=some r→b=some r
theorem Le.refl (a:O):Le a a:=fun _ h=>h
abbrev RunT:=Bool→Nat→List Value→Mem→O
abbrev BodyT:=RunT→List Value→Mem→O
inductive BT where
 | nil
 | node (k:Nat) (b:BodyT) (l r:BT)
def BT.find:BT→Nat→Option BodyT
 | .nil,_=>none
 | .node k b l r,i=>bif Nat.beq i k then some b else bif Nat.blt i k then l.find i else r.find i
def GoodB (FN:RunT) (w:Bool) (k:Nat) (b:BodyT):Prop:=∀ r:RunT,(∀ b i l m,Le (r b i l m) (FN b i l m))→∀ l m,Le (b r l m) (FN w k l m)
inductive BT.Good (FN:RunT) (w:Bool):BT→Prop where
 | nil:BT.Good FN w .nil
 | node {k:Nat} {b:BodyT} {l r:BT} (h:GoodB FN w k b) (hl:l.Good FN w) (hr:r.Good FN w):BT.Good FN w (.node k b l r)
theorem BT.Good.find {FN:RunT} {w:Bool} {i:Nat} {b:BodyT}:∀ {t:BT},t.Good FN w→t.find i=some b→GoodB FN w i b:=by
 intro t ht
 induction ht with
 | nil=>intro h; cases h
 | @node k b' l r h _ _ ihl ihr =>
  intro hf
  simp only [BT.find] at hf
  cases e:Nat.beq i k with
  | true =>
   rw [e] at hf
   simp only [cond_true,Option.some.injEq] at hf
   subst hf
   have:=Nat.eq_of_beq_eq_true e
   subst this
   exact h
  | false =>
   rw [e] at hf
   simp only [cond_false] at hf
   cases e2:Nat.blt i k with
   | true=>rw [e2] at hf; exact ihl hf
   | false=>rw [e2] at hf; exact ihr hf
def rounds (t p:BT):Nat→RunT
 | 0=>fun _ _ _ _=>none
 | n+1=>fun w i l m=>match (match w with|true=>t.find i|false=>p.find i) with
  | some b=>b (rounds t p n) l m
  | none=>none
end Go.Fx
namespace Go.Fx
open Go Go.RowKit
theorem Inv.belowed {φ:Ren} {m:Mem} {w w':World} (h:Inv φ m w) (hb:Below w.heap.size w w'):Inv φ m w'∧Frm φ m w φ m w':=by
 refine ⟨⟨fun b x hx=>?_,h.apart,fun b l hl=>⟨(h.below b l hl).1,Nat.lt_of_lt_of_le (h.below b l hl).2 hb.size⟩⟩,Ren.le_refl φ,hb.size,fun B hB _=>hb.block B hB,fun b x l hx hl hr=>.inr ⟨b,x,l,hx,hl,hr,rfl⟩,hb.os,hb.output,hb.tape,Nat.le_refl _,fun _ _=>rfl,fun _ _ h=>h,fun b x l hx hl=>.inr ⟨b,x,l,hx,hl,rfl⟩⟩
 obtain ⟨l,hl,ok⟩:=h.live b x hx
 exact ⟨l,hl,ok.congr (hb.block l.blk (h.below b l hl).2)⟩
theorem calls1_below {P:Program} {φ:Ren} {m:Mem} {w:World} {f:FuncId} {args:Array Value} {v V:Value} (hi:Inv φ m w) (hv:VR φ v V) (h:Calls P f args w fun e w'=>e=.returned V∧Below w.heap.size w w') :
  Calls1 P φ m w f args v m:=by
 refine h.mono ?_
 rintro e w' ⟨rfl,hb⟩
 obtain ⟨h1,h2⟩:=hi.belowed hb
 exact ⟨V,φ,rfl,hv,h1,h2⟩
theorem VRs.two {φ:Ren} {a b:Value} {ARGS:Array Value} (h:VRs φ [a,b] ARGS.toList):∃ A B,ARGS=#[A,B]∧VR φ a A∧VR φ b B:=by
 obtain ⟨l⟩:=ARGS
 obtain ⟨h1,h2⟩:=h
 match l,h1 with
 | [A,B],_=>exact ⟨A,B,rfl,h2 0 a A rfl rfl,h2 1 b B rfl rfl⟩
theorem Inv.glob {φ:Ren} {m:Mem} {w:World} (h:Inv φ m w) {b g:Nat} {k:GKind} (hb:m.get b=some ⟨.glob g k,true,none⟩):∃ C e fz,w.heap[g]? = some (.cells C e fz)∧k.Ok C:=by
 obtain ⟨l,hl,_,hg,C,e,fz,hC,hk⟩:=h.live b _ hb
 exact ⟨C,e,fz,hg ▸ hC,hk⟩
end Go.Fx
