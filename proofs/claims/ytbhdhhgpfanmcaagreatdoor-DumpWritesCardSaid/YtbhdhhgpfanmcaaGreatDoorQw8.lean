/- Parts of a proof: FxCode, FxTop. Conditions: none. -/
import Derived.OpenShut
import Derived.ChangeArms
import Derived.DataReads
import Derived.Below
import Derived.SizedLaws
import Derived.Test.YtbhdhhgpfanmcaaGreatDoorQw7
set_option linter.unusedSimpArgs false
set_option linter.unusedVariables false
namespace Go.Fx
open Go
inductive ACode where
 | skip
 | region (ops:List AOper)
 | draw (ops:List AOper) (lh:List (Nat × Nat))
 | drawF (ops:List AOper) (lh:List (Nat × Nat))
 | seq (a b:ACode)
 | cond (c:Operand) (a b:ACode)
 | block (id:Nat) (a:ACode)
 | loop (a:ACode)
 | exit (id:Nat)
 | ret
 | stop
inductive ARes where
 | tmp (t:Nat)
 | cell (a:Nat) (n:Option Nat)
structure AFunc where
 ntmps:Nat
 body:ACode
 results:List ARes
inductive AEx where
 | normal
 | exit (id:Nat)
 | ret
 deriving DecidableEq
abbrev Out:=AEx × List Value × Mem
def kU (f:List Value->Mem->Option Out):Nat->List Value->Mem->Option Out
 | 0,_,_=>none
 | n+1,ts,m=>(f ts m).bind λr=>match r with
  | (.normal,ts',m')=>kU f n ts' m'
  | r=>some r
def exec (call:zj) (n:Nat):ACode->List Value->Mem->Option Out
 | .skip,ts,m=>some (.normal,ts,m)
 | .region ops,ts,m=>(xc call ops ts m).map λr=>(.normal,r.1,r.2)
 | .draw ops lh,ts,m=>(kQ call ops lh ts m).map λr=>(.normal,r.1,r.2)
 | .drawF ops lh,ts,m=>(kQ call (ops.map (jA m.next)) lh ts (m.zu ops.length)).map λr=>(.normal,r.1,r.2)
 | .seq a b,ts,m=>(exec call n a ts m).bind λr=>match r with
  | (.normal,ts',m')=>exec call n b ts' m'
  | r=>some r
 | .cond c a b,ts,m=>(zc ts c).bind λv=>(asB v).bind λt=>if t then exec call n a ts m else exec call n b ts m
 | .block id a,ts,m=>(exec call n a ts m).map λr=>match r with
  | (.exit j,ts',m')=>if j=id then (.normal,ts',m') else (.exit j,ts',m')
  | r=>r
 | .loop a,ts,m=>kU (exec call n a) n ts m
 | .exit id,ts,m=>some (.exit id,ts,m)
 | .ret,ts,m=>some (.ret,ts,m)
 | .stop,_,_=>none
def JK (ts:List Value) (m:Mem):ARes->Option Value
 | .tmp t=>some (ts[t]?.getD undef)
 | .cell a none=>qa (ts[a]?.getD undef) m
 | .cell a (some n)=>ql n (ts[a]?.getD undef) m
def jZ (ts:List Value) (m:Mem):List ARes->Option (List Value)
 | []=>some []
 | r::rs=>match JK ts m r,jZ ts m rs with
  | some v,some l=>some (v::l)
  | _,_=>none
def oneOf:List Value->Value
 | [v]=>v
 | l=>.tuple l.toArray
abbrev Tab:=FuncId->Option AFunc
def body (fn:AFunc) (call:zj) (n:Nat) (args:List Value) (m:Mem):Option (Value × Mem) :=
 (exec call n fn.body (args++List.replicate (fn.ntmps - args.length) undef) m).bind λr=>match r with
  | (.exit _,_,_)=>none
  | (_,ts,m')=>(jZ ts m' fn.results).map λl=>(oneOf l,m')
def call (S:zj) (tab:Tab):Nat->zj
 | 0,f,args,m=>S f args m
 | n+1,f,args,m=>match S f args m with
  | some r=>some r
  | none=>(tab f).bind λfn=>body fn (call S tab n) n args m
def noS:zj:=λ_ _ _=>none
def comp (P:Program):Code->ACode
 | .skip=>.skip
 | .region _ ops false=>match kg P ops ops.toList with
  | some al=>.region al
  | none=>.stop
 | .region _ ops true=>match kg P ops ops.toList with
  | some al=>if dOk (ops.toList.map zR) al=true then (if Jy 0 al (wW (ops.toList.map zR) al)=true then .region al else .draw al (wW (ops.toList.map zR) al)) else if al.all (λo=>!Vp o.op)=true/\qkf (ops.toList.map zR) (mkF (KN ops al (xy (ops.toList.map zR))) 0 al)=true then .drawF (mkF (KN ops al (xy (ops.toList.map zR))) 0 al) (vD (ops.toList.map zR) (mkF (KN ops al (xy (ops.toList.map zR))) 0 al)) else .stop
  | none=>.stop
 | .seq a b=>.seq (comp P a) (comp P b)
 | .cond c a b=>.cond c (comp P a) (comp P b)
 | .block id a=>.block id (comp P a)
 | .loop a=>.loop (comp P a)
 | .exit id=>.exit id
 | .ret=>.ret
 | _=>.stop
def yU (P:Program):ResultVar->Option ARes
 | .tmp t=>some (.tmp t)
 | .cell a t=>(aggT P t).bind λag=>if ag then (ji P t).map λn=>.cell a (some n) else some (.cell a none)
def qcw (P:Program) (f:FuncId):Option AFunc :=
 (P.funcs[f]?).bind λfn=>fn.body.bind λc=>(fn.results.toList.mapM (yU P)).map λrs=>⟨fn.ntmps,comp P c,rs⟩
def qad (P:Program) (tab:Tab):Prop:=∀ f x,tab f=some x->qcw P f=some x
theorem CallOk.qdM {P:Program} {tab:Tab} (ht:qad P tab) {f:FuncId} {x:AFunc} (h:tab f=some x):∃ fn c,P.funcs[f]? = some fn/\fn.body=some c/\x.body=comp P c/\x.ntmps=fn.ntmps/\fn.results.toList.mapM (yU P)=some x.results:=by
 have:=ht f x h;simp only [qcw,bsI,msI] at this;obtain ⟨fn,h1,c,h2,rs,h4,rfl⟩:=this;exact ⟨fn,c,h1,h2,rfl,rfl,h4⟩
theorem qdg {ro:Option Nat} {P:Program} {call:zj} (hc:CallOk P call) (hg:∀ f args m r,f<yBase->call f args m=some r->zX P f=true) {ops:Array Oper} {Q:Exit->Act->World->Prop}:∀ (l:List Oper) (al:List AOper) (ts:List Value) (m:Mem) (a:Act) (w:World) (φ:Ren) (ts':List Value) (m':Mem),
  kg P ops l=some al->Inv φ m w->VRs φ ts a.tmps.toList->xc call al ts m=some (ts',m')->(∀ a' w',St φ m w a ts' m' a' w'->Q .normal a' w')->wpListIn (rf ro) 0 P ops Q l a w:=by
 intro l
 induction l with
 | nil =>
  intro al ts m a w φ ts' m' h hi ht hr hQ;simp only [kg,sjI] at h;subst h;simp only [xc,sjI,pjI] at hr;obtain ⟨rfl,rfl⟩:=hr;exact hQ a w ⟨φ,ht,hi,Frm.refl φ m w,rfl⟩
 | cons o l ih =>
  intro al ts m a w φ ts' m' h hi ht hr hQ;simp only [kg,bsI] at h;obtain ⟨al',hal,h⟩:=h;have hal2:∃ g,al=⟨o.dst,yZ P o,g⟩::al'/\(match o.guard with|none=>g=none|some (j,want)=>∃ t,(ops[j]?).bind (·.dst)=some t/\g=some (t,want)):=by
   split at h
   ·rename_i h0; cases h; exact ⟨none,rfl,by first|rfl|rw [h0]⟩
   ·rename_i j want h0;simp only [msI] at h;obtain ⟨t,ht,rfl⟩:=h;exact ⟨some (t,want),rfl,by first|exact ⟨t,ht,rfl⟩|(rw [h0]; exact ⟨t,ht,rfl⟩)⟩
  obtain ⟨g,rfl,hgu⟩:=hal2;have hw:=Zw ht hgu;simp only [xc] at hr;unfold wpListIn;rw [hw];split at hr
  ·rename_i hwant;rw [if_pos hwant];simp only [bsI] at hr;obtain ⟨⟨v,m1⟩,hs,hr⟩:=hr;refine jh hc hg rfl hi ht hs ?_;intro V w1 φ1 hv hi1 hf1;refine ih al' _ m1 _ w1 φ1 ts' m' hal hi1 (XM (ht.mono hf1.ren) o.dst hv) hr ?_
   rintro a' w' ⟨φ',h1,h2,h3,h4⟩
   exact hQ a' w' ⟨φ',h1,h2,hf1.trans h3,by rw [h4,put_defers]⟩
  ·rename_i hwant;rw [if_neg hwant];refine ⟨λ_ _=>trivial,?_⟩;refine ih al' _ m _ w φ ts' m' hal hi (XM ht o.dst (VR.undef φ)) hr ?_
   rintro a' w' ⟨φ',h1,h2,h3,h4⟩
   exact hQ a' w' ⟨φ',h1,h2,h3,by rw [h4,put_defers]⟩
def AEx.to:AEx->Exit
 | .normal=>.normal
 | .exit id=>.exit id
 | .ret=>.ret
theorem qax {ro:Option Nat} {P:Program} {call:zj} (hc:CallOk P call) (hg:∀ f args m r,f<yBase->call f args m=some r->zX P f=true) (hm:P.follows .mixedOrders=true) (n:Nat):∀ (c:Code) (ts:List Value) (m:Mem) (a:Act) (w:World) (φ:Ren) (e:AEx) (ts':List Value) (m':Mem) (Q:Exit->Act->World->Prop),
  Inv φ m w->VRs φ ts a.tmps.toList->exec call n (comp P c) ts m=some (e,ts',m')->(∀ a' w',St φ m w a ts' m' a' w'->Q e.to a' w')->c.wpIn (rf ro) 0 P Q a w:=by
 intro c
 induction c with
 | skip =>
  intro ts m a w φ e ts' m' Q hi ht hr hQ;simp only [comp,exec,sjI,pjI] at hr;obtain ⟨rfl,rfl,rfl⟩:=hr;exact wpIn_skip (hQ a w ⟨φ,ht,hi,Frm.refl φ m w,rfl⟩)
 | exit id =>
  intro ts m a w φ e ts' m' Q hi ht hr hQ;simp only [comp,exec,sjI,pjI] at hr;obtain ⟨rfl,rfl,rfl⟩:=hr;exact wpIn_exit (hQ a w ⟨φ,ht,hi,Frm.refl φ m w,rfl⟩)
 | ret =>
  intro ts m a w φ e ts' m' Q hi ht hr hQ;simp only [comp,exec,sjI,pjI] at hr;obtain ⟨rfl,rfl,rfl⟩:=hr;exact wpIn_ret (hQ a w ⟨φ,ht,hi,Frm.refl φ m w,rfl⟩)
 | region id ops draw =>
  intro ts m a w φ e ts' m' Q hi ht hr hQ;cases draw with
  | true =>
   simp only [comp] at hr;split at hr
   ·rename_i al hal;split at hr
    ·rename_i hd;split at hr
     ·rename_i hsq;simp only [exec,msI,pjI] at hr;obtain ⟨⟨ts1,m1⟩,hr,rfl,rfl,rfl⟩:=hr;exact Jr hc hg hm hal hd hi ht (qeK hsq hr) hQ
     ·simp only [exec,msI,pjI] at hr;obtain ⟨⟨ts1,m1⟩,hr,rfl,rfl,rfl⟩:=hr;exact Jr hc hg hm hal hd hi ht hr hQ
    ·split at hr
     ·rename_i hd;simp only [exec,msI,pjI] at hr;obtain ⟨⟨ts1,m1⟩,hr,rfl,rfl,rfl⟩:=hr;exact YP hc hg hm hal rfl hd.1 hd.2 hi ht hr hQ
     ·simp [exec] at hr
   ·simp [exec] at hr
  | false =>
   simp only [comp] at hr;split at hr
   ·rename_i al hal;simp only [exec,msI,pjI] at hr;obtain ⟨⟨ts1,m1⟩,hr,rfl,rfl,rfl⟩:=hr;exact wpIn_region_list (qdg hc hg ops.toList al ts m a w φ ts1 m1 hal hi ht hr hQ)
   ·simp [exec] at hr
 | seq x y ihx ihy =>
  intro ts m a w φ e ts' m' Q hi ht hr hQ;simp only [comp,exec,bsI] at hr;obtain ⟨⟨e1,ts1,m1⟩,h1,hr⟩:=hr;refine wpIn_seq (ihx ts m a w φ e1 ts1 m1 _ hi ht h1 ?_)
  rintro a1 w1 ⟨φ1,q1,q2,q3,q4⟩
  cases e1 with
  | normal =>
   simp only at hr;refine ihy ts1 m1 a1 w1 φ1 e ts' m' Q q2 q1 hr ?_
   rintro a' w' ⟨φ',h1,h2,h3,h4⟩
   exact hQ a' w' ⟨φ',h1,h2,q3.trans h3,h4.trans q4⟩
  | exit id =>
   simp only [sjI,pjI] at hr;obtain ⟨rfl,rfl,rfl⟩:=hr;exact hQ a1 w1 ⟨φ1,q1,q2,q3,q4⟩
  | ret =>
   simp only [sjI,pjI] at hr;obtain ⟨rfl,rfl,rfl⟩:=hr;exact hQ a1 w1 ⟨φ1,q1,q2,q3,q4⟩
 | cond x p q ihp ihq =>
  intro ts m a w φ e ts' m' Q hi ht hr hQ;simp only [comp,exec,bsI] at hr;obtain ⟨v,hv,t,htt,hr⟩:=hr;have hvr:=qw ht hv;generalize hx:a.eval x=X at hvr;unfold asB at htt;split at htt
  ·cases htt
   cases hvr
   refine wpIn_cond hx ?_;cases t
   ·exact ihq ts m a w φ e ts' m' Q hi ht hr hQ
   ·exact ihp ts m a w φ e ts' m' Q hi ht hr hQ
  ·cases htt
 | block id x ih =>
  intro ts m a w φ e ts' m' Q hi ht hr hQ;simp only [comp,exec,msI] at hr;obtain ⟨⟨e1,ts1,m1⟩,h1,hr⟩:=hr;refine wpIn_block (ih ts m a w φ e1 ts1 m1 _ hi ht h1 ?_);intro a1 w1 hst;cases e1 with
  | normal =>
   simp only [pjI] at hr;obtain ⟨rfl,rfl,rfl⟩:=hr;exact hQ a1 w1 hst
  | exit j =>
   simp only at hr;simp only [AEx.to,Exit.inBlock];split at hr
   ·rename_i hj;simp only [pjI] at hr;obtain ⟨rfl,rfl,rfl⟩:=hr;rw [if_pos hj]; exact hQ a1 w1 hst
   ·rename_i hj;simp only [pjI] at hr;obtain ⟨rfl,rfl,rfl⟩:=hr;rw [if_neg hj]; exact hQ a1 w1 hst
  | ret =>
   simp only [pjI] at hr;obtain ⟨rfl,rfl,rfl⟩:=hr;exact hQ a1 w1 hst
 | loop x ih =>
  intro ts m a w φ e ts' m' Q hi ht hr hQ;simp only [comp,exec] at hr;have key:∀ (k:Nat) (ts:List Value) (m:Mem) (a:Act) (w:World) (φ:Ren),Inv φ m w->VRs φ ts a.tmps.toList->kU (exec call n (comp P x)) k ts m=some (e,ts',m')->(∀ a' w',St φ m w a ts' m' a' w'->Q e.to a' w')->Code.roundsIn (rf ro) 0 P x Q k a w:=by
   intro k
   induction k with
   | zero=>intro ts m a w φ hi ht hr; simp [kU] at hr
   | succ k ihk =>
    intro ts m a w φ hi ht hr hQ;simp only [kU,bsI] at hr;obtain ⟨⟨e1,ts1,m1⟩,h1,hr⟩:=hr;rw [roundsIn_succ];refine ih ts m a w φ e1 ts1 m1 _ hi ht h1 ?_
    rintro a1 w1 ⟨φ1,q1,q2,q3,q4⟩
    cases e1 with
    | normal =>
     simp only at hr;refine ihk ts1 m1 a1 w1 φ1 q2 q1 hr ?_
     rintro a' w' ⟨φ',h1,h2,h3,h4⟩
     exact hQ a' w' ⟨φ',h1,h2,q3.trans h3,h4.trans q4⟩
    | exit id =>
     simp only [sjI,pjI] at hr;obtain ⟨rfl,rfl,rfl⟩:=hr;exact hQ a1 w1 ⟨φ1,q1,q2,q3,q4⟩
    | ret =>
     simp only [sjI,pjI] at hr;obtain ⟨rfl,rfl,rfl⟩:=hr;exact hQ a1 w1 ⟨φ1,q1,q2,q3,q4⟩
  exact wpIn_loop_rounds n (key n ts m a w φ hi ht hr hQ)
 | _ =>
  intros
  rename_i h _;simp [comp,exec] at h
theorem qde {P:Program} {φ:Ren} {m:Mem} {w:World} (hi:Inv φ m w) {ts:List Value} {tmps:Array Value} (ht:VRs φ ts tmps.toList):∀ (l:List ResultVar) (al:List ARes) (vs:List Value),l.mapM (yU P)=some al->jZ ts m al=some vs ->
  ∃ Vs,(l.mapM (fun|.tmp t=>pure (tmps.getD t undef)|.cell a t=>do loadVar t (<- asAddr (tmps.getD a undef))):Sem (List Value)).run P w=.ok Vs w/\VRs φ vs Vs:=by
 have hget:∀ t,VR φ (ts[t]?.getD undef) (tmps.getD t undef):=by
  intro t;have:=qw (a:={ tmps,defers:=[] }) ht (x:=.tmp t) rfl;exact this
 intro l
 induction l with
 | nil =>
  intro al vs h hv;simp at h; subst h;simp only [jZ,sjI] at hv;subst hv;exact ⟨[],by simp,VRs.nil φ⟩
 | cons r l ih =>
  intro al vs h hv;simp only [List.mapM_cons,Option.bind_eq_bind,bsI,Option.pure_def,sjI] at h;obtain ⟨ar,har,al',hal,rfl⟩:=h;simp only [jZ] at hv;split at hv
  ·rename_i v vs' hv1 hv2;cases hv
   obtain ⟨Vs,h1,h2⟩:=ih al' vs' hal hv2;have hone:∃ V,((match r with|.tmp t=>pure (tmps.getD t undef)|.cell a t=>do loadVar t (<- asAddr (tmps.getD a undef))):Sem Value).run P w=.ok V w/\VR φ v V:=by
    cases r with
    | tmp t =>
     simp only [yU,sjI] at har;subst har;simp only [JK,sjI] at hv1;subst hv1;exact ⟨_,rfl,hget t⟩
    | cell a t =>
     simp only [yU,bsI] at har;obtain ⟨ag,hag,har⟩:=har;have hsure:∀ {V:Value} {u U:Value},VR φ u V->(jV u).isSome=true->(Instr.loadAt t V).run P w=.ok U w->((do loadVar t (<- asAddr V)):Sem Value).run P w=.ok U w:=by
      intro V u U hr hp h;cases hr<;>simp [jV] at hp
      simpa [Instr.loadAt,Instr.sureAddr,asAddr] using h
     cases ag
     ·simp only [Bool.false_eq_true,if_false,sjI] at har;subst har;simp only [JK] at hv1;obtain ⟨U,h3,h4⟩:=Xf (P:=P) hi hag (hget a) hv1;refine ⟨U,hsure (hget a) ?_ h3,h4⟩;simp only [qa,bsI] at hv1;obtain ⟨p,hp,_⟩:=hv1;rw [hp]; rfl
     ·simp only [if_true,msI] at har;obtain ⟨n,hn,rfl⟩:=har;obtain ⟨i,hti,rfl⟩:=zx hn;simp only [JK] at hv1;obtain ⟨U,h3,h4⟩:=Xe (P:=P) hi hag hti (hget a) hv1;refine ⟨U,hsure (hget a) ?_ h3,h4⟩;simp only [ql,bsI] at hv1;obtain ⟨p,hp,_⟩:=hv1;rw [hp]; rfl
   obtain ⟨V,h3,h4⟩:=hone;refine ⟨V::Vs,?_,VRs.cons h4 h2⟩;simp only [List.mapM_cons,Sem.run_bind];rw [h3];simp only [Result.andThen_ok];rw [h1];rfl
  ·cases hv
theorem qaI {P:Program} {φ:Ren} {m:Mem} {w:World} (hi:Inv φ m w) {ts:List Value} {tmps:Array Value} (ht:VRs φ ts tmps.toList) {fn:Func} {al:List ARes} {vs:List Value} (h:fn.results.toList.mapM (yU P)=some al) (hv:jZ ts m al=some vs) :
  ∃ V,(results fn tmps).run P w=.ok V w/\VR φ (oneOf vs) V:=by
 obtain ⟨Vs,h1,h2⟩:=qde (P:=P) hi ht _ al vs h hv;rw [<- Array.toList_mapM,Sem.run_map] at h1;have h3:∃ A:Array Value,(fn.results.mapM (fun|.tmp t=>pure (tmps.getD t undef)|.cell a t=>do loadVar t (<- asAddr (tmps.getD a undef))):Sem (Array Value)).run P w=.ok A w/\A.toList=Vs:=by
  generalize (fn.results.mapM (fun|.tmp t=>pure (tmps.getD t undef)|.cell a t=>do loadVar t (<- asAddr (tmps.getD a undef))):Sem (Array Value)).run P w=q at h1 ⊢
  cases q with
  | ok A w'=>simp at h1; obtain ⟨rfl,rfl⟩:=h1; exact ⟨A,rfl,rfl⟩
  | halt q w'=>simp at h1
 obtain ⟨A,h3,rfl⟩:=h3;refine ⟨if h:A.size=1 then A[0] else .tuple A,?_,?_⟩
 ·simp only [results,Sem.run_bind];refine Eq.trans (congrArg (λx=>Result.andThen x _) h3) ?_;rfl
 ·have hsz:=h2.1;simp only [Array.length_toList] at hsz;by_cases h1:A.size=1
  ·rw [dif_pos h1];cases vs with
   | nil=>simp at hsz; omega
   | cons v r =>
    cases r with
    | nil =>
     simp only [oneOf];exact h2.2 0 v A[0] rfl (by simp [h1])
    | cons v' r=>simp at hsz; omega
  ·rw [dif_neg h1];have htup:=h2.tuple;have:oneOf vs=.tuple vs.toArray:=by
    cases vs with
    | nil=>rfl
    | cons v r=>cases r with
     | nil=>simp at hsz; omega
     | cons _ _=>rfl
   rw [this];simpa using htup
theorem qea {P:Program} {S:zj} {tab:Tab} (hS:∀ f args m r,f<yBase->S f args m=some r->zX P f=true) (hn:∀ f x,tab f=some x->zX P f=true):∀ n f args m r,f<yBase->call S tab n f args m=some r->zX P f=true:=by
 intro n f args m r hf h;cases n with
 | zero=>exact hS _ _ _ _ hf h
 | succ n =>
  simp only [call] at h;split at h
  ·rename_i hs; exact hS _ _ _ _ hf hs
  ·simp only [bsI] at h;obtain ⟨x,hx,_⟩:=h;exact hn f x hx
theorem Js {P:Program} {S:zj} {tab:Tab} (hm:P.follows .mixedOrders=true) (hSok:CallOk P S) (hS:∀ f args m r,f<yBase->S f args m=some r->zX P f=true) (htab:qad P tab) (hn:∀ f x,tab f=some x->zX P f=true):∀ n,CallOk P (call S tab n):=by
 intro n
 induction n with
 | zero=>exact hSok
 | succ n ih =>
  refine ⟨?_,λN args m v m' h φ w ARGS hi hargs=>?_⟩
  rotate_left
  ·simp only [call] at h;split at h
   ·rename_i r hs;cases h
    exact hSok.yl N args m v m' hs φ w ARGS hi hargs
   ·simp only [bsI] at h;obtain ⟨x,hx,_⟩:=h;exact absurd (Vu (hn _ x hx)) (Nat.not_lt.2 (Nat.le_add_right yBase N))
  intro f args m v m' hf h φ w ARGS hi hargs;simp only [call] at h;split at h
  ·rename_i r hs;cases h
   exact hSok.fn f args m v m' hf hs φ w ARGS hi hargs
  simp only [bsI] at h;obtain ⟨x,hx,h⟩:=h;obtain ⟨fn,c,h1,h2,h4,h5,h6⟩:=CallOk.qdM htab hx;simp only [body,bsI] at h;obtain ⟨⟨e,ts,m1⟩,hex,h⟩:=h;refine Hi.1 (callsIn_of_wp (F:=rf none) (n:=0) h1 h2 trivial ?_);have htm:VRs φ (args++List.replicate (x.ntmps - args.length) undef) (ARGS++Array.replicate (fn.ntmps - ARGS.size) undef).toList:=by
   have hl:args.length=ARGS.size:=by simpa using hargs.1
   rw [Array.toList_append,h5,hl,Array.toList_replicate];refine hargs.append ⟨rfl,λi x y hx hy=>?_⟩;rw [hx] at hy; cases hy
   rw [List.getElem?_replicate] at hx;split at hx
   ·cases hx; exact VR.undef φ
   ·cases hx
  refine qax ih (qea hS hn n) hm n c _ m _ w φ e ts m1 _ hi htm (h4 ▸ hex) ?_
  rintro a' w' ⟨φ',q1,q2,q3,q4⟩
  have fin:∀ (e':AEx),e=e'->(e'=.normal∨e'=.ret)->bodyPost P fn (λe w'=>∃ V φ',e=.returned V/\VR φ' v V/\Inv φ' m' w'/\Frm φ m w φ' m' w') e'.to a' w':=by
   intro e' he he';subst he;have hv:(jZ ts m1 x.results).map (λl=>(oneOf l,m1))=some (v,m'):=by
    rcases he' with rfl|rfl<;>exact h
   simp only [msI,pjI] at hv;obtain ⟨l,hl,rfl,rfl⟩:=hv;obtain ⟨V,hV,hr⟩:=qaI (P:=P) q2 q1 h6 hl;rcases he' with rfl|rfl<;>exact ⟨q4,V,hV,V,φ',rfl,hr,q2,q3⟩
  cases e with
  | normal=>exact fin .normal rfl (.inl rfl)
  | ret=>exact fin .ret rfl (.inr rfl)
  | exit id=>simp at h
theorem qjC (P:Program):CallOk P noS:=⟨λf args m v m' _ h=>by simp [noS] at h,λN args m v m' h=>by simp [noS] at h⟩
theorem qfj {P:Program}:∀ f args m r,f<yBase->noS f args m=some r->zX P f=true:=λf args m r _ h=>by simp [noS] at h
end Go.Fx
namespace Go.Fx
open Go
def vx (P:Program):List Field->Nat->Nat->Bool
 | [],off,total=>off == total
 | f::r,off,total=>f.offset == off&&vx P r (off+P.cellsOf f.type) total
def okT (P:Program):Nat->TypeId->Bool
 | 0,_=>false
 | n+1,t=>match P.underlying t with
  | some .bool|some (.int _)|some .string=>P.cellsOf t == 1
  | some (.slice e)=>P.cellsOf t == 1&&P.cellsOf e != 0&&okT P n e
  | some (.struct fs)=>vx P fs.toList 0 (P.cellsOf t)&&fs.toList.all λf=>okT P n f.type
  | some (.array k e)=>P.cellsOf t == k * P.cellsOf e&&okT P n e
  | _=>false
def WTB (P:Program) (B:Nat) (m:Mem):Nat->TypeId->List Value->Prop
 | 0,_,_=>False
 | n+1,t,cs=>match P.underlying t with
  | some .bool=>∃ b,cs=[.bool b]
  | some (.int k)=>∃ x,cs=[.int k x]/\(Lit.int k x).wf=true
  | some .string=>∃ s:ByteArray,cs=[.string s]/\s.size<=B
  | some (.slice e)=>cs=[.slice none 0 0]∨(∃ b off,cs=[.slice (some ⟨b,off,none⟩) 0 0]/\b<m.next) ∨
    ∃ b len cap c e',cs=[.slice (some ⟨b,0,none⟩) len cap]/\b<m.next/\len<=cap/\(cap<=maxLen/\cap * P.bytesOf e<=B)/\m.get b=some ⟨.cells c e',true,none⟩/\c.length=cap * P.cellsOf e /\
     ∀ i,i<cap->WTB P B m n e ((c.drop (i * P.cellsOf e)).take (P.cellsOf e))
  | some (.struct fs)=>cs.length=P.cellsOf t/\∀ f∈fs.toList,WTB P B m n f.type ((cs.drop f.offset).take (P.cellsOf f.type))
  | some (.array k e)=>cs.length=k * P.cellsOf e/\∀ i,i<k->WTB P B m n e ((cs.drop (i * P.cellsOf e)).take (P.cellsOf e))
  | _=>False
abbrev WT (P:Program):=WTB P reachBytes
def Mem.sub (m m':Mem):Prop:=(∀ b x,m.get b=some x->m'.get b=some x)/\m.next<=m'.next
theorem Mem.vV (m:Mem):m.sub m:=⟨λ_ _ h=>h,Nat.le_refl _⟩
theorem Mem.Zz {m m' m'':Mem} (h:m.sub m') (h':m'.sub m''):m.sub m'':=⟨λb x e=>h'.1 b x (h.1 b x e),Nat.le_trans h.2 h'.2⟩
theorem WTB.mono {P:Program} {B:Nat} {m m':Mem} (hs:m.sub m'):∀ {n:Nat} {t:TypeId} {cs:List Value},WTB P B m n t cs->WTB P B m' n t cs
 | 0,_,_,h=>h
 | n+1,t,cs,h=>by
  unfold WTB at h ⊢;cases hd:P.underlying t with
  | none=>rw [hd] at h; exact h
  | some d =>
   rw [hd] at h;cases d<;>simp only at h ⊢<;>try exact h
   ·rcases h with h|⟨b,off,h,hb⟩|⟨b,len,cap,c,e',h1,hb,h2,h3,h4,h5,h6⟩
    ·exact .inl h
    ·exact .inr (.inl ⟨b,off,h,Nat.lt_of_lt_of_le hb hs.2⟩)
    ·exact .inr (.inr ⟨b,len,cap,c,e',h1,Nat.lt_of_lt_of_le hb hs.2,h2,h3,hs.1 _ _ h4,h5,λi hi=>(h6 i hi).mono hs⟩)
   ·exact ⟨h.1,λi hi=>(h.2 i hi).mono hs⟩
   ·exact ⟨h.1,λf hf=>(h.2 f hf).mono hs⟩
def AllRo (m:Mem):Prop:=∀ b x,m.get b=some x->x.ro=true
theorem Inv.qlf {φ:Ren} {m:Mem} {w:World} (h:Inv φ m w) (hr:AllRo m) (x:ABlk) (l:Loc) (hx:x.ro=true) (hb:l.blk<w.heap.size) (ok:kq φ w x l) :
  Inv (φ.set m.next l) (m.add x) w/\AllRo (m.add x)/\Ren.le φ (φ.set m.next l)/\m.sub (m.add x):=by
 have hle:=Ren.wM (l:=l) h.fresh;have hro:AllRo (m.add x):=by
  intro b y hy;rw [Mem.zw] at hy;by_cases e:b=m.next
  ·rw [if_pos e] at hy; cases hy; exact hx
  ·rw [if_neg e] at hy; exact hr b y hy
 refine ⟨⟨λb y hy=>?_,λb c y z k j hy hz hk hj hry hbc=>?_,λb k hk=>?_⟩,hro,hle,λb y hy=>?_,by simp⟩
 ·rw [Mem.zw] at hy;by_cases e:b=m.next
  ·rw [if_pos e] at hy; cases hy
   exact ⟨l,by rw [e]; exact Ren.zB ..,ok.mono hle⟩
  ·rw [if_neg e] at hy;obtain ⟨k,hk,okk⟩:=h.live b y hy;exact ⟨k,hle _ _ hk,okk.mono hle⟩
 ·rw [hro b y hy] at hry; cases hry
 ·rw [Mem.QQ];by_cases e:b=m.next
  ·rw [e,Ren.zB] at hk; cases hk
   exact ⟨by omega,hb⟩
  ·rw [Ren.zk _ _ e] at hk;have:=h.below b k hk;exact ⟨by omega,this.2⟩
 ·rw [Mem.zw,if_neg (λe=>by rw [e,h.qdN] at hy; cases hy)]
  exact hy
section
variable {H:Type} {enc:TypeId × Value->H} {P:Program} {W:World} {B:Nat}
def qkw (P:Program) (B:Nat) (W:World) (n:Nat) (t:TypeId) (cs:List Value):Prop :=
 ∀ φ m,Inv φ m W->AllRo m->∃ φ' m' acs,Inv φ' m' W/\AllRo m'/\Ren.le φ φ'/\m.sub m'/\VRs φ' acs cs/\WTB P B m' n t acs
theorem QV {n:Nat}:∀ (items:List (TypeId × List Value)),(∀ it∈items,qkw P B W n it.1 it.2)->∀ φ m,Inv φ m W->AllRo m ->
  ∃ (φ':Ren) (m':Mem) (outs:List (List Value)),Inv φ' m' W/\AllRo m'/\Ren.le φ φ'/\m.sub m'/\outs.length=items.length/\∀ (i:Nat) it (o:List Value),items[i]? = some it->outs[i]? = some o->VRs φ' o it.2/\WTB P B m' n it.1 o
 | [],_,φ,m,hi,hr=>⟨φ,m,[],hi,hr,Ren.le_refl φ,m.vV,rfl,λi it o h=>by simp at h⟩
 | it::items,hall,φ,m,hi,hr=>by
  obtain ⟨φ1,m1,acs,i1,r1,l1,s1,v1,w1⟩:=hall it (List.mem_cons_self ..) φ m hi hr;obtain ⟨φ2,m2,outs,i2,r2,l2,s2,e2,a2⟩:=QV items (λx hx=>hall x (List.mem_cons_of_mem _ hx)) φ1 m1 i1 r1;refine ⟨φ2,m2,acs::outs,i2,r2,Ren.le_trans l1 l2,Mem.Zz s1 s2,by simp [e2],λi x o hx ho=>?_⟩;cases i with
  | zero=>simp at hx ho; subst hx; subst ho; exact ⟨v1.mono l2,w1.mono s2⟩
  | succ i=>exact a2 i x o (by simpa using hx) (by simpa using ho)
theorem VRs.flatten {φ:Ren}:∀ {xs ys:List (List Value)},xs.length=ys.length->(∀ (i:Nat) x y,xs[i]? = some x->ys[i]? = some y->VRs φ x y)->VRs φ xs.flatten ys.flatten
 | [],[],_,_=>VRs.nil φ
 | x::xs,y::ys,h,hall=>by
  rw [List.flatten_cons,List.flatten_cons];exact (hall 0 x y rfl rfl).append (VRs.flatten (by simpa using h) (λi a b ha hb=>hall (i+1) a b (by simpa using ha) (by simpa using hb)))
theorem kK {s:Nat}:∀ {xs:List (List Value)},(∀ x∈xs,x.length=s)->∀ (i:Nat) x,xs[i]? = some x->(xs.flatten.drop (i * s)).take s=x
 | [],_,i,x,h=>by simp at h
 | y::xs,hl,i,x,h=>by
  have hy:=hl y (List.mem_cons_self ..);cases i with
  | zero =>
   simp only [List.getElem?_cons_zero,sjI] at h;subst h;simp [<- hy]
  | succ i =>
   rw [List.flatten_cons,show (i+1) * s=y.length+i * s by rw [hy,Nat.add_mul]; omega,List.drop_append,List.drop_eq_nil_of_le (by omega)];rw [List.nil_append,show y.length+i * s - y.length=i * s by omega];exact kK (λz hz=>hl z (List.mem_cons_of_mem _ hz)) i x (by simpa using h)
theorem yo {s:Nat}:∀ {xs:List (List Value)},(∀ x∈xs,x.length=s)->xs.flatten.length=xs.length * s
 | [],_=>by simp
 | y::xs,hl=>by
  rw [List.flatten_cons,laI,hl y (List.mem_cons_self ..),yo (λz hz=>hl z (List.mem_cons_of_mem _ hz)),lnI,Nat.add_mul]; omega
theorem vh:∀ (fs:List Field) (off total:Nat) (cs:List Value),vx P fs off total=true->cs.length=total->(fs.map λf=>(cs.drop f.offset).take (P.cellsOf f.type)).flatten=cs.drop off
 | [],off,total,cs,h,hl=>by
  simp only [vx,beq_iff_eq] at h;subst h;simp [hl]
 | f::fs,off,total,cs,h,hl=>by
  simp only [vx,baI,beq_iff_eq] at h;obtain ⟨rfl,h⟩:=h;have:=vh fs _ total cs h hl;rw [List.map_cons,List.flatten_cons,this];rw [<- List.drop_drop];exact List.take_append_drop _ _
theorem Jd:∀ (fs:List Field) (off total:Nat),vx P fs off total=true->off<=total/\∀ f∈fs,off<=f.offset/\f.offset+P.cellsOf f.type<=total
 | [],off,total,h=>by
  simp only [vx,beq_iff_eq] at h;exact ⟨by omega,λf hf=>by cases hf⟩
 | g::fs,off,total,h=>by
  simp only [vx,baI,beq_iff_eq] at h;obtain ⟨rfl,h⟩:=h;obtain ⟨h1,h2⟩:=Jd fs _ total h;refine ⟨by omega,λf hf=>?_⟩;rcases lcI.1 hf with rfl|hf
  ·exact ⟨Nat.le_refl _,h1⟩
  ·have:=h2 f hf;exact ⟨by omega,this.2⟩
theorem Jc:∀ (fs:List Field) (outs:List (List Value)) (off total:Nat) (pre:List Value),vx P fs off total=true->outs.length=fs.length->(∀ (i:Nat) f o,fs[i]? = some f->outs[i]? = some o->o.length=P.cellsOf f.type)->pre.length=off ->
  ∀ (i:Nat) f o,fs[i]? = some f->outs[i]? = some o->((pre++outs.flatten).drop f.offset).take (P.cellsOf f.type)=o
 | [],_,_,_,_,_,_,_,_,i,f,o,h,_=>by simp at h
 | g::fs,[],_,_,_,_,hl,_,_,_,_,_,_,_=>by simp at hl
 | g::fs,x::outs,off,total,pre,ht,hl,hlen,hp,i,f,o,hf,ho=>by
  simp only [vx,baI,beq_iff_eq] at ht;obtain ⟨hg,ht⟩:=ht;have hx:=hlen 0 g x rfl rfl;cases i with
  | zero =>
   simp only [List.getElem?_cons_zero,sjI] at hf ho;subst hf; subst ho;rw [hg,<- hp,List.drop_left,List.flatten_cons,<- hx,List.take_left]
  | succ i =>
   have:=Jc fs outs (off+P.cellsOf g.type) total (pre++x) ht (by simpa using hl) (λi f o hf ho=>hlen (i+1) f o (by simpa using hf) (by simpa using ho)) (by simp [hp,hx]) i f o (by simpa using hf) (by simpa using ho);rw [List.flatten_cons,<- aaI]; exact this
theorem Jb:∀ (fs:List Field) (outs:List (List Value)) (off total:Nat),vx P fs off total=true->outs.length=fs.length->(∀ (i:Nat) f o,fs[i]? = some f->outs[i]? = some o->o.length=P.cellsOf f.type)->off+outs.flatten.length=total
 | [],outs,off,total,h,hl,_=>by
  simp only [vx,beq_iff_eq] at h;have:outs=[]:=by simpa using hl
  subst this; simp [h]
 | g::fs,[],_,_,_,hl,_=>by simp at hl
 | g::fs,x::outs,off,total,h,hl,hlen=>by
  simp only [vx,baI,beq_iff_eq] at h;obtain ⟨hg,h⟩:=h;have:=Jb fs outs _ total h (by simpa using hl) (λi f o hf ho=>hlen (i+1) f o (by simpa using hf) (by simpa using ho));have hx:=hlen 0 g x rfl rfl;rw [List.flatten_cons,laI,hx]; omega
theorem jH {e:TypeId} {d:DataW H}:∀ {l:List (DataW H)},d∈l->∀ z∈d.weights P e,z∈DataW.weightsAll P e l
 | [],h,_,_=>by cases h
 | x::l,h,z,hz=>by
  simp only [DataW.weightsAll,List.mem_append];rcases lcI.1 h with rfl|h
  ·exact .inl hz
  ·exact .inr (jH h z hz)
theorem qeB:∀ (n fuel:Nat) (t:TypeId) (cs:List Value) (x:DataW H × List MemPlace),okT P n t=true->DataW.trod enc P W 0 (λ_=>true) true fuel t cs=some x->(∀ z∈x.1.weights P t,z<=B)->qkw P B W n t cs:=by
 intro n
 induction n with
 | zero=>intro fuel t cs x h; simp [okT] at h
 | succ n ih =>
  intro fuel t cs x hok htr hwt φ m hi hr;unfold okT at hok;cases hd:P.underlying t with
  | none=>rw [hd] at hok; cases hok
  | some d =>
   rw [hd] at hok;cases d<;>simp only [Bool.false_eq_true] at hok
   case bool =>
    obtain ⟨b,rfl,_⟩:=DataW.trod_bool hd htr;exact ⟨φ,m,[.bool b],hi,hr,Ren.le_refl φ,m.vV,VRs.cons (.bool b) (VRs.nil φ),by unfold WTB; rw [hd]; exact ⟨b,rfl⟩⟩
   case int k =>
    obtain ⟨z,rfl,_,hw⟩:=DataW.trod_int hd htr;exact ⟨φ,m,[.int k z],hi,hr,Ren.le_refl φ,m.vV,VRs.cons (.int k z) (VRs.nil φ),by unfold WTB; rw [hd]; exact ⟨z,rfl,hw⟩⟩
   case string =>
    obtain ⟨s,rfl,rfl,_⟩:=DataW.trod_string hd htr;have hw:s.size<=B:=hwt s.data.toList.length (by simp [DataW.weights]);exact ⟨φ,m,[.string s],hi,hr,Ren.le_refl φ,m.vV,VRs.cons (.string s) (VRs.nil φ),by unfold WTB; rw [hd]; exact ⟨s,rfl,hw⟩⟩
   case slice e =>
    simp only [baI,beq_iff_eq,bne_iff_ne,ne_eq] at hok;obtain ⟨⟨_,hs⟩,hoe⟩:=hok;rcases DataW.trod_slice hd htr with ⟨rfl,_⟩|⟨a,len,cap,elems,rest,k,rfl,rfl,rfl,_,hl,hm,hlen,hel,hsp,_⟩
    ·exact ⟨φ,m,[.slice none 0 0],hi,hr,Ren.le_refl φ,m.vV,VRs.cons .sliceNil (VRs.nil φ),by unfold WTB; rw [hd]; exact .inl rfl⟩
    ·by_cases h0:cap=0
     ·subst h0;obtain rfl:len=0:=by omega
      exact ⟨φ,⟨m.next+1,m.t⟩,[.slice (some ⟨m.next,0,none⟩) 0 0],⟨hi.live,hi.apart,λb l hl=>by have:=hi.below b l hl; exact ⟨by show b<m.next+1; omega,this.2⟩⟩,hr,Ren.le_refl φ,⟨λ_ _ h=>h,Nat.le_succ _⟩,
       VRs.cons (.sliceZero m.next 0 a) (VRs.nil φ),by unfold WTB; rw [hd]; exact .inr (.inl ⟨m.next,0,rfl,Nat.lt_succ_self _⟩)⟩
     ·obtain ⟨hrl,hrest⟩:=hsp rfl;have hmB:cap * P.bytesOf e<=B:=by
       have:=hwt ((elems.length+rest.length) * P.bytesOf e) (by simp [DataW.weights,hd]);rw [show elems.length+rest.length=cap by omega] at this;exact this
      have hwe:∀ y∈elems,∀ z∈y.1.weights P e,z<=B:=λy hy z hz=>hwt z (by
       simp only [DataW.weights,hd,lcI,List.mem_append];exact .inr (.inl (jH (List.mem_map_of_mem hy) z hz)))
      have hwr:∀ y∈rest,∀ z∈y.1.weights P e,z<=B:=λy hy z hz=>hwt z (by
       simp only [DataW.weights,hd,lcI,List.mem_append];exact .inr (.inr (jH (List.mem_map_of_mem hy) z hz)))
      have each:∀ i,i<cap->∃ ci y,W.cells? 0 (a.add (i * P.cellsOf e)) (P.cellsOf e)=some ci/\DataW.trod enc P W 0 (λ_=>true) true k e ci=some y/\∀ z∈y.1.weights P e,z<=B:=by
       intro i hi;by_cases hil:i<len
       ·have:=hel i hil;rw [List.getElem?_eq_getElem (by omega),bsI] at this;obtain ⟨ci,h1,h2⟩:=this;exact ⟨ci,_,h1,h2,hwe _ (List.getElem_mem _)⟩
       ·have:=hrest (i - len) (by omega);rw [show len+(i - len)=i by omega,List.getElem?_eq_getElem (by omega),bsI] at this;obtain ⟨ci,h1,h2⟩:=this;exact ⟨ci,_,h1,h2,hwr _ (List.getElem_mem _)⟩
      let items:List (TypeId × List Value):=(List.range cap).map λi=>(e,(W.cells? 0 (a.add (i * P.cellsOf e)) (P.cellsOf e)).getD [])
      have hitem:∀ (i:Nat) it,items[i]? = some it->i<cap/\it.1=e/\W.cells? 0 (a.add (i * P.cellsOf e)) (P.cellsOf e)=some it.2:=by
       intro i it hit;rcases Nat.lt_or_ge i cap with hic|hic
       ·obtain ⟨ci,y,h1,_,_⟩:=each i hic;have:items[i]? = some (e,(W.cells? 0 (a.add (i * P.cellsOf e)) (P.cellsOf e)).getD []):=by simp [items,hic]
        rw [this] at hit; cases hit
        exact ⟨hic,rfl,by rw [h1]; rfl⟩
       ·rw [List.getElem?_eq_none (by simp [items]; omega)] at hit; cases hit
      obtain ⟨φ1,m1,outs,i1,r1,l1,s1,e1,a1⟩:=QV items (λit hit=>by
       obtain ⟨i,hi'⟩:=List.getElem?_of_mem hit;obtain ⟨hc,he,hcs⟩:=hitem i it hi';obtain ⟨ci,y,h1,h2,h3⟩:=each i hc;rw [h1] at hcs; cases hcs
       rw [he];exact ih k e it.2 y hoe h2 h3) φ m hi hr
      have hil:items.length=cap:=by simp [items]
      have hol:outs.length=cap:=by rw [e1,hil]
      have hget:∀ (i:Nat),i<cap->∃ (o ci:List Value),outs[i]? = some o/\items[i]? = some (e,ci)/\W.cells? 0 (a.add (i * P.cellsOf e)) (P.cellsOf e)=some ci/\VRs φ1 o ci/\WTB P B m1 n e o/\o.length=P.cellsOf e:=by
       intro i hi';have ho:outs[i]? = some (outs[i]'(by omega)):=List.getElem?_eq_getElem (by omega);have hit:items[i]? = some (items[i]'(by omega)):=List.getElem?_eq_getElem (by omega);obtain ⟨_,h1,h2⟩:=hitem i _ hit;obtain ⟨v,wt⟩:=a1 i _ _ hit ho;have hcl:=(World.cells?_some h2).2.1;refine ⟨_,(items[i]'(by omega)).2,ho,hit.trans (congrArg some (Prod.ext h1 rfl)),h2,v,Eq.mp (congrArg (λtt=>WTB P B m1 n tt _) h1) wt,by rw [v.1,hcl]⟩
      have hlens:∀ o∈outs,o.length=P.cellsOf e:=by
       intro o ho;obtain ⟨i,hi'⟩:=List.getElem?_of_mem ho;have hic:i<cap:=by
        rcases Nat.lt_or_ge i cap with h|h
        ·exact h
        ·rw [List.getElem?_eq_none (by omega)] at hi'; cases hi'
       obtain ⟨o',ci,h1,_,_,_,_,h2⟩:=hget i hic;rw [hi'] at h1; cases h1; exact h2
      have hfl:=yo hlens;have hcell:∀ j,j<cap * P.cellsOf e->∃ v V,outs.flatten[j]? = some v/\W.cell? (a.add j)=some V/\VR φ1 v V:=by
       intro j hj;have hpos:0<P.cellsOf e:=by omega
       have hq:j / P.cellsOf e<cap:=Nat.div_lt_of_lt_mul (by rw [Nat.mul_comm]; exact hj);have hrm:j % P.cellsOf e<P.cellsOf e:=Nat.mod_lt _ hpos;have hj':j / P.cellsOf e * P.cellsOf e+j % P.cellsOf e=j:=by rw [Nat.mul_comm]; exact Nat.div_add_mod j (P.cellsOf e)
       obtain ⟨o,ci,h1,h2,h3,h4,h5,h6⟩:=hget _ hq;obtain ⟨g1,g2,g3⟩:=World.cells?_some h3;have hpiece:=kK hlens _ o h1;have hov:o[j % P.cellsOf e]? = some (o[j % P.cellsOf e]'(by omega)):=List.getElem?_eq_getElem (by omega);obtain ⟨V,hV,r⟩:=h4.get hov;refine ⟨_,V,?_,?_,r⟩
       ·have:outs.flatten[j]? = o[j % P.cellsOf e]?:=by
         rw [<- hpiece,List.getElem?_take_of_lt hrm,List.getElem?_drop,hj']
        rw [this]; exact hov
       ·have:=g3 _ hrm;rw [hV] at this;rw [<- this];congr 1;unfold Addr.add;by_cases z1:j / P.cellsOf e * P.cellsOf e=0
        ·rw [if_pos z1];have:j % P.cellsOf e=j:=by omega
         rw [this]
        ·rw [if_neg z1,if_neg (by omega)];by_cases z2:j % P.cellsOf e=0
         ·rw [if_pos z2]; simp only [Addr.mk.injEq,and_true,true_and]; omega
         ·rw [if_neg z2]; simp only [Addr.mk.injEq,and_true,true_and]; omega
      have hpos0:0<cap * P.cellsOf e:=Nat.mul_pos (by omega) (by omega);obtain ⟨v0,V0,_,hV0,_⟩:=hcell 0 hpos0;have ha0:a.add 0=a:=by simp [Addr.add]
      rw [ha0] at hV0;have hheap:∃ C e' fz,W.heap[a.block]? = some (.cells C e' fz)/\a.spot=none:=by
       unfold World.cell? at hV0;cases hh:W.heap[a.block]? with
       | none=>rw [hh] at hV0; cases hV0
       | some o =>
        rw [hh] at hV0;cases o<;>simp only at hV0<;>try (cases hV0; done)
        rename_i C e' fz;refine ⟨C,e',fz,rfl,?_⟩;cases hsp:a.spot with
        | none=>rfl
        | some _=>rw [hsp] at hV0; simp at hV0
      obtain ⟨C,e',fz,hh,hspot⟩:=hheap;have haddr:a=⟨a.block,a.off,none⟩:=by cases a; simp at hspot; simp [hspot]
      have hok1:kq φ1 W ⟨.cells outs.flatten e,true,none⟩ ⟨a.block,a.off,none,0⟩:=by
       refine ⟨⟨rfl,λh=>(by cases h)⟩,C,e',fz,hh,λi v hv=>?_,(λh=>by cases h),(λh=>by cases h),(λs h=>by cases h),(λh=>by cases h)⟩
       have hil2:i<cap * P.cellsOf e:=by
        rcases Nat.lt_or_ge i (cap * P.cellsOf e) with h|h
        ·exact h
        ·rw [List.getElem?_eq_none (by rw [hfl,hol]; exact h)] at hv; cases hv
       obtain ⟨v',V,h1,h2,r⟩:=hcell i hil2;rw [hv] at h1; cases h1
       refine ⟨V,?_,r⟩;rw [haddr,jq,kM hh] at h2;exact h2
      have hblk:a.block<W.heap.size:=by
       rcases Nat.lt_or_ge a.block W.heap.size with h|h
       ·exact h
       ·rw [Array.getElem?_eq_none h] at hh; cases hh
      obtain ⟨i2,r2,l2,s2⟩:=i1.qlf r1 ⟨.cells outs.flatten e,true,none⟩ ⟨a.block,a.off,none,0⟩ rfl hblk hok1;refine ⟨_,_,[.slice (some ⟨m1.next,0,none⟩) len cap],i2,r2,Ren.le_trans l1 l2,Mem.Zz s1 s2,?_,?_⟩
      ·refine VRs.cons ?_ (VRs.nil _);rw [haddr];exact VR.sliceEx m1.next 0 len cap ⟨a.block,a.off,none,0⟩ (Ren.zB ..) rfl
      ·unfold WTB;rw [hd];refine .inr (.inr ⟨m1.next,len,cap,outs.flatten,e,rfl,by simp,hl,⟨hm,hmB⟩,by rw [Mem.zw,if_pos rfl],by rw [hfl,hol],λi hi'=>?_⟩);obtain ⟨o,ci,h1,h2,h3,h4,h5,h6⟩:=hget i hi';rw [kK hlens i o h1];exact h5.mono s2
   case array k e =>
    simp only [baI,beq_iff_eq] at hok;obtain ⟨hsz,hoe⟩:=hok;obtain ⟨xs,j,rfl,rfl,hcl,hxl,hx⟩:=DataW.trod_array hd htr;rw [hsz] at hcl
    let items:List (TypeId × List Value):=(List.range k).map λi=>(e,(cs.drop (i * P.cellsOf e)).take (P.cellsOf e))
    have hit:∀ (i:Nat),i<k->items[i]? = some (e,(cs.drop (i * P.cellsOf e)).take (P.cellsOf e)):=by
     intro i hi'; simp [items,hi']
    have hil:items.length=k:=by simp [items]
    have hpl:∀ i,i<k->((cs.drop (i * P.cellsOf e)).take (P.cellsOf e)).length=P.cellsOf e:=by
     intro i hi';have:(i+1) * P.cellsOf e<=k * P.cellsOf e:=Nat.mul_le_mul_right _ hi';rw [Nat.add_mul] at this;simp only [ltI,ldI,hcl]; omega
    obtain ⟨φ1,m1,outs,i1,r1,l1,s1,e1,a1⟩:=QV items (λit hm=>by
     obtain ⟨i,hi'⟩:=List.getElem?_of_mem hm;have hik:i<k:=by
      rcases Nat.lt_or_ge i k with h|h
      ·exact h
      ·rw [List.getElem?_eq_none (by omega)] at hi'; cases hi'
     rw [hit i hik] at hi'; cases hi'
     have h1:=hx i hik;rw [List.getElem?_eq_getElem (by omega)] at h1;exact ih j e _ _ hoe h1 (λz hz=>hwt z (by
      simp only [DataW.weights,hd];exact jH (List.mem_map_of_mem (List.getElem_mem _)) z hz))) φ m hi hr
    have hol:outs.length=k:=by rw [e1,hil]
    have hget:∀ (i:Nat),i<k->∃ (o:List Value),outs[i]? = some o/\VRs φ1 o ((cs.drop (i * P.cellsOf e)).take (P.cellsOf e))/\WTB P B m1 n e o:=by
     intro i hi';have ho:outs[i]? = some (outs[i]'(by omega)):=List.getElem?_eq_getElem (by omega);obtain ⟨v,wt⟩:=a1 i _ _ (hit i hi') ho;exact ⟨_,ho,v,wt⟩
    have hlens:∀ o∈outs,o.length=P.cellsOf e:=by
     intro o ho;obtain ⟨i,hi'⟩:=List.getElem?_of_mem ho;have hic:i<k:=by
      rcases Nat.lt_or_ge i k with h|h
      ·exact h
      ·rw [List.getElem?_eq_none (by omega)] at hi'; cases hi'
     obtain ⟨o',h1,h2,_⟩:=hget i hic;rw [hi'] at h1; cases h1
     rw [h2.1,hpl i hic]
    have hcut:((List.range k).map λi=>(cs.drop (i * P.cellsOf e)).take (P.cellsOf e)).flatten=cs:=by
     have key:∀ (k:Nat) (cs:List Value),cs.length=k * P.cellsOf e->((List.range k).map λi=>(cs.drop (i * P.cellsOf e)).take (P.cellsOf e)).flatten=cs:=by
      intro k
      induction k with
      | zero=>intro cs h; simp at h; simp [h]
      | succ k ihk =>
       intro cs h;rw [List.range_succ_eq_map,List.map_cons,List.flatten_cons,List.map_map];have h2:=ihk (cs.drop (P.cellsOf e)) (by rw [ldI,h,Nat.add_mul]; omega);have h3:((λi=>(cs.drop (i * P.cellsOf e)).take (P.cellsOf e)) ∘ Nat.succ)=λi=>((cs.drop (P.cellsOf e)).drop (i * P.cellsOf e)).take (P.cellsOf e):=by
        funext i;simp only [Function.comp,List.drop_drop];congr 2;rw [Nat.succ_mul]; omega
       rw [h3,h2];simp
     exact key k cs hcl
    refine ⟨φ1,m1,outs.flatten,i1,r1,l1,s1,?_,?_⟩
    ·have:=VRs.flatten (φ:=φ1) (xs:=outs) (ys:=(List.range k).map λi=>(cs.drop (i * P.cellsOf e)).take (P.cellsOf e)) (by simp [hol]) (λi x y hx' hy=>by
      have hic:i<k:=by
       rcases Nat.lt_or_ge i k with h|h
       ·exact h
       ·rw [List.getElem?_eq_none (by omega)] at hx'; cases hx'
      obtain ⟨o',h1,h2,_⟩:=hget i hic;rw [hx'] at h1; cases h1
      simp only [List.getElem?_map,List.getElem?_range hic,Option.map_some,sjI] at hy;subst hy; exact h2)
     rw [hcut] at this; exact this
    ·unfold WTB;rw [hd];refine ⟨by rw [yo hlens,hol],λi hi'=>?_⟩;obtain ⟨o,h1,h2,h3⟩:=hget i hi';rw [kK hlens i o h1]; exact h3
   case struct fs =>
    simp only [baI,List.all_eq_true] at hok;obtain ⟨htile,hof⟩:=hok;obtain ⟨xs,j,rfl,rfl,hcl,hxl,hx⟩:=DataW.trod_struct hd htr;have hbd:=(Jd (P:=P) fs.toList 0 _ htile).2
    let items:List (TypeId × List Value):=fs.toList.map λf=>(f.type,(cs.drop f.offset).take (P.cellsOf f.type))
    have hit:∀ (i:Nat) f,fs.toList[i]? = some f->items[i]? = some (f.type,(cs.drop f.offset).take (P.cellsOf f.type)):=by
     intro i f hf;simp only [items,List.getElem?_map,hf,Option.map_some]
    have hil:items.length=fs.toList.length:=by simp [items]
    have hpl:∀ f∈fs.toList,((cs.drop f.offset).take (P.cellsOf f.type)).length=P.cellsOf f.type:=by
     intro f hf;have:=(hbd f hf).2;simp only [ltI,ldI,hcl]; omega
    obtain ⟨φ1,m1,outs,i1,r1,l1,s1,e1,a1⟩:=QV items (λit hm=>by
     obtain ⟨i,hi'⟩:=List.getElem?_of_mem hm;have hik:i<fs.toList.length:=by
      rcases Nat.lt_or_ge i fs.toList.length with h|h
      ·exact h
      ·rw [List.getElem?_eq_none (by omega)] at hi'; cases hi'
     have hf:fs.toList[i]? = some (fs.toList[i]):=List.getElem?_eq_getElem hik;rw [hit i _ hf] at hi'; cases hi'
     have h1:=hx i fs.toList[i] (by simp);rw [List.getElem?_eq_getElem (by rw [hxl]; simpa using hik)] at h1;exact ih j _ _ _ (hof _ (List.getElem_mem hik)) h1 (λz hz=>hwt z (by
      simp only [DataW.weights,hd];exact DataW.weights_mem_each (j:=i) (by rw [List.getElem?_map,hf]; rfl) (by rw [List.getElem?_map,List.getElem?_eq_getElem (by rw [hxl]; simpa using hik)]; rfl) z hz))) φ m hi hr
    have hol:outs.length=fs.toList.length:=by rw [e1,hil]
    have hget:∀ (i:Nat) f,fs.toList[i]? = some f->∃ (o:List Value),outs[i]? = some o/\VRs φ1 o ((cs.drop f.offset).take (P.cellsOf f.type))/\WTB P B m1 n f.type o/\o.length=P.cellsOf f.type:=by
     intro i f hf;have hik:i<fs.toList.length:=by
      rcases Nat.lt_or_ge i fs.toList.length with h|h
      ·exact h
      ·rw [List.getElem?_eq_none h] at hf; cases hf
     have ho:outs[i]? = some (outs[i]'(by omega)):=List.getElem?_eq_getElem (by omega);obtain ⟨v,wt⟩:=a1 i _ _ (hit i f hf) ho;exact ⟨_,ho,v,wt,by rw [v.1]; exact hpl f (List.mem_of_getElem? hf)⟩
    have hlens:∀ (i:Nat) f o,fs.toList[i]? = some f->outs[i]? = some o->o.length=P.cellsOf f.type:=by
     intro i f o hf ho;obtain ⟨o',h1,_,_,h2⟩:=hget i f hf;rw [ho] at h1; cases h1; exact h2
    have hcut:=vh (P:=P) fs.toList 0 _ cs htile hcl;rw [List.drop_zero] at hcut;refine ⟨φ1,m1,outs.flatten,i1,r1,l1,s1,?_,?_⟩
    ·have:=VRs.flatten (φ:=φ1) (xs:=outs) (ys:=fs.toList.map λf=>(cs.drop f.offset).take (P.cellsOf f.type)) (by simp [hol]) (λi x y hx' hy=>by
      simp only [List.getElem?_map,msI] at hy;obtain ⟨f,hf,rfl⟩:=hy;obtain ⟨o',h1,h2,_⟩:=hget i f hf;rw [hx'] at h1; cases h1
      exact h2)
     rw [hcut] at this; exact this
    ·unfold WTB;rw [hd];have htot:=Jb (P:=P) fs.toList outs 0 _ htile hol hlens;refine ⟨by omega,λf hf=>?_⟩;obtain ⟨i,hi'⟩:=List.getElem?_of_mem hf;obtain ⟨o,h1,_,h3,_⟩:=hget i f hi';have:=Jc (P:=P) fs.toList outs 0 _ [] htile hol hlens rfl i f o hi' h1;rw [List.nil_append] at this;rw [this]; exact h3
theorem qeh {n:Nat} {t:TypeId} {v:Value} (h:qkw P B W n t v.cells.toList):∀ φ m,Inv φ m W->AllRo m ->
  ∃ φ' m' a,Inv φ' m' W/\AllRo m'/\Ren.le φ φ'/\m.sub m'/\VR φ' a v/\WTB P B m' n t a.cells.toList:=by
 intro φ m hi hr;obtain ⟨φ',m',acs,h1,h2,h3,h4,h5,h6⟩:=h φ m hi hr;have one:v.cells=#[v]->(∀ ys,v≠.agg ys)->∃ φ' m' a,Inv φ' m' W/\AllRo m'/\Ren.le φ φ'/\m.sub m'/\VR φ' a v/\WTB P B m' n t a.cells.toList:=by
  intro hv hna;rw [hv] at h5;cases acs with
  | nil=>have:=h5.1; simp at this
  | cons a r =>
   have:r=[]:=by have:=h5.1; simpa using this
   subst this;have hav:VR φ' a v:=h5.2 0 a v rfl (by simp);refine ⟨φ',m',a,h1,h2,h3,h4,hav,?_⟩;have:a.cells=#[a]:=by
    cases hav<;>first
     | rfl
     | exact absurd rfl (hna _)
   rw [this]; exact h6
 cases v with
 | agg xs =>
  refine ⟨φ',m',.agg acs.toArray,h1,h2,h3,h4,?_,by simpa [Value.cells] using h6⟩;have:=h5.agg;simpa [Value.cells] using this
 | _=>exact one rfl (by intro ys h; cases h)
theorem HX {n:Nat}:∀ {ts:List TypeId} {vs:List Value} {ds:List (DataW H)} {ps:List MemPlace},DataW.TrodAll enc P W 0 (λ_=>true) true ts vs ds ps->(∀ (j:Nat) t d,ts[j]? = some t->ds[j]? = some d->∀ z∈d.weights P t,z<=B)->(∀ t∈ts,okT P n t=true)->∀ φ m,Inv φ m W->AllRo m ->
  ∃ (φ':Ren) (m':Mem) (args:List Value),Inv φ' m' W/\AllRo m'/\Ren.le φ φ'/\m.sub m'/\VRs φ' args vs/\args.length=ts.length/\∀ (i:Nat) t (a:Value),ts[i]? = some t->args[i]? = some a->WTB P B m' n t a.cells.toList
 | [],[],[],_,_,_,_,φ,m,hi,hr=>⟨φ,m,[],hi,hr,Ren.le_refl φ,m.vV,VRs.nil φ,rfl,λi t a h=>by simp at h⟩
 | t::ts,v::vs,d::ds,ps,h,hw,hok,φ,m,hi,hr=>by
  obtain ⟨p,q,⟨fuel,h1⟩,h2,_⟩:=h;obtain ⟨φ1,m1,a,i1,r1,l1,s1,v1,w1⟩:=qeh (qeB (P:=P) (W:=W) n fuel t v.cells.toList _ (hok t (List.mem_cons_self ..)) h1 (hw 0 t d rfl rfl)) φ m hi hr;obtain ⟨φ2,m2,args,i2,r2,l2,s2,v2,e2,w2⟩:=HX h2 (λj t d ht hd=>hw (j+1) t d (by simpa using ht) (by simpa using hd)) (λx hx=>hok x (List.mem_cons_of_mem _ hx)) φ1 m1 i1 r1;refine ⟨φ2,m2,a::args,i2,r2,Ren.le_trans l1 l2,Mem.Zz s1 s2,VRs.cons (v1.mono l2) v2,by simp [e2],λi u b hu hb=>?_⟩;cases i with
  | zero=>simp at hu hb; subst hu; subst hb; exact w1.mono s2
  | succ i=>exact w2 i u b (by simpa using hu) (by simpa using hb)
 | [],_::_,_,_,h,_,_,_,_,_,_=>by simp [DataW.TrodAll] at h
 | [],[],_::_,_,h,_,_,_,_,_,_=>by simp [DataW.TrodAll] at h
 | _::_,[],_,_,h,_,_,_,_,_,_=>by simp [DataW.TrodAll] at h
 | _::_,_::_,[],_,h,_,_,_,_,_,_=>by simp [DataW.TrodAll] at h
theorem Inv.empty (W:World):Inv (λ_=>none) ⟨0,.leaf⟩ W :=
 ⟨λb x h=>by simp [Mem.get,Trie.get] at h,λb c x y l k h=>by simp [Mem.get,Trie.get] at h,λb l h=>by cases h⟩
theorem HZ:AllRo ⟨0,.leaf⟩:=λb x h=>by simp [Mem.get,Trie.get] at h
theorem Frm.below {φ φ':Ren} {m m':Mem} {w w':World} (h:Frm φ m w φ' m' w') (hr:AllRo m):Go.RowKit.Below w.heap.size w w' :=
 ⟨h.os,h.tape,h.output,h.size,λk hk=>h.same k hk (λb x l hb _ hx=>by rw [hr b x hb] at hx; cases hx)⟩
end
end Go.Fx
