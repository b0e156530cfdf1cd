/- Parts of a proof: FxFlo. Conditions: none. -/
import Derived.Test.YtbhdhhgpfanmcaaGreatDoorQw6
set_option linter.unusedSimpArgs false
set_option linter.unusedVariables false
namespace Go.Fx
open Go
def yK:Op->Bool
 | .alloc _|.box _ _|.buildSlice _ _ _=>true
 | _=>false
theorem qdw {P:Program} {o:Oper} {ao:AOp} (hr:res P o=some ao) (hnew:yK o.op=true) {φ:Ren} {ts:List Value} {a:Act} (ht:VRs φ ts a.tmps.toList) {x:ABlk} {k:Option Nat} (h:jN ts ao=some (x,k)) (w:World) :
  ∃ obj,(execOp a.eval o).run P w=.ok (.value (ke w.heap.size k)) { w with heap:=w.heap.push obj }/\x.ro=false /\
   ∀ ψ (w2:World),Ren.le φ ψ->w2.heap[w.heap.size]? = some obj->kq ψ w2 x ⟨w.heap.size,0,none,0⟩:=by
 have blk:∀ {c C:List Value} {e:TypeId},VRs φ c C->∀ ψ (w2:World),Ren.le φ ψ->w2.heap[w.heap.size]? = some (.cells C.toArray e)->kq ψ w2 ⟨.cells c e,false,none⟩ ⟨w.heap.size,0,none,0⟩:=by
  intro c C e hc ψ w2 hle hw;refine ⟨⟨rfl,λ_ _=>rfl⟩,C.toArray,e,(0,0),hw,λi v hv=>?_,λ_ i _ h=>by simp at h,λ_ _=>rfl,λs hs=>(by cases hs),λ_=>rfl⟩
  obtain ⟨V,hV,r⟩:=hc.get hv;exact ⟨V,by simpa using hV,r.mono hle⟩
 obtain ⟨dst,op,ty,pos,af,g⟩:=o;cases op<;>simp only [yK,Bool.false_eq_true] at hnew
 case alloc e' =>
  replace hr:=(xo hr).1;simp only [ZK,msI] at hr;obtain ⟨z',hz,rfl⟩:=hr;simp only [jN,sjI,pjI] at h;obtain ⟨rfl,rfl⟩:=h;obtain ⟨i,hti,hzi,hp⟩:=xK hz;refine ⟨.cells z'.cells.toList.toArray e',?_,rfl,blk (VR.QM hp).cells⟩;simp [execOp,Instr.alloc,zV hti hzi,newVar,ke];rfl
 case box e' y =>
  replace hr:=(xo hr).1;simp only [ZK,sjI] at hr;subst hr;simp only [jN,msI,pjI] at h;obtain ⟨v,hv,rfl,rfl⟩:=h;refine ⟨.cells (a.eval y).cells.toList.toArray e',?_,rfl,blk (qw ht hv).cells⟩;simp [execOp,Instr.box,newVar,ke];rfl
 case buildSlice t len ps =>
  replace hr:=(xo hr).1;simp only [ZK,bsI] at hr;obtain ⟨e,he,s,hs,z,hz,hr⟩:=hr;obtain ⟨i,hti,rfl⟩:=zx hs;obtain ⟨i',hti',hzi,hp⟩:=xK hz;rw [hti] at hti'; cases hti'
  split at hr
  ·rename_i hh;obtain ⟨hlen,hsz,hrep⟩:=hh;simp only [msI] at hr;obtain ⟨l,hl,rfl⟩:=hr;simp only [jN,bsI,msI,pjI] at h;obtain ⟨r,hr,c,hc,rfl,rfl⟩:=h;have hP:=wx ht hl hr;have hrep':=replicate_flatten_eq z.cells i.size len hsz;have hplain:(List.replicate len z.cells.toList).flatten.all plain=true:=by
    rw [List.all_eq_true];intro v hv;simp only [List.mem_flatten,List.mem_replicate] at hv;obtain ⟨l,⟨_,rfl⟩,hv⟩:=hv;exact List.all_eq_true.1 hp v hv
   obtain ⟨R,hR,hrr⟩:=Zq r (ps.map λ(i,x)=>(i,a.eval x)).toList _ ((Array.range (len * i.size)).map (z.cells[· % z.cells.size]!)) c (by simpa using hP) (by rw [hrep']; exact VRs.plain hplain) hc;refine ⟨.cells R.toList.toArray e,?_,rfl,blk hrr⟩;have hn:¬ (len * i.size > 2 ^ 24):=by omega
   simp only [execOp,Instr.buildSlice,Sem.run_bind,qy (xP he),Result.andThen_ok,ze hti,Sem.run_ite,if_neg hn,Sem.run_pure];by_cases h0:len * i.size=0
   ·rw [if_pos h0];have e0:(Array.range (len * i.size)).map ((#[]:Array Value)[· % (#[]:Array Value).size]!)=(Array.range (len * i.size)).map (z.cells[· % z.cells.size]!):=by rw [h0]; simp
    rw [e0,hR];simp [newRow,ke]
   ·rw [if_neg h0];simp only [Sem.run_bind,zV hti hzi,Result.andThen_ok,Sem.run_pure];rw [hR];simp [newRow,ke]
  ·cases hr
theorem yQ:∀ (al:List AOper) (i:Nat) (o:AOper),al[i]? = some o->zp al (i+1)=zp al i+(if qN o then 1 else 0)
 | [],i,o,h=>by simp at h
 | p::r,0,o,h=>by simp at h; subst h; cases r<;>simp [zp]
 | p::r,i+1,o,h=>by
  have:=yQ r i o (by simpa using h);simp only [zp] at this ⊢;omega
theorem yS (al : List AOper) {i j : Nat} (hij : i ≤ j) (hj : j ≤ al.length) : zp al i ≤ zp al j := by
  induction j with
  | zero => obtain rfl : i = 0 := by omega
            exact Nat.le_refl _
  | succ j ih =>
    rcases Nat.lt_or_ge i (j + 1) with h | h
    · have := yQ al j al[j] (List.getElem?_eq_getElem (by omega));have := ih (by omega) (by omega);omega
    · obtain rfl : i = j + 1 := by omega
      exact Nat.le_refl _
theorem kL {al:List AOper} {i j:Nat} {o:AOper} (ho:al[i]? = some o) (he:qN o=true) (hij:i<j) (hj:j<=al.length):zp al i<zp al j:=by
 have h1:=yQ al i o ho;have h2:=yS al (i:=i+1) (j:=j) hij hj;rw [he,if_pos rfl] at h1;omega
theorem jb {α:Type} {l:List α} {i:Nat} {a:α} (h:l[i]? = some a):i<l.length:=by
 rcases Nat.lt_or_ge i l.length with h'|h'
 ·exact h'
 ·rw [List.getElem?_eq_none h'] at h; cases h
theorem HJ {al:List AOper} {i j:Nat} {o p:AOper} (ho:al[i]? = some o) (he:qN o=true) (hp:al[j]? = some p) (hpe:qN p=true) (h:zp al i=zp al j):i=j:=by
 rcases Nat.lt_trichotomy i j with hlt|he'|hgt
 ·have:=kL ho he hlt (Nat.le_of_lt (jb hp)); omega
 ·exact he'
 ·have:=kL hp hpe hgt (Nat.le_of_lt (jb ho)); omega
theorem WQ (al:List AOper):∀ (n K:Nat),n<=al.length->K<zp al n->∃ i o,i<n/\al[i]? = some o/\qN o=true/\zp al i=K
 | 0,K,_,h=>by cases al<;>simp [zp] at h
 | n+1,K,hn,h=>by
  have hg:al[n]? = some al[n]:=List.getElem?_eq_getElem (by omega);have h1:=yQ al n al[n] hg;rcases Nat.lt_or_ge K (zp al n) with h2|h2
  ·obtain ⟨i,o,a,b,c,d⟩:=WQ al n K (by omega) h2;exact ⟨i,o,by omega,b,c,d⟩
  ·by_cases he:qN al[n]=true
   ·rw [he,if_pos rfl] at h1;exact ⟨n,al[n],by omega,hg,he,by omega⟩
   ·rw [if_neg he] at h1; omega
def qiX (al:List AOper) (E:Nat->List Nat) (i:Nat):Prop :=
 ∃ (j t:Nat) (o p:AOper) (b:Nat) (e:TypeId) (n:Nat) (z:List Value) (ps:List (Nat × Nat × Operand)),al[i]? = some o/\o.op=.b2s (.tmp t)/\o.guard=none/\al[j]? = some p/\p.op=.floAt b (.buildSlice e n z ps)/\p.guard=none/\p.dst=some t /\
  Anc E i j/\∀ (a:Nat) r,al[a]? = some r->qN r=true->Anc E i a->a<=j
structure RgF (P:Program) (call:zj) (ops:Array Oper) (al:List AOper) (E:Nat->List Nat) (lo hi:Nat->Nat) (ms:List Mem) (ts0:List Value) (T:Nat->List Value) (V:Nat->Value) (base:Nat):Prop where
 len:al.length=ops.size
 op:∀ (i:Nat) o,ops[i]? = some o->∃ p,al[i]? = some p/\p.dst=o.dst/\((yZ P o=p.op/\∀ b ao,p.op≠.floAt b ao)∨∃ b,p.op=.floAt b (yZ P o)/\yK o.op=true) /\
  (match o.guard with|none=>p.guard=none|some (j,want)=>∃ t,(ops[j]?).bind (·.dst)=some t/\p.guard=some (t,want))
 edges:∀ (i:Nat) o,ops[i]? = some o->E i=zR o
 lt:∀ i e,e∈E i->e<i
 slot:∀ (i j:Nat) (o p:AOper) t,i≠j->al[i]? = some o->al[j]? = some p->p.dst=some t->(t∈o.looks->Anc E i j∨Anc E j i)/\o.dst≠some t
 chain:∀ (i j:Nat) (o p:AOper),i<j->al[i]? = some o->al[j]? = some p->qN o=true->qN p=true->Anc E j i∨∃ b ao,p.op=.floAt b ao
 anc:∀ (i a q:Nat) (o p r:AOper),al[i]? = some o->o.op.cls=.read->al[a]? = some p->qN p=true->al[q]? = some r->qN r=true->Anc E i a->q<a->Anc E i q∨qiX al E i
 lo_le:∀ i K,(∀ (a:Nat) p,al[a]? = some p->qN p=true->Anc E i a->zp al a<K)->lo i<=K
 le_hi:∀ i K,i<al.length->K<=zp al al.length->(∀ (a:Nat) p,al[a]? = some p->qN p=true->zp al a<K->¬ Anc E a i)->K<=hi i
 one:∀ (i j:Nat) (o p:AOper) b b' ao ao',i≠j->al[i]? = some o->al[j]? = some p->o.op=.floAt b ao->p.op=.floAt b' ao'->b≠b'
 kept:∀ (i:Nat) (o:AOper) b ao,al[i]? = some o->o.op=.floAt b ao->base<=b
 zero:T 0=ts0
 next:∀ (i:Nat) o,al[i]? = some o->T (i+1)=ja (T i) o.dst (V i)
 eff:∀ (i:Nat) o,al[i]? = some o->zh (T i) o.guard=true->o.op.cls=.eff->∃ M M',ms[zp al i]? = some M/\ms[zp al i+1]? = some M'/\zA call (T i) M o.op=some (V i,M')
 read:∀ (i:Nat) o,al[i]? = some o->zh (T i) o.guard=true->o.op.cls=.read->∃ q,o.op.req (T i)=some q/\∀ k,lo i<=k->k<=hi i->∃ M,ms[k]? = some M/\q.run M=some (V i)
 pure:∀ (i:Nat) o,al[i]? = some o->zh (T i) o.guard=true->o.op.cls=.pure->∀ M,o.op.run (T i) M=some (V i,M)
 idle:∀ (i:Nat) o,al[i]? = some o->zh (T i) o.guard=false->V i=undef/\(o.op.cls=.eff->∃ M,ms[zp al i]? = some M/\ms[zp al i+1]? = some M)
def Flt (φ:Ren) (M:Mem) (w w0:World) (b:Nat) (x:ABlk):Prop :=
 ∃ l,φ b=some l/\w0.heap.size<=l.blk/\kq φ w x l/\M.get b=none/\(∀ c y k,M.get c=some y->φ c=some k->k.blk≠l.blk)
theorem Flt.step {φ φ':Ren} {M M':Mem} {w w' w0:World} {b:Nat} {x:ABlk} (h:Flt φ M w w0 b x) (hi:Inv φ M w) (hf:Frm φ M w φ' M' w') (hb:b<M.next):Flt φ' M' w' w0 b x:=by
 obtain ⟨l,h1,h2,h3,h4,h5⟩:=h;have hlt:=hi.jm h1;refine ⟨l,by rw [hf.old b hb]; exact h1,h2,(h3.congr (hf.same l.blk hlt λc y k hc hk _=>h5 c y k hc hk)).mono hf.ren,hf.dead b hb h4,λc y k hc hk=>?_⟩;rcases hf.all c y k hc hk with hge|⟨d,z,j,hd,hj,e⟩
 ·omega
 ·rw [<- e]; exact h5 d z j hd hj
theorem Inv.extend {φ:Ren} {M:Mem} {w:World} (h:Inv φ M w) {b:Nat} {l:Loc} (hb:b<M.next) (hn:φ b=none) (hg:M.get b=none) (hl:l.blk<w.heap.size):Inv (φ.set b l) M w:=by
 have hle:=Ren.wM (l:=l) hn;have ho:∀ c y,M.get c=some y->φ.set b l c=φ c:=λc y hc=>Ren.zk _ _ (by rintro rfl; rw [hg] at hc; cases hc)
 refine ⟨λc y hc=>?_,λc d y z k j hc hd hk hj=>?_,λc k hk=>?_⟩
 ·obtain ⟨k,hk,ok⟩:=h.live c y hc;exact ⟨k,hle _ _ hk,ok.mono hle⟩
 ·rw [ho c y hc] at hk;rw [ho d z hd] at hj;exact h.apart c d y z k j hc hd hk hj
 ·by_cases e:c=b
  ·rw [e,Ren.zB] at hk; cases hk
   exact ⟨by omega,hl⟩
  ·rw [Ren.zk _ _ e] at hk;exact h.below c k hk
section
variable {P:Program} {call:zj} {ops:Array Oper} {al:List AOper} {E:Nat->List Nat} {lo hi:Nat->Nat} {ms:List Mem} {ts0:List Value} {T:Nat->List Value} {V:Nat->Value} {base:Nat}
theorem RgF.kF (R:RgF P call ops al E lo hi ms ts0 T V base) {i j d:Nat} (hi:xz al i=some d) (hj:xz al j=some d):i=j:=by
 rcases Nat.decEq i j with h|h
 ·simp only [xz,bsI] at hi hj;obtain ⟨o,ho,hod⟩:=hi;obtain ⟨p,hp,hpd⟩:=hj;exact absurd hod (R.slot i j o p d h ho hp hpd).2
 ·exact h
theorem RgF.fr (R:RgF P call ops al E lo hi ms ts0 T V base):∀ i,i<=al.length->Fr al V ts0 (λj=>decide (j<i)) (T i):=by
 intro i
 induction i with
 | zero =>
  intro _;rw [R.zero];exact ⟨rfl,λi d h=>by simp at h,λ_ _=>rfl⟩
 | succ i ih =>
  intro hi';obtain ⟨h1,h2,h3⟩:=ih (by omega);have ho:al[i]? = some (al[i]'(by omega)):=List.getElem?_eq_getElem (by omega);generalize al[i]'(by omega)=o at ho;rw [R.next i o ho];refine ⟨by rw [jk,h1],λj d hj hd hlt=>?_,λd hd=>?_⟩
  ·rw [jE,h1];simp only [decide_eq_true_eq] at hj;by_cases hji:j=i
   ·subst hji;have:o.dst=some d:=by simpa [xz,ho] using hd
    rw [if_pos ⟨this,hlt⟩]
   ·rw [if_neg (λhh=>hji (R.kF hd (by simpa [xz,ho] using hh.1)))];exact h2 j d (by simp; omega) hd hlt
  ·rw [jE];have:o.dst≠some d:=by
    have:=hd i (by simp);simpa [xz,ho] using this
   rw [if_neg (λhh=>this hh.1)];exact h3 d (λj hj=>hd j (by simp at hj ⊢; omega))
theorem RgF.put (R:RgF P call ops al E lo hi ms ts0 T V base) {L:Nat->Bool} {ts:List Value} (h:Fr al V ts0 L ts) {i:Nat} {o:AOper} (ho:al[i]? = some o) {L':Nat->Bool} (hL:∀ j,L' j=true↔j=i∨L j=true):Fr al V ts0 L' (ja ts o.dst (V i)):=by
 obtain ⟨h1,h2,h3⟩:=h;refine ⟨by rw [jk,h1],λj d hj hd hlt=>?_,λd hd=>?_⟩
 ·rw [jE,h1];by_cases hji:j=i
  ·subst hji;have:o.dst=some d:=by simpa [xz,ho] using hd
   rw [if_pos ⟨this,hlt⟩]
  ·rw [if_neg (λhh=>hji (R.kF hd (by simpa [xz,ho] using hh.1)))];exact h2 j d (((hL j).1 hj).resolve_left hji) hd hlt
 ·rw [jE];have:o.dst≠some d:=by
   have:=hd i ((hL i).2 (.inl rfl));simpa [xz,ho] using this
  rw [if_neg (λhh=>this hh.1)];exact h3 d (λj hj=>hd j ((hL j).2 (.inr hj)))
theorem RgF.agree (R:RgF P call ops al E lo hi ms ts0 T V base) {L:Nat->Bool} {ts:List Value} (h:Fr al V ts0 L ts) (hL:∀ x,L x=true->∀ e∈E x,L e=true) {i:Nat} {o:AOper} (ho:al[i]? = some o) (hi':L i=false) (hr:∀ e∈E i,L e=true):jW o.looks ts (T i):=by
 intro t ht;have hlen:i<al.length:=jb ho;obtain ⟨g1,g2,g3⟩:=R.fr i (by omega);obtain ⟨f1,f2,f3⟩:=h;by_cases hlt:t<ts0.length
 ·by_cases hex:∃ j,xz al j=some t
  ·obtain ⟨j,hj⟩:=hex;by_cases hji:j=i
   ·subst hji;rw [f3 t (λk hk hkd=>by rw [R.kF hkd hj] at hk; rw [hk] at hi'; cases hi'),g3 t (λk hk hkd=>by rw [R.kF hkd hj] at hk; simp at hk)]
   ·have hj':=hj;simp only [xz,bsI] at hj;obtain ⟨p,hp,hpd⟩:=hj;rcases (R.slot i j o p t (Ne.symm hji) ho hp hpd).1 ht with ha|ha
    ·have hLj:L j=true:=ha.qo (L:=λx=>L x=true) hL hr;have hlt':=ha.lt R.lt;rw [f2 j t hLj hj' hlt,g2 j t (by simpa using hlt') hj' hlt]
    ·have hLj:L j=false:=by
      cases hh:L j with
      | false=>rfl
      | true =>
       have:=ha.qo (L:=λx=>L x=true) hL (hL j hh);rw [hi'] at this; cases this
     have hlt':=ha.lt R.lt;rw [f3 t (λk hk hkd=>by rw [R.kF hkd hj'] at hk; rw [hk] at hLj; cases hLj),g3 t (λk hk hkd=>by rw [R.kF hkd hj'] at hk; simp at hk; omega)]
  ·have hn:∀ k,xz al k≠some t:=λk hk=>hex ⟨k,hk⟩
   rw [f3 t (λk _=>hn k),g3 t (λk _=>hn k)]
 ·rw [List.getElem?_eq_none (by omega),List.getElem?_eq_none (by omega)]
structure StF (al:List AOper) (T:Nat->List Value) (ms:List Mem) (φ0:Ren) (m0:Mem) (w0:World) (L:Nat->Bool) (w:World) (K:Nat) (φ:Ren) (M:Mem):Prop where
 inv:Inv φ M w
 frm:Frm φ0 m0 w0 φ M w
 at_:ms[K]? = some M
 le:K<=zp al al.length
 done:∀ (i:Nat) o,al[i]? = some o->qN o=true->zp al i<K->L i=true
 ahead:∀ (i:Nat) o,al[i]? = some o->qN o=true->L i=true->K<=zp al i->∃ b ao,o.op=.floAt b ao/\(zh (T i) o.guard=true->∃ x k,jN (T i) ao=some (x,k)/\Flt φ M w w0 b x)
 still:∀ (i:Nat) o b ao,al[i]? = some o->o.op=.floAt b ao->L i=false->φ b=none/\M.get b=none
 below:∀ (i:Nat) o b ao,al[i]? = some o->o.op=.floAt b ao->b<M.next
 apart:∀ (i j:Nat) o p b b' ao ao' l l',i≠j->al[i]? = some o->al[j]? = some p->o.op=.floAt b ao->p.op=.floAt b' ao'->L i=true->L j=true->K<=zp al i->K<=zp al j->φ b=some l->φ b'=some l'->l.blk≠l'.blk
theorem yL {o:AOper} {b:Nat} {ao:AOp} (h:o.op=.floAt b ao):qN o=true:=by simp [qN,h,AOp.cls]
theorem StF.qgJ (R:RgF P call ops al E lo hi ms ts0 T V base) {φ0:Ren} {m0:Mem} {w0 w:World} {L:Nat->Bool} {K:Nat} {φ:Ren} {M:Mem} (hm0:m0.next<=base) (h:StF al T ms φ0 m0 w0 L w K φ M) {i:Nat} {o:AOper} (ho:al[i]? = some o) (he:qN o=true) (hK:zp al i=K) (hL:L i=true) :
  ∃ M',StF al T ms φ0 m0 w0 L w (K+1) φ M':=by
 obtain ⟨b,ao,hop,hblk⟩:=h.ahead i o ho he hL (by omega);have hcl:o.op.cls=.eff:=by simpa [qN] using he
 have hle1:K+1<=zp al al.length:=by have:=kL ho he (jb ho) (Nat.le_refl _); omega
 have hdone:∀ (j:Nat) p,al[j]? = some p->qN p=true->zp al j<K+1->L j=true:=by
  intro j p hp hpe hlt;rcases Nat.lt_or_ge (zp al j) K with h1|h1
  ·exact h.done j p hp hpe h1
  ·have:j=i:=HJ hp hpe ho he (by omega);rw [this]; exact hL
 cases hw:zh (T i) o.guard with
 | false =>
  obtain ⟨_,hid⟩:=R.idle i o ho hw;obtain ⟨M1,h1,h2⟩:=hid hcl;rw [hK] at h1 h2;rw [h.at_] at h1; cases h1
  exact ⟨M,h.inv,h.frm,h2,hle1,hdone,λj p hp hpe hLj hlt=>h.ahead j p hp hpe hLj (by omega),h.still,h.below,λj k p q c d ao1 ao2 l l' hjk hp hq hpo hqo hLj hLk h1 h2=>h.apart j k p q c d ao1 ao2 l l' hjk hp hq hpo hqo hLj hLk (by omega) (by omega)⟩
 | true =>
  obtain ⟨x,k,hnb,hflt⟩:=hblk hw;obtain ⟨l,hl,hge,hok,hnone,hdis⟩:=hflt;obtain ⟨M1,M2,h1,h2,hs⟩:=R.eff i o ho hw hcl;rw [hK] at h1 h2;rw [h.at_] at h1; cases h1
  rw [hop] at hs;simp only [zA,AOp.run,hnb,Option.map_some,sjI,pjI] at hs;obtain ⟨_,rfl⟩:=hs;have hbn:=h.below i o b ao ho hop;have hb0:=R.kept i o b ao ho hop;have hget:∀ c,c≠b->(M.put b x).get c=M.get c:=λc hc=>by rw [Mem.zi,if_neg hc]
  refine ⟨M.put b x,⟨λc y hc=>?_,λc d y z k j hc hd hk hj hro hne=>?_,λc k hk=>h.inv.below c k hk⟩,⟨h.frm.ren,h.frm.size,λB hB hno=>h.frm.same B hB hno,λc y k hc hk hro=>?_,h.frm.os,h.frm.output,h.frm.tape,h.frm.nxt,h.frm.old,λc hc hn=>?_,λc y k hc hk=>?_⟩,h2,hle1,hdone,λj p hp hpe hLj hlt=>?_,λj p c ao' hp hpo hLj=>?_,h.below,λj k p q c d ao1 ao2 l l' hjk hp hq hpo hqo hLj hLk h1 h2=>h.apart j k p q c d ao1 ao2 l l' hjk hp hq hpo hqo hLj hLk (by omega) (by omega)⟩
  ·by_cases e:c=b
   ·subst e; rw [Mem.zi,if_pos rfl] at hc; cases hc; exact ⟨l,hl,hok⟩
   ·rw [hget c e] at hc; exact h.inv.live c y hc
  ·by_cases e:c=b
   ·subst e;rw [hget d (Ne.symm hne)] at hd;rw [hl] at hk; cases hk
    exact (hdis d z j hd hj).symm
   ·rw [hget c e] at hc;by_cases e':d=b
    ·subst e';rw [hl] at hj; cases hj
     exact hdis c y k hc hk
    ·rw [hget d e'] at hd;exact h.inv.apart c d y z k j hc hd hk hj hro hne
  ·by_cases e:c=b
   ·subst e; rw [hl] at hk; cases hk; exact .inl hge
   ·rw [hget c e] at hc; exact h.frm.own c y k hc hk hro
  ·rw [hget c (by omega)]; exact h.frm.dead c hc hn
  ·by_cases e:c=b
   ·subst e; rw [hl] at hk; cases hk; exact .inl hge
   ·rw [hget c e] at hc; exact h.frm.all c y k hc hk
  ·obtain ⟨b',ao',hpo,hb'⟩:=h.ahead j p hp hpe hLj (by omega);refine ⟨b',ao',hpo,λhwj=>?_⟩;obtain ⟨x',k',hn',l',hl',hge',hok',hno',hdis'⟩:=hb' hwj;have hji:j≠i:=by rintro rfl; omega
   have hbb:b'≠b:=R.one j i p o b' b ao' ao hji hp ho hpo hop;refine ⟨x',k',hn',l',hl',hge',hok',by rw [hget b' hbb]; exact hno',λc y k hc hk=>?_⟩;by_cases e:c=b
   ·subst e;rw [hl] at hk; cases hk
    exact h.apart i j o p c b' ao ao' l l' (Ne.symm hji) ho hp hop hpo hL hLj (by omega) (by omega) hl hl'
   ·rw [hget c e] at hc; exact hdis' c y k hc hk
  ·obtain ⟨h1,h2⟩:=h.still j p c ao' hp hpo hLj;have hji:j≠i:=by rintro rfl; rw [hL] at hLj; cases hLj
   exact ⟨h1,by rw [hget c (R.one j i p o c b ao' ao hji hp ho hpo hop)]; exact h2⟩
theorem StF.ZY (R:RgF P call ops al E lo hi ms ts0 T V base) {φ0:Ren} {m0:Mem} {w0 w:World} {L:Nat->Bool} {φ:Ren} (hm0:m0.next<=base):∀ (d K:Nat) (M:Mem),StF al T ms φ0 m0 w0 L w K φ M->K+d<=zp al al.length ->
  (∀ (i:Nat) o,al[i]? = some o->qN o=true->zp al i<K+d->L i=true)->∃ M',StF al T ms φ0 m0 w0 L w (K+d) φ M'
 | 0,K,M,h,_,_=>⟨M,h⟩
 | d+1,K,M,h,hle,hall=>by
  obtain ⟨i,o,_,ho,he,hK⟩:=WQ al al.length K (Nat.le_refl _) (by omega);obtain ⟨M1,h1⟩:=h.qgJ R hm0 ho he hK (hall i o ho he (by omega));have:=StF.ZY R hm0 d (K+1) M1 h1 (by omega) (λj p hp hpe hlt=>hall j p hp hpe (by omega));rw [show K+(d+1)=K+1+d by omega]; exact this
theorem StF.move {φ0 φ φ':Ren} {m0:Mem} {w0 w w':World} {L:Nat->Bool} {K:Nat} {M:Mem} (s:StF al T ms φ0 m0 w0 L w K φ M) (hi':Inv φ' M w') (hf:Frm φ M w φ' M w'):StF al T ms φ0 m0 w0 L w' K φ' M:=by
 refine ⟨hi',s.frm.trans hf,s.at_,s.le,s.done,λj q hq hqe hL hle=>?_,λj q b ao hq hqo hL=>?_,s.below,λj k q r b b' ao ao' l l' hjk hq hr hqo hro hLj hLk h1 h2 hbl hbl'=>?_⟩
 ·obtain ⟨b,ao,hqo,hb⟩:=s.ahead j q hq hqe hL hle;refine ⟨b,ao,hqo,λhwj=>?_⟩;obtain ⟨x,k,hn,hfl⟩:=hb hwj;exact ⟨x,k,hn,hfl.step s.inv hf (s.below j q b ao hq hqo)⟩
 ·obtain ⟨g1,g2⟩:=s.still j q b ao hq hqo hL;have hb:=s.below j q b ao hq hqo;exact ⟨by rw [hf.old b hb]; exact g1,g2⟩
 ·rw [hf.old b (s.below j q b ao hq hqo)] at hbl;rw [hf.old b' (s.below k r b' ao' hr hro)] at hbl';exact s.apart j k q r b b' ao ao' l l' hjk hq hr hqo hro hLj hLk h1 h2 hbl hbl'
structure JF (al:List AOper) (E:Nat->List Nat) (ms:List Mem) (ts0:List Value) (T:Nat->List Value) (V:Nat->Value) (φ0:Ren) (m0:Mem) (w0:World) (a0:Act) (qo:Array Bool) (a:Act) (w:World):Prop where
 sz:qo.size=al.length
 closed:∀ x,isL qo x=true->∀ e∈E x,isL qo e=true
 st:∃ φ ts M K,VRs φ ts a.tmps.toList/\StF al T ms φ0 m0 w0 (isL qo) w K φ M/\a.defers=a0.defers/\Fr al V ts0 (isL qo) ts
theorem kq.qlz {φ:Ren} {w:World} {c:List Value} {e:TypeId} {lo:Option Nat} {l:Loc} (h:kq φ w ⟨.cells c e,false,lo⟩ l):kq φ w ⟨.cells c e,true,lo⟩ l:=by
 obtain ⟨⟨h1,_⟩,C,e',fz,h2,h3,_,_,h4,_⟩:=h;exact ⟨⟨h1,λh=>(by cases h)⟩,C,e',fz,h2,h3,λh=>(by cases h),λh=>(by cases h),h4,λh=>(by cases h)⟩
theorem qjy {φ φ':Ren} {M:Mem} {w w':World} {b:Nat} {x:ABlk} (hx:x.ro=true) (hn:M.get b=none) (hi:Inv φ M w) (h2:Inv φ' (M.put b x) w') (h3:Frm φ (M.put b x) w φ' (M.put b x) w'):Inv φ' M w'/\Frm φ M w φ' M w':=by
 have hget:∀ c y,M.get c=some y->(M.put b x).get c=some y:=λc y hc=>by
  rw [Mem.zi,if_neg (λe=>by subst e; rw [hn] at hc; cases hc)]; exact hc
 have hback:∀ c y,(M.put b x).get c=some y->y.ro=false->M.get c=some y:=λc y hc hy=>by
  by_cases e:c=b
  ·subst e; rw [Mem.zi,if_pos rfl] at hc; cases hc; rw [hx] at hy; cases hy
  ·rw [Mem.zi,if_neg e] at hc; exact hc
 refine ⟨⟨λc y hc=>h2.live c y (hget c y hc),λc d y z l k hc hd=>h2.apart c d y z l k (hget c y hc) (hget d z hd),λc l hc=>h2.below c l hc⟩,
  ⟨h3.ren,h3.size,λB hB hno=>h3.same B hB (λc y l hc hl hy=>hno c y l (hback c y hc hy) hl hy),λc y l hc hl hy=>?_,h3.os,h3.output,h3.tape,Nat.le_refl _,λc hc=>h3.old c hc,λc _ hc=>hc,λc y l hc hl=>?_⟩⟩
 ·obtain ⟨k,hk,_⟩:=hi.live c y hc;have:=h3.ren c k hk;rw [hl] at this; cases this
  exact .inr ⟨c,y,_,hc,hk,hy,rfl⟩
 ·obtain ⟨k,hk,_⟩:=hi.live c y hc;have:=h3.ren c k hk;rw [hl] at this; cases this
  exact .inr ⟨c,y,_,hc,hk,rfl⟩
theorem qed {b n:Nat} {c:List Value} {e:TypeId} {ro ro':Bool} {lo:Option Nat} {M M':Mem}:xZ (.slice (some ⟨b,0,none⟩) n n) (M.put b ⟨.cells c e,ro,lo⟩)=xZ (.slice (some ⟨b,0,none⟩) n n) (M'.put b ⟨.cells c e,ro',lo⟩):=by
 have h1:(M.put b ⟨.cells c e,ro,lo⟩).xp b=some c:=by simp [Mem.xp,Mem.zi]
 have h2:(M'.put b ⟨.cells c e,ro',lo⟩).xp b=some c:=by simp [Mem.xp,Mem.zi]
 simp only [xZ,h1,h2]
theorem RgF.step {ro:Option Nat} (hc0:CallOk P call) (hg:∀ f args m r,f<yBase->call f args m=some r->zX P f=true) (R:RgF P call ops al E lo hi ms ts0 T V base) {φ0:Ren} {m0:Mem} {w0:World} {a0 a:Act} {w:World} {qo:Array Bool} (hm0:m0.next<=base)
  (h:JF al E ms ts0 T V φ0 m0 w0 a0 qo a w) {i:Nat} (hr:i∈Region.ready .any ops qo) {K:Act->World->Prop} {Q:Exit->Act->World->Prop} (hK:∀ a' w',JF al E ms ts0 T V φ0 m0 w0 a0 (qo.setIfInBounds i true) a' w'->K a' w'):wpOpIn (rf ro) 0 P ops Q i K a w:=by
 obtain ⟨hi1,hi2,o,ho,hedge⟩:=kE hr;obtain ⟨p,hp,hpd,hpr,hpg⟩:=R.op i o ho;have hLi:=yO hi2;have hil:=jb hp;have hEl:∀ e∈E i,isL qo e=true:=by
  intro e he;rw [R.edges i o ho] at he;simp only [zR,List.mem_filterMap] at he;obtain ⟨x,hx,hxe⟩:=he;split at hxe
  ·rename_i hb;cases hxe
   exact hedge x (by simpa using hx) hb
  ·cases hxe
 have hanc:∀ j,Anc E i j->isL qo j=true:=λj hj=>hj.qo (L:=λx=>isL qo x=true) h.closed hEl
 have hdesc:∀ j,isL qo j=true->¬ Anc E j i:=λj hj ha=>by
  have:=ha.qo (L:=λx=>isL qo x=true) h.closed (h.closed j hj);rw [hLi] at this; cases this
 obtain ⟨φ,ts,M,K0,hvr,hst,hdef,hfr⟩:=h.st;have hag:=R.agree hfr h.closed hp hLi hEl;have hagS:jW p.op.ve ts (T i):=λt ht=>hag t (by simp [AOper.looks,ht])
 have hsz:i<qo.size:=by rw [h.sz,R.len]; exact hi1
 have hset:=WC hsz;have hLn:∀ j,j≠i->isL (qo.setIfInBounds i true) j=isL qo j:=λj hj=>by
  rw [Bool.eq_iff_iff,hset j]; simp [hj]
 have hclosed':∀ x,isL (qo.setIfInBounds i true) x=true->∀ e∈E x,isL (qo.setIfInBounds i true) e=true:=by
  intro x hx e he;rcases (hset x).1 hx with rfl|hx
  ·exact (hset e).2 (.inr (hEl e he))
  ·exact (hset e).2 (.inr (h.closed x hx e he))
 have hwantT:zh ts p.guard=zh (T i) p.guard:=by
  cases hgd:p.guard with
  | none=>rfl
  | some g =>
   obtain ⟨t,want⟩:=g;have:ts[t]? = (T i)[t]?:=hag t (by simp [AOper.looks,hgd]);simp [zh,this]
 have hw:Region.wanted o (yielded ops a.tmps)=zh (T i) p.guard:=by rw [<- hwantT]; exact Zw hvr hpg
 have fin:∀ (V':Value) (w':World) (φ':Ren) (M':Mem) (K':Nat),Ren.le φ φ'->VR φ' (V i) V'->StF al T ms φ0 m0 w0 (isL (qo.setIfInBounds i true)) w' K' φ' M'->K (a.put o.dst V') w':=by
  intro V' w' φ' M' K' hle h1 h2;refine hK _ _ ⟨by rw [Array.size_setIfInBounds]; exact h.sz,hclosed',φ',ja ts p.dst (V i),M',K',?_,h2,by rw [put_defers,hdef],R.put hfr hp hset⟩;rw [<- hpd];exact XM (hvr.mono hle) p.dst h1
 have quiet:∀ {M:Mem} {K1:Nat} {φ:Ren} {w:World},qN p=false->StF al T ms φ0 m0 w0 (isL qo) w K1 φ M->StF al T ms φ0 m0 w0 (isL (qo.setIfInBounds i true)) w K1 φ M:=by
  intro M K1 φ w hne s;have hj:∀ (j:Nat) q,al[j]? = some q->qN q=true->j≠i:=by
   rintro j q hq hqe rfl
   rw [hp] at hq; cases hq
   rw [hne] at hqe; cases hqe
  refine ⟨s.inv,s.frm,s.at_,s.le,λj q hq hqe hlt=>?_,λj q hq hqe hL hle=>?_,λj q b ao hq hqo hL=>?_,s.below,λj k q r b b' ao ao' l l' hjk hq hr hqo hro hLj hLk=>?_⟩
  ·rw [hLn j (hj j q hq hqe)]; exact s.done j q hq hqe hlt
  ·rw [hLn j (hj j q hq hqe)] at hL; exact s.ahead j q hq hqe hL hle
  ·rw [hLn j (hj j q hq (yL hqo))] at hL; exact s.still j q b ao hq hqo hL
  ·rw [hLn j (hj j q hq (yL hqo))] at hLj;rw [hLn k (hj k r hr (yL hro))] at hLk;exact s.apart j k q r b b' ao ao' l l' hjk hq hr hqo hro hLj hLk
 unfold wpOpIn;rw [ho];simp only;rw [hw];have turn:qN p=true->(¬ ∃ b ao,p.op=.floAt b ao)->∃ M1,StF al T ms φ0 m0 w0 (isL qo) w (zp al i) φ M1:=by
  intro he hnf;have hall:∀ (j:Nat) q,al[j]? = some q->qN q=true->zp al j<zp al i->isL qo j=true:=by
   intro j q hq hqe hlt;have hji:j<i:=by
    rcases Nat.lt_or_ge j i with h|h
    ·exact h
    ·rcases Nat.lt_or_ge i j with h'|h'
     ·have:=kL hp he h' (Nat.le_of_lt (jb hq)); omega
     ·obtain rfl:i=j:=by omega
      omega
   rcases R.chain j i q p hji hq hp hqe he with ha|ha
   ·exact hanc j ha
   ·exact absurd ha hnf
  have hK0:K0<=zp al i:=by
   rcases Nat.lt_or_ge (zp al i) K0 with hh|hh
   ·have:=hst.done i p hp he hh;rw [hLi] at this; cases this
   ·exact hh
  have hle:=yS al (Nat.le_of_lt hil) (Nat.le_refl _);obtain ⟨M1,h1⟩:=hst.ZY R hm0 (zp al i - K0) K0 M (by omega) (λj q hq hqe hlt=>hall j q hq hqe (by omega));rw [show K0+(zp al i - K0)=zp al i by omega] at h1;exact ⟨M1,h1⟩
 have behind:∀ {M1 M2:Mem} {w':World} {φ':Ren},qN p=true->(¬ ∃ b ao,p.op=.floAt b ao)->StF al T ms φ0 m0 w0 (isL qo) w (zp al i) φ M1->ms[zp al i+1]? = some M2->Inv φ' M2 w'->Frm φ M1 w φ' M2 w' ->
   StF al T ms φ0 m0 w0 (isL (qo.setIfInBounds i true)) w' (zp al i+1) φ' M2:=by
  intro M1 M2 w' φ' he hnf s hM2 hinv' hf;refine ⟨hinv',s.frm.trans hf,hM2,by have:=kL hp he hil (Nat.le_refl _); omega,λj q hq hqe hlt=>?_,λj q hq hqe hL hle=>?_,λj q b ao hq hqo hL=>?_,λj q b ao hq hqo=>Nat.lt_of_lt_of_le (s.below j q b ao hq hqo) hf.nxt,λj k q r b b' ao ao' l l' hjk hq hr hqo hro hLj hLk h1 h2 hbl hbl'=>?_⟩
  ·by_cases hji:j=i
   ·exact (hset j).2 (.inl hji)
   ·rw [hLn j hji];refine s.done j q hq hqe ?_;rcases Nat.lt_or_ge (zp al j) (zp al i) with hh|hh
    ·exact hh
    ·exact absurd (HJ hq hqe hp he (by omega)) hji
  ·have hji:j≠i:=by rintro rfl; omega
   rw [hLn j hji] at hL;obtain ⟨b,ao,hqo,hb⟩:=s.ahead j q hq hqe hL (by omega);refine ⟨b,ao,hqo,λhwj=>?_⟩;obtain ⟨x,k,hn,hfl⟩:=hb hwj;exact ⟨x,k,hn,hfl.step s.inv hf (s.below j q b ao hq hqo)⟩
  ·have hji:j≠i:=by intro e; rw [e,hp] at hq; cases hq; exact hnf ⟨b,ao,hqo⟩
   rw [hLn j hji] at hL;obtain ⟨g1,g2⟩:=s.still j q b ao hq hqo hL;have hb:=s.below j q b ao hq hqo;exact ⟨by rw [hf.old b hb]; exact g1,hf.dead b hb g2⟩
  ·have hji:j≠i:=by intro e; rw [e,hp] at hq; cases hq; exact hnf ⟨b,ao,hqo⟩
   have hki:k≠i:=by intro e; rw [e,hp] at hr; cases hr; exact hnf ⟨b',ao',hro⟩
   rw [hLn j hji] at hLj;rw [hLn k hki] at hLk;rw [hf.old b (s.below j q b ao hq hqo)] at hbl;rw [hf.old b' (s.below k r b' ao' hr hro)] at hbl';exact s.apart j k q r b b' ao ao' l l' hjk hq hr hqo hro hLj hLk (by omega) (by omega) hbl hbl'
 cases hwant:zh (T i) p.guard with
 | false =>
  simp only [Bool.false_eq_true,if_false];refine ⟨λ_ _=>trivial,?_⟩;obtain ⟨hV,hM⟩:=R.idle i p hp hwant;have hVu:VR φ (V i) undef:=by rw [hV]; exact VR.undef φ
  by_cases he:qN p=true
  ·by_cases hfl:∃ b ao,p.op=.floAt b ao
   ·obtain ⟨b,ao,hfo⟩:=hfl;refine fin undef w φ M K0 (Ren.le_refl φ) hVu ⟨hst.inv,hst.frm,hst.at_,hst.le,λj q hq hqe hlt=>?_,λj q hq hqe hL hle=>?_,λj q b' ao' hq hqo hL=>?_,hst.below,λj k q r b b' ao ao' l l' hjk hq hr hqo hro hLj hLk h1 h2 hbl hbl'=>?_⟩
    ·exact (hset j).2 (.inr (hst.done j q hq hqe hlt))
    ·by_cases hji:j=i
     ·rw [hji,hp] at hq; cases hq
      exact ⟨b,ao,hfo,λhw=>by rw [hji,hwant] at hw; cases hw⟩
     ·rw [hLn j hji] at hL; exact hst.ahead j q hq hqe hL hle
    ·have hji:j≠i:=by intro e; rw [(hset j).2 (.inl e)] at hL; cases hL
     rw [hLn j hji] at hL; exact hst.still j q b' ao' hq hqo hL
    ·have hno:∀ (j:Nat) q b ao l,al[j]? = some q->q.op=.floAt b ao->φ b=some l->j≠i:=by
      intro j q b ao l hq hqo hbl e;have:=(hst.still j q b ao hq hqo (by rw [e]; exact hLi)).1;rw [this] at hbl; cases hbl
     rw [hLn j (hno j q b ao l hq hqo hbl)] at hLj;rw [hLn k (hno k r b' ao' l' hr hro hbl')] at hLk;exact hst.apart j k q r b b' ao ao' l l' hjk hq hr hqo hro hLj hLk h1 h2 hbl hbl'
   ·obtain ⟨M1,s1⟩:=turn he hfl;obtain ⟨M2,hM1,hM2⟩:=hM (by simpa [qN] using he);rw [s1.at_] at hM1; cases hM1
    exact fin undef w φ M1 _ (Ren.le_refl φ) hVu (behind he hfl s1 hM2 s1.inv (Frm.refl φ M1 w))
  ·exact fin undef w φ M K0 (Ren.le_refl φ) hVu (quiet (by simpa using he) hst)
 | true =>
  simp only [if_true];cases hcl:p.op.cls with
  | eff =>
   obtain ⟨M1,M2,hM1,hM2,hs⟩:=R.eff i p hp hwant hcl;have he:qN p=true:=by simp [qN,hcl]
   rcases hpr with ⟨hpr,hnn⟩|⟨b,hfo,hnew⟩
   ·have hnf:¬ ∃ b ao,p.op=.floAt b ao:=by
     rintro ⟨b,ao,hfo⟩
     exact hnn b ao hfo
    obtain ⟨M3,s1⟩:=turn he hnf;rw [s1.at_] at hM1; cases hM1
    rw [<- jr call _ hagS] at hs;refine jh hc0 hg hpr s1.inv hvr hs ?_;intro V' w' φ' h1 h2 h3;exact fin V' w' φ' M2 _ h3.ren h1 (behind he hnf s1 hM2 h2 h3)
   ·rw [hfo] at hs;simp only [zA,AOp.run,msI,pjI] at hs;obtain ⟨⟨x,k⟩,hnb,hVi,_⟩:=hs;have hagB:jW (yZ P o).ve ts (T i):=by have:=hagS; rw [hfo] at this; exact this
    have hnbT:=hnb;rw [<- QR hagB] at hnb;have hres:res P o=some (yZ P o):=by
     unfold yZ at hnb ⊢;cases hres:res P o with
     | none=>rw [hres] at hnb; simp [jN] at hnb
     | some y=>rfl
    obtain ⟨obj,hrun,hro,hblk⟩:=qdw hres hnew hvr hnb w;have hfo':p.op=.floAt b (yZ P o):=hfo;obtain ⟨g1,g2⟩:=hst.still i p b _ hp hfo' hLi;have hb:=hst.below i p b _ hp hfo';have hb0:=R.kept i p b _ hp hfo';have hle:Ren.le φ (φ.set b ⟨w.heap.size,0,none,0⟩):=Ren.wM g1;have hself:(φ.set b ⟨w.heap.size,0,none,0⟩) b=some ⟨w.heap.size,0,none,0⟩:=Ren.zB ..;have hoth:∀ c,c≠b->(φ.set b ⟨w.heap.size,0,none,0⟩) c=φ c:=λc hc=>Ren.zk _ _ hc
    have hfp:=Frm.push (φ:=φ) (m:=M) (w:=w) obj;have hVR:VR (φ.set b ⟨w.heap.size,0,none,0⟩) (V i) (ke w.heap.size k):=by
     rw [<- hVi];cases k with
     | none=>have:=VR.ptr b 0 _ hself; simpa [ke] using this
     | some n=>have:=VR.sliceEx b 0 n n _ hself rfl; simpa [ke] using this
    refine ⟨λ_ _=>trivial,?_⟩;rw [Oper.semAt_eq _ _ _ (Vb hres),hrun];refine fin _ _ _ M K0 hle hVR ⟨(hst.inv.push obj).extend hb g1 g2 (by simp),?_,hst.at_,hst.le,λj q hq hqe hlt=>?_,λj q hq hqe hL hle'=>?_,λj q b' ao' hq hqo hL=>?_,hst.below,λj k' q r c c' ao ao' l l' hjk hq hr hqo hro' hLj hLk h1 h2 hbl hbl'=>?_⟩
    ·have f:=hst.frm.trans hfp;refine ⟨Ren.le_trans f.ren hle,f.size,f.same,λc y l hc hl hr=>?_,f.os,f.output,f.tape,f.nxt,λc hc=>?_,f.dead,λc y l hc hl=>?_⟩
     ·have hne:c≠b:=by rintro rfl; rw [g2] at hc; cases hc
      rw [hoth c hne] at hl; exact f.own c y l hc hl hr
     ·rw [hoth c (by omega)]; exact f.old c hc
     ·have hne:c≠b:=by rintro rfl; rw [g2] at hc; cases hc
      rw [hoth c hne] at hl; exact f.all c y l hc hl
    ·exact (hset j).2 (.inr (hst.done j q hq hqe hlt))
    ·by_cases hji:j=i
     ·rw [hji,hp] at hq; cases hq
      rw [hji];refine ⟨b,_,hfo',λ_=>⟨x,k,hnbT,⟨w.heap.size,0,none,0⟩,hself,hst.frm.size,hblk _ _ hle (by simp),g2,λc y l hc hl=>?_⟩⟩;have hne:c≠b:=by rintro rfl; rw [g2] at hc; cases hc
      rw [hoth c hne] at hl;have:=hst.inv.jm hl;show l.blk≠w.heap.size;omega
     ·rw [hLn j hji] at hL;obtain ⟨b',ao',hqo,hb'⟩:=hst.ahead j q hq hqe hL hle';refine ⟨b',ao',hqo,λhwj=>?_⟩;obtain ⟨x',k',hn',l',hl',hge',hok',hno',hdis'⟩:=hb' hwj;have hlt:=hst.inv.jm hl';have hbb:b'≠b:=by rintro rfl; rw [g1] at hl'; cases hl'
      refine ⟨x',k',hn',l',hle _ _ hl',hge',(hok'.congr ?_).mono hle,hno',λc y l hc hl=>?_⟩
      ·exact hfp.same l'.blk hlt λc y l hc hl _=>hdis' c y l hc hl
      ·have hne:c≠b:=by rintro rfl; rw [g2] at hc; cases hc
       rw [hoth c hne] at hl; exact hdis' c y l hc hl
    ·have hji:j≠i:=by intro e; rw [(hset j).2 (.inl e)] at hL; cases hL
     rw [hLn j hji] at hL;obtain ⟨k1,k2⟩:=hst.still j q b' ao' hq hqo hL;exact ⟨by rw [hoth b' (R.one j i q p b' b ao' _ hji hq hp hqo hfo')]; exact k1,k2⟩
    ·have hnew':∀ (j:Nat) q c ao l,al[j]? = some q->q.op=.floAt c ao->j≠i->(φ.set b ⟨w.heap.size,0,none,0⟩) c=some l->φ c=some l/\l.blk≠w.heap.size:=by
      intro j q c ao l hq hqo hji hl;rw [hoth c (R.one j i q p c b ao _ hji hq hp hqo hfo')] at hl;have:=hst.inv.jm hl;exact ⟨hl,by omega⟩
     by_cases hji:j=i
     ·rw [hji,hp] at hq; cases hq
      rw [hfo'] at hqo; cases hqo
      rw [hself] at hbl; cases hbl
      exact (hnew' k' r c' ao' l' hr hro' (λe=>hjk (hji.trans e.symm)) hbl').2.symm
     ·by_cases hki:k'=i
      ·rw [hki,hp] at hr; cases hr
       rw [hfo'] at hro'; cases hro'
       rw [hself] at hbl'; cases hbl'
       exact (hnew' j q c ao l hq hqo hji hbl).2
      ·rw [hLn j hji] at hLj;rw [hLn k' hki] at hLk;exact hst.apart j k' q r c c' ao ao' l l' hjk hq hr hqo hro' hLj hLk h1 h2 (hnew' j q c ao l hq hqo hji hbl).1 (hnew' k' r c' ao' l' hr hro' hki hbl').1
  | read =>
   have he:qN p=false:=by simp [qN,hcl]
   have hnf:¬ ∃ b,p.op=.floAt b (yZ P o)/\yK o.op=true:=by
    rintro ⟨b,hfo,_⟩; rw [hfo] at hcl; cases hcl
   have hpr':=(hpr.resolve_right hnf).1;obtain ⟨q,hq,hall⟩:=R.read i p hp hwant hcl;by_cases hcase:∃ (j t:Nat) (r:AOper) (b:Nat) (e:TypeId) (n:Nat) (z:List Value) (ps:List (Nat × Nat × Operand)),p.op=.b2s (.tmp t)/\al[j]? = some r/\r.op=.floAt b (.buildSlice e n z ps)/\r.guard=none/\r.dst=some t/\Anc E i j/\(∀ (a:Nat) r,al[a]? = some r->qN r=true->Anc E i a->a<=j)/\K0<=zp al j
   ·-- the slice was laid ahead of its turn: its block is looked at alone
    obtain ⟨j,t,r,b,e,n,z,ps,hpop,hrj,hrop,hrg,hrd,hij,hmax,hK0⟩:=hcase;have hre:=yL hrop;have hrcl:r.op.cls=.eff:=by simpa [qN] using hre
    have hji:j<i:=hij.lt R.lt;have hwr:zh (T j) r.guard=true:=by rw [hrg]; rfl
    obtain ⟨Mj,Mj',hMj,hMj',hsj⟩:=R.eff j r hrj hwr hrcl;rw [hrop] at hsj;simp only [zA,AOp.run,jN,msI,bsI,pjI] at hsj;obtain ⟨⟨x,k⟩,⟨l0,hl0,c,hc,hxk⟩,hV,hM⟩:=hsj;simp only [pjI] at hxk;obtain ⟨rfl,rfl⟩:=hxk;have hfi:=R.fr i (Nat.le_of_lt hil);rw [hpop] at hq;simp only [AOp.req,zc,Option.map_some,sjI] at hq;obtain ⟨v,hv⟩:∃ v,v=(T i)[t]?.getD undef:=⟨_,rfl⟩;rw [<- hv] at hq;subst hq;have heN:∀ (a:Nat) q,al[a]? = some q->qN q=true->Anc E i a->zp al a<zp al j+1:=λa q ha hae haa=>by
     have:=yS al (hmax a q ha hae haa) (Nat.le_of_lt (jb hrj)); omega
    have h1:=R.lo_le i (zp al j+1) heN;have h2:=R.le_hi i (zp al j+1) hil (by have:=kL hrj hre (jb hrj) (Nat.le_refl _); omega) (λa q ha hae hlt hai=>by
     have h3:i<a:=hai.lt R.lt;have:=kL hrj hre (show j<a by omega) (Nat.le_of_lt (jb ha)); omega)
    obtain ⟨M2,hM2,hrun⟩:=hall _ h1 h2;rw [hMj'] at hM2; cases hM2
    have hvj:v=V j:=by
     rcases Nat.lt_or_ge t ts0.length with htl|htl
     ·have:=hfi.2.1 j t (by simpa using hji) (by simp [xz,hrj,hrd]) htl;rw [hv,this]; rfl
     ·rw [<- hfi.1] at htl;rw [List.getElem?_eq_none htl] at hv;subst hv;simp [Req.run,xZ,undef] at hrun
    obtain ⟨b',ao',hrop',hah⟩:=hst.ahead j r hrj hre (hanc j hij) hK0;rw [hrop] at hrop'; cases hrop'
    obtain ⟨x',k',hnb,l,hl,hge,hok,hnone,hdis⟩:=hah hwr;have hx':x'=⟨.cells c e,false,none⟩:=by
     simp only [jN,bsI,msI,pjI] at hnb;obtain ⟨l1,hl1,c1,hc1,rfl,_⟩:=hnb;rw [hl0] at hl1; cases hl1
     rw [hc] at hc1; cases hc1
     rfl
    subst hx';have hok':=hok.qlz;have hbn:=hst.below j r b _ hrj hrop;have hinv:Inv φ (M.put b ⟨.cells c e,true,none⟩) w:=by
     have hget:∀ c',c'≠b->(M.put b ⟨.cells c e,true,none⟩).get c'=M.get c':=λc' hc'=>by rw [Mem.zi,if_neg hc']
     refine ⟨λc' y hc'=>?_,λc' d y z' k1 j1 hc' hd hk hj hro hne=>?_,λc' k1 hk=>hst.inv.below c' k1 hk⟩
     ·by_cases e':c'=b
      ·subst e'; rw [Mem.zi,if_pos rfl] at hc'; cases hc'; exact ⟨l,hl,hok'⟩
      ·rw [hget c' e'] at hc'; exact hst.inv.live c' y hc'
     ·by_cases e':c'=b
      ·subst e'; rw [Mem.zi,if_pos rfl] at hc'; cases hc'; cases hro
      ·rw [hget c' e'] at hc';by_cases e'':d=b
       ·subst e'';rw [hl] at hj; cases hj
        exact hdis c' y k1 hc' hk
       ·rw [hget d e''] at hd;exact hst.inv.apart c' d y z' k1 j1 hc' hd hk hj hro hne
    have hrun':(Req.b2s v).run (M.put b ⟨.cells c e,true,none⟩)=some (V i):=by
     rw [hvj,<- hV];rw [hvj,<- hV,<- hM] at hrun;exact (qed (M:=M) (M':=Mj)).trans hrun
    have hq':p.op.req ts=some (.b2s v):=by
     rw [yD hagS,hpop];simp only [AOp.req,zc,<- hv,Option.map_some]
    have hs:zA call ts (M.put b ⟨.cells c e,true,none⟩) p.op=some (V i,M.put b ⟨.cells c e,true,none⟩):=by rw [zJ call ts _ (Qj hq')]; exact Qd hq' hrun'
    refine jh hc0 hg hpr' hinv hvr hs ?_;intro V' w' φ' g1 g2 g3;obtain ⟨i2,f2⟩:=qjy rfl hnone hst.inv g2 g3;exact fin V' w' φ' M K0 g3.ren g1 (quiet he (hst.move i2 f2))
   have hto:∃ K1 M1,StF al T ms φ0 m0 w0 (isL qo) w K1 φ M1/\∀ (a:Nat) r,al[a]? = some r->qN r=true->Anc E i a->zp al a<K1:=by
    by_cases hspec:qiX al E i
    ·obtain ⟨j,t,o2,r,b,e,n,z,ps,ho2,hop2,_,hrj,hrop,hrg,hrd,hij,hmax⟩:=hspec;rw [hp] at ho2; cases ho2
     have hlt:zp al j<K0:=by
      rcases Nat.lt_or_ge (zp al j) K0 with h|h
      ·exact h
      ·exact absurd ⟨j,t,r,b,e,n,z,ps,hop2,hrj,hrop,hrg,hrd,hij,hmax,h⟩ hcase
     exact ⟨K0,M,hst,λa q ha hae haa=>by
      have:=yS al (hmax a q ha hae haa) (Nat.le_of_lt (jb hrj)); omega⟩
    have key:∀ (d K1:Nat) (M1:Mem),zp al al.length - K1=d->StF al T ms φ0 m0 w0 (isL qo) w K1 φ M1->∃ K2 M2,StF al T ms φ0 m0 w0 (isL qo) w K2 φ M2/\∀ (a:Nat) r,al[a]? = some r->qN r=true->Anc E i a->zp al a<K2:=by
     intro d
     induction d with
     | zero =>
      intro K1 M1 hd s;refine ⟨K1,M1,s,λa r hr hre _=>?_⟩;have:=kL hr hre (jb hr) (Nat.le_refl _);omega
     | succ d ihd =>
      intro K1 M1 hd s;by_cases hex:∃ (a:Nat) (r:AOper),al[a]? = some r/\qN r=true/\Anc E i a/\K1<=zp al a
      ·obtain ⟨a,r,hr,hre,ha,hKa⟩:=hex;have hat:=kL hr hre (jb hr) (Nat.le_refl _);obtain ⟨j,q',hjn,hq',hqe,hjK⟩:=WQ al al.length K1 (Nat.le_refl _) (by omega);have hja:j=a∨j<a:=by
        rcases Nat.lt_trichotomy j a with hh|hh|hh
        ·exact .inr hh
        ·exact .inl hh
        ·have:=kL hr hre hh (Nat.le_of_lt (jb hq')); omega
       have hLj:isL qo j=true:=by
        rcases hja with rfl|hja
        ·exact hanc _ ha
        ·exact hanc j ((R.anc i a j p r q' hp hcl hr hre hq' hqe ha hja).resolve_right hspec)
       obtain ⟨M2,s2⟩:=s.qgJ R hm0 hq' hqe hjK hLj;exact ihd (K1+1) M2 (by omega) s2
      ·refine ⟨K1,M1,s,λa r hr hre ha=>?_⟩;rcases Nat.lt_or_ge (zp al a) K1 with hh|hh
       ·exact hh
       ·exact absurd ⟨a,r,hr,hre,ha,hh⟩ hex
    exact key _ K0 M rfl hst
   obtain ⟨K1,M1,s1,hK1⟩:=hto;have hlo:=R.lo_le i K1 hK1;have hhi:=R.le_hi i K1 hil s1.le (λa r hr hre hlt=>hdesc a (s1.done a r hr hre hlt));obtain ⟨M2,hM2,hrun⟩:=hall _ hlo hhi;rw [s1.at_] at hM2; cases hM2
   rw [<- yD hagS] at hq;have hs:zA call ts M1 p.op=some (V i,M1):=by rw [zJ call ts M1 (Qj hq)]; exact Qd hq hrun
   refine jh hc0 hg hpr' s1.inv hvr hs ?_;intro V' w' φ' h1 h2 h3;exact fin V' w' φ' M1 K1 h3.ren h1 (quiet he (s1.move h2 h3))
  | pure =>
   have he:qN p=false:=by simp [qN,hcl]
   have hnf:¬ ∃ b,p.op=.floAt b (yZ P o)/\yK o.op=true:=by
    rintro ⟨b,hfo,_⟩; rw [hfo] at hcl; cases hcl
   have hpr':=(hpr.resolve_right hnf).1;have hall:=R.pure i p hp hwant hcl M;have hnc:p.op.vC=false:=by
    cases hop:p.op<;>rw [hop] at hcl<;>first|rfl|simp [AOp.cls] at hcl
   have hs:zA call ts M p.op=some (V i,M):=by rw [jr call M hagS,zJ call _ M hnc]; exact hall
   refine jh hc0 hg hpr' hst.inv hvr hs ?_;intro V' w' φ' h1 h2 h3;exact fin V' w' φ' M K0 h3.ren h1 (quiet he (hst.move h2 h3))
theorem RgF.any {ro:Option Nat} (hc:CallOk P call) (hg:∀ f args m r,f<yBase->call f args m=some r->zX P f=true) (R:RgF P call ops al E lo hi ms ts0 T V base) {φ0:Ren} {m0:Mem} {w0:World} {a0:Act} {Q:Exit->Act->World->Prop} (hm0:m0.next<=base)
  (hQ:∀ φ a w M,VRs φ (T al.length) a.tmps.toList->ms[zp al al.length]? = some M->Inv φ M w->Frm φ0 m0 w0 φ M w->a.defers=a0.defers->Q .normal a w) :
  ∀ (fuel:Nat) (qo:Array Bool) (a:Act) (w:World),left qo al.length=fuel->JF al E ms ts0 T V φ0 m0 w0 a0 qo a w->wpAnyIn (rf ro) 0 P .any ops Q fuel qo a w:=by
 have done:∀ (qo:Array Bool) (a:Act) (w:World),left qo al.length=0->JF al E ms ts0 T V φ0 m0 w0 a0 qo a w->Region.ready .any ops qo=[]/\Q .normal a w:=by
  intro qo a w h0 h;have hall:∀ i,i<al.length->isL qo i=true:=by
   intro i hi;unfold left at h0;have:=List.length_eq_zero_iff.1 h0;rw [List.filter_eq_nil_iff] at this;simpa using this i (by simpa using hi)
  refine ⟨?_,?_⟩
  ·apply List.eq_nil_iff_forall_not_mem.2;intro i hr;obtain ⟨hi1,hi2,_⟩:=kE hr;have:=hall i (by rw [R.len]; exact hi1);rw [yO hi2] at this; cases this
  ·obtain ⟨φ,ts,M,K,hvr,hst,hdef,f1,f2,f3⟩:=h.st;obtain ⟨g1,g2,g3⟩:=R.fr al.length (Nat.le_refl _);have hts:ts=T al.length:=by
    apply List.ext_getElem?;intro d;by_cases hlt:d<ts0.length
    ·by_cases hex:∃ j,xz al j=some d
     ·obtain ⟨j,hj⟩:=hex;have hjl:j<al.length:=by
       rcases Nat.lt_or_ge j al.length with h'|h'
       ·exact h'
       ·simp [xz,List.getElem?_eq_none h'] at hj
      rw [f2 j d (hall j hjl) hj hlt,g2 j d (by simpa using hjl) hj hlt]
     ·rw [f3 d (λk _ hk=>hex ⟨k,hk⟩),g3 d (λk _ hk=>hex ⟨k,hk⟩)]
    ·rw [List.getElem?_eq_none (by omega),List.getElem?_eq_none (by omega)]
   obtain ⟨M',s⟩:=hst.ZY R hm0 (zp al al.length - K) K M (by have:=hst.le; omega) (λi o ho _ _=>hall i (jb ho));rw [show K+(zp al al.length - K)=zp al al.length by have:=hst.le; omega] at s;exact hQ φ a w M' (hts ▸ hvr) s.at_ s.inv s.frm hdef
 intro fuel
 induction fuel with
 | zero=>intro qo a w h0 h; exact done qo a w h0 h
 | succ fuel ih =>
  intro qo a w hf h;refine ⟨λhnil=>?_,λi hr=>?_⟩
  ·exfalso;have hex:∃ i,i<al.length/\isL qo i=false/\∀ j,j<i->isL qo j=true:=by
    have hne:∃ i,i<al.length/\isL qo i=false:=by
     unfold left at hf;cases hl:(List.range al.length).filter (λi=>!isL qo i) with
     | nil=>rw [hl] at hf; simp at hf
     | cons x l =>
      have:x∈(List.range al.length).filter (λi=>!isL qo i):=by rw [hl]; exact List.mem_cons_self ..
      simp only [List.mem_filter,List.mem_range,Bool.not_eq_true'] at this;exact ⟨x,this⟩
    obtain ⟨i,h1,h2⟩:=hne
    induction i using Nat.strongRecOn with
    | _ i ihi =>
     by_cases hm:∀ j,j<i->isL qo j=true
     ·exact ⟨i,h1,h2,hm⟩
     ·have:∃ j,j<i/\isL qo j=false:=by
       apply Classical.byContradiction;intro hn;apply hm;intro j hj;cases hh:isL qo j with
       | true=>rfl
       | false=>exact absurd ⟨j,hj,hh⟩ hn
      obtain ⟨j,hj,hj2⟩:=this;exact ihi j hj (by omega) hj2
   obtain ⟨i,h1,h2,h3⟩:=hex;have hi1:i<ops.size:=by rw [<- R.len]; exact h1
   have ho:ops[i]? = some ops[i]:=Array.getElem?_eq_getElem hi1;have hmem:i∈Region.ready .any ops qo:=by
    refine Hl ho ?_ (λe he hb=>?_)
    ·have:i<qo.size:=by rw [h.sz]; exact h1
     unfold isL at h2;simp [this] at h2 ⊢; exact h2
    ·have hmemE:e.on∈E i:=by
      rw [R.edges i _ ho];simp only [zR,List.mem_filterMap];exact ⟨e,by simpa using he,by rw [if_pos hb]⟩
     exact h3 e.on (R.lt i e.on hmemE)
   rw [hnil] at hmem; cases hmem
  ·have hi:=kE hr;refine R.step hc hg hm0 h hr (λa' w' h'=>ih _ a' w' ?_ h');have:=Hw (n:=al.length) (qo:=qo) (i:=i) (by rw [h.sz,R.len]; exact hi.1) (by rw [R.len]; exact hi.1) (yO hi.2.1);omega
end
theorem yn (acc:List Nat) (j:Nat):∀ (es:List Nat) (s:Nat),(s.testBit j=true∨∃ e∈es,e=j∨(acc[e]?.getD 0).testBit j=true)->(es.foldl (λs e=>s ||| 2 ^ e ||| acc[e]?.getD 0) s).testBit j=true
 | [],s,h=>by
  rcases h with h|⟨e,he,_⟩
  ·exact h
  ·cases he
 | e::es,s,h=>by
  simp only [List.foldl_cons];refine yn acc j es _ ?_;rcases h with h|⟨e',he',h⟩
  ·exact .inl (by simp [Nat.testBit_or,h])
  ·rcases lcI.1 he' with rfl|he'
   ·rcases h with rfl|h
    ·exact .inl (by simp [Nat.testBit_or,Nat.testBit_two_pow])
    ·exact .inl (by simp [Nat.testBit_or,h])
   ·exact .inr ⟨e',he',h⟩
theorem JQ:∀ (l:List (List Nat)) (acc:List Nat) (i:Nat) (es:List Nat),l[i]? = some es->∃ acc':List Nat,(l.foldl xd acc)[acc.length+i]? = some (es.foldl (λs e=>s ||| 2 ^ e ||| acc'[e]?.getD 0) 0)/\acc'.length=acc.length+i/\∀ k,k<acc.length+i->(l.foldl xd acc)[k]? = acc'[k]?
 | [],acc,i,es,h=>by simp at h
 | x::l,acc,i,es,h=>by
  have zL:∀ (l:List (List Nat)) (acc:List Nat) (k:Nat),k<acc.length->(l.foldl xd acc)[k]? = acc[k]?:=by
   intro l
   induction l with
   | nil=>intro acc k _; rfl
   | cons y l ih =>
    intro acc k hk;simp only [List.foldl_cons];rw [ih _ k (by simp [xd]; omega)];simp only [xd];rw [List.getElem?_append_left hk]
  simp only [List.foldl_cons];cases i with
  | zero =>
   simp at h; subst h;refine ⟨acc,?_,by simp,λk hk=>?_⟩
   ·rw [zL _ _ _ (by simp [xd])];simp [xd]
   ·rw [zL _ _ _ (by simp [xd]; omega)];simp only [xd];rw [List.getElem?_append_left (by omega)]
  | succ i =>
   obtain ⟨acc',h1,h2,h3⟩:=JQ l (xd acc x) i es (by simpa using h);have hl:(xd acc x).length=acc.length+1:=by simp [xd]
   rw [hl] at h1 h2 h3;exact ⟨acc',by rw [show acc.length+(i+1)=acc.length+1+i by omega]; exact h1,by omega,λk hk=>h3 k (by omega)⟩
theorem VI {es:List (List Nat)} (hlt:∀ (i e:Nat),e∈es[i]?.getD []->e<i) {i j:Nat} (h:Anc (λi=>es[i]?.getD []) i j):((xy es)[i]?.getD 0).testBit j=true:=by
 have hit:∀ (i e:Nat),e∈es[i]?.getD []->∀ j,(e=j∨((xy es)[e]?.getD 0).testBit j=true)->((xy es)[i]?.getD 0).testBit j=true:=by
  intro i e he j hj;cases hes:es[i]? with
  | none=>rw [hes] at he; cases he
  | some l =>
   rw [hes] at he;obtain ⟨acc',h1,h2,h3⟩:=JQ es [] i l hes;simp only [List.length_nil,Nat.zero_add] at h1 h2 h3;unfold xy;rw [h1];simp only [Option.getD_some];refine yn acc' j l 0 (.inr ⟨e,he,?_⟩);refine hj.imp id λhj=>?_
   have:=hlt i e (by rw [hes]; exact he);rw [<- h3 e this]; exact hj
 induction h with
 | base h=>exact hit _ _ h _ (.inl rfl)
 | step h _ ih=>exact hit _ _ h _ (.inr ih)
def Vp:AOp->Bool
 | .flo _ _|.floAt _ _=>true
 | _=>false
def jA (b:Nat) (o:AOper):AOper:=match o.op with
 | .flo j a=>{ o with op:=.floAt (b+j) a }
 | _=>o
def mkF (p:Nat->Bool):Nat->List AOper->List AOper
 | _,[]=>[]
 | i,o::r=>(if p i then { o with op:=.flo i o.op } else o)::mkF p (i+1) r
theorem Wy (p:Nat->Bool):∀ (l:List AOper) (k i:Nat),(mkF p k l)[i]? = (l[i]?).map λo=>if p (k+i) then { o with op:=.flo (k+i) o.op } else o
 | [],k,i=>by simp [mkF]
 | o::r,k,0=>by simp [mkF]
 | o::r,k,i+1=>by simp only [mkF,List.getElem?_cons_succ,Wy p r (k+1) i]; rw [show k+1+i=k+(i+1) by omega]
def KN (ops:Array Oper) (al:List AOper) (ms:List Nat) (i:Nat):Bool :=
 (match ops[i]? with|some o=>yK o.op|none=>false)&&(List.range i).any λq=>(match al[q]? with|some p=>qN p|none=>false)&&!(ms[i]?.getD 0).testBit q
def Vx (al:List AOper) (i:Nat):Bool:=match al[i]? with|some p=>qN p|none=>false
def qiD (ms:List Nat) (ops:List AOper) (i:Nat) (o:AOper):Bool:=match o.op,o.guard with
 | .b2s (.tmp t),none=>(List.range ops.length).any λj =>
   (match ops[j]? with|some p=>(match p.op,p.guard with|.flo _ (.buildSlice _ _ _ _),none=>p.dst == some t|_,_=>false)|none=>false)&&(ms[i]?.getD 0).testBit j &&
    (List.range ops.length).all λa=>!(Vx ops a)||!(ms[i]?.getD 0).testBit a||decide (a<=j)
 | _,_=>false
def QL (ms:List Nat) (ops:List AOper) (o p:AOper) (i j:Nat):Bool :=
  (match p.dst with
   | some t=>(!(o.looks.contains t)||(ms[i]?.getD 0).testBit j||(ms[j]?.getD 0).testBit i)&&o.dst != some t
   | none=>true) &&
  (!(qN o&&qN p&&decide (i<j))||(ms[j]?.getD 0).testBit i||Vp p.op) &&
  (!(decide (o.op.cls=.read)&&qN p&&(ms[i]?.getD 0).testBit j)||((List.range j).all λq=>!(Vx ops q)||(ms[i]?.getD 0).testBit q)||qiD ms ops i o)
def qkf (es:List (List Nat)) (ops:List AOper):Bool :=
 let ms:=xy es
 (List.range ops.length).all λi =>
  ((es[i]?.getD []).all λe=>e<i) &&
  (List.range ops.length).all λj=>i == j||(match ops[i]?,ops[j]? with
   | some o,some p=>QL ms ops o p i j
   | _,_=>false)
def loF (al:List AOper) (ms:List Nat) (i:Nat):Nat:=(List.range al.length).foldl (λs a=>if Vx al a&&(ms[i]?.getD 0).testBit a then max s (zp al a+1) else s) 0
def hiF (al:List AOper) (ms:List Nat) (i:Nat):Nat:=(List.range al.length).foldl (λs a=>if Vx al a&&(ms[a]?.getD 0).testBit i then min s (zp al a) else s) (zp al al.length)
def vD (es:List (List Nat)) (ops:List AOper):List (Nat × Nat):=(List.range ops.length).map λi=>(loF ops (xy es) i,hiF ops (xy es) i)
theorem Zf {p:Nat->Bool} {f:Nat->Nat} {K:Nat}:∀ (l:List Nat) (s:Nat),s<=K->(∀ a∈l,p a=true->f a<=K)->l.foldl (λs a=>if p a then max s (f a) else s) s<=K
 | [],s,hs,_=>hs
 | a::l,s,hs,h=>by
  simp only [List.foldl_cons];refine Zf l _ ?_ (λb hb=>h b (List.mem_cons_of_mem _ hb));split
  ·have:=h a (List.mem_cons_self ..) (by assumption); omega
  ·exact hs
theorem Ze {p:Nat->Bool} {f:Nat->Nat} {K:Nat}:∀ (l:List Nat) (s:Nat),K<=s->(∀ a∈l,p a=true->K<=f a)->K<=l.foldl (λs a=>if p a then min s (f a) else s) s
 | [],s,hs,_=>hs
 | a::l,s,hs,h=>by
  simp only [List.foldl_cons];refine Ze l _ ?_ (λb hb=>h b (List.mem_cons_of_mem _ hb));split
  ·have:=h a (List.mem_cons_self ..) (by assumption); omega
  ·exact hs
theorem Jw (b:Nat) (o:AOper):(jA b o).looks=o.looks:=by
 obtain ⟨d,op,g⟩:=o;cases op<;>rfl
theorem QH (b:Nat) (o:AOper):(jA b o).dst=o.dst:=by
 obtain ⟨d,op,g⟩:=o;cases op<;>rfl
theorem Jx (b:Nat) (o:AOper):(jA b o).guard=o.guard:=by
 obtain ⟨d,op,g⟩:=o;cases op<;>rfl
theorem YV (b:Nat) (o:AOper):(jA b o).op.cls=o.op.cls:=by
 obtain ⟨d,op,g⟩:=o;cases op<;>rfl
theorem vX (b:Nat) (o:AOper):qN (jA b o)=qN o:=by simp [qN,YV]
theorem yR (b:Nat):∀ (l:List AOper) (i:Nat),zp (l.map (jA b)) i=zp l i
 | [],i=>by simp [zp]
 | o::r,0=>by simp [zp]
 | o::r,i+1=>by simp [zp,vX,yR b r i]
theorem YP {ro:Option Nat} {P:Program} {call:zj} (hc:CallOk P call) (hg:∀ f args m r,f<yBase->call f args m=some r->zX P f=true) (hm:P.follows .mixedOrders=true) {id:Nat} {ops:Array Oper} {al0 al:List AOper} {ts:List Value} {m:Mem} {a:Act} {w:World} {φ:Ren} {ts':List Value} {m':Mem} {Q:Exit->Act->World->Prop}
  (hal0:kg P ops ops.toList=some al0) (hal:al=mkF (KN ops al0 (xy (ops.toList.map zR))) 0 al0) (hnf:al0.all (λo=>!Vp o.op)=true) (hd:qkf (ops.toList.map zR) al=true) (hi:Inv φ m w) (ht:VRs φ ts a.tmps.toList) (hr:kQ call (al.map (jA m.next)) (vD (ops.toList.map zR) al) ts (m.zu al.length)=some (ts',m'))
  (hQ:∀ a' w',St φ m w a ts' m' a' w'->Q .normal a' w'):(Code.region id ops true).wpIn (rf ro) 0 P Q a w:=by
 simp only [kQ,bsI] at hr;obtain ⟨⟨ts1,m1,ms,rq⟩,htr,hr⟩:=hr;split at hr
 ·rename_i hok;cases hr
  obtain ⟨T,V,hT0,hTn,hms0,hmsn,hfact⟩:=facts call (al.map (jA m.next)) _ ts (m.zu al.length) _ _ ms rq htr;obtain ⟨hlen0,hops⟩:=yt hal0;have hlen':al0.length=ops.size:=by rw [hlen0]; simp
  have mkl:∀ (p:Nat->Bool) (l:List AOper) (k:Nat),(mkF p k l).length=l.length:=by
   intro p l
   induction l with
   | nil=>intro k; rfl
   | cons o r ih=>intro k; simp [mkF,ih]
  have hal1:al.length=al0.length:=by rw [hal,mkl]
  generalize hes:ops.toList.map zR=es at hal hd htr hfact;have hE:∀ (i:Nat) o,ops[i]? = some o->es[i]?.getD []=zR o:=by
   intro i o ho;rw [<- hes]; simp [ho]
  have hesl:es.length=al.length:=by rw [<- hes,hal1,hlen']; simp
  have hEn:∀ (i:Nat),al.length<=i->es[i]?.getD []=[]:=by
   intro i hi;rw [List.getElem?_eq_none (by omega)]; rfl
  have hanc:∀ i k,(xy es)[i]? = some k->∀ j,k.testBit j=true->Anc (λi=>es[i]?.getD []) i j :=
   Vl (λi=>es[i]?.getD []) es [] (λi x hx=>by simp [hx]) (λi k h=>by simp at h)
  have hanc':∀ i j,((xy es)[i]?.getD 0).testBit j=true->Anc (λi=>es[i]?.getD []) i j:=by
   intro i j h;cases hk:(xy es)[i]? with
   | none=>rw [hk] at h; simp at h
   | some k=>rw [hk] at h; exact hanc i k hk j h
  unfold qkf at hd;simp only [List.all_eq_true,List.mem_range,baI,Bool.or_eq_true,beq_iff_eq,decide_eq_true_eq] at hd;have hlt:∀ (i e:Nat),e∈es[i]?.getD []->e<i:=by
   intro i e he;rcases Nat.lt_or_ge i al.length with h'|h'
   ·exact (hd i h').1 e he
   ·rw [hEn i h'] at he; cases he
  have hat:∀ (i:Nat) q,(al.map (jA m.next))[i]? = some q->∃ p,al[i]? = some p/\q=jA m.next p:=by
   intro i q hq;simp only [List.getElem?_map,msI] at hq;obtain ⟨p,hp,rfl⟩:=hq;exact ⟨p,hp,rfl⟩
  have hnoflo:∀ (i:Nat) p,al0[i]? = some p->Vp p.op=false:=by
   intro i p hp;have:=List.all_eq_true.1 hnf p (List.mem_of_getElem? hp);simpa using this
  have hal0i:∀ (i:Nat) q,al[i]? = some q->∃ p,al0[i]? = some p/\((KN ops al0 (xy es) i=true/\q={ p with op:=.flo i p.op })∨(KN ops al0 (xy es) i=false/\q=p)):=by
   intro i q hq;rw [hal,Wy] at hq;simp only [Nat.zero_add,msI] at hq;obtain ⟨p,hp,rfl⟩:=hq;refine ⟨p,hp,?_⟩;cases KN ops al0 (xy es) i
   ·exact .inr ⟨rfl,rfl⟩
   ·exact .inl ⟨rfl,rfl⟩
  have hfloAt:∀ (i:Nat) q b ao,(al.map (jA m.next))[i]? = some q->q.op=.floAt b ao->b=m.next+i/\i<al.length:=by
   intro i q b ao hq hqo;obtain ⟨p,hp,rfl⟩:=hat i q hq;obtain ⟨p0,hp0,⟨_,rfl⟩|⟨_,rfl⟩⟩:=hal0i i p hp
   ·simp only [jA,AOp.floAt.injEq] at hqo;exact ⟨hqo.1.symm,jb hp⟩
   ·have:=hnoflo i p hp0;obtain ⟨d,op,g⟩:=p;cases op<;>simp only [jA,Vp] at hqo this<;>first|(cases hqo; done)|(cases this; done)
  have hpair:∀ (i j:Nat) (o p:AOper),i≠j->al[i]? = some o->al[j]? = some p->QL (xy es) al o p i j=true:=λi j o p hij ho hp=>by
   have h2:=(hd i (jb ho)).2 j (jb hp);rcases h2 with h|h
   ·exact absurd h hij
   ·rw [ho,hp] at h; exact h
  have effAt_eq:∀ (i:Nat) p,al[i]? = some p->Vx al i=qN p:=by intro i p hp; simp [Vx,hp]
  have R:RgF P call ops (al.map (jA m.next)) (λi=>es[i]?.getD []) (λi=>((vD es al)[i]?.getD (0,0)).1) (λi=>((vD es al)[i]?.getD (0,0)).2) ms ts T V m.next:=by
   have hdl:∀ i,i<al.length->(vD es al)[i]?.getD (0,0)=(loF al (xy es) i,hiF al (xy es) i):=by
    intro i hi; simp [vD,hi]
   refine ⟨by simp [hal1,hlen'],λi o ho=>?_,λi o ho=>hE i o ho,hlt,λi j o p t hij ho hp hpt=>?_,λi j o p hij ho hp hoe hpe=>?_,λi a q o p r ho hcl hp hpe hr hre ha hqa=>?_,λi K hK=>?_,λi K hil hle hK=>?_,λi j o p b b' ao ao' hij ho hp hoo hpo=>?_,λi o b ao ho hoo=>?_,hT0,λi o ho=>(hfact i o ho).1,λi o ho hw hcl=>?_,λi o ho hw hcl=>?_,λi o ho hw hcl=>?_,λi o ho hw=>?_⟩
   ·obtain ⟨p0,hp0,hd0,hr0,hg0⟩:=hops i o (by simpa using ho);have hq:al[i]? = some (if KN ops al0 (xy es) i then { p0 with op:=.flo i p0.op } else p0):=by
     rw [hal,Wy,hp0]; simp
    cases hfp:KN ops al0 (xy es) i with
    | true =>
     rw [hfp] at hq;refine ⟨⟨p0.dst,.floAt (m.next+i) p0.op,p0.guard⟩,by rw [List.getElem?_map,hq]; rfl,hd0,.inr ⟨m.next+i,by rw [hr0],?_⟩,hg0⟩;simp only [KN,baI] at hfp;have:=hfp.1;rw [ho] at this; exact this
    | false =>
     rw [hfp] at hq;have hnf0:=hnoflo i p0 hp0;have hs:jA m.next p0=p0:=by
      obtain ⟨d,op,g⟩:=p0;cases op<;>simp only [Vp] at hnf0<;>first|rfl|(cases hnf0; done)
     refine ⟨p0,by rw [List.getElem?_map,hq]; simp [hs],hd0,.inl ⟨hr0,λb ao h=>?_⟩,hg0⟩;rw [h] at hnf0; cases hnf0
   ·obtain ⟨o',ho',rfl⟩:=hat i o ho;obtain ⟨p',hp',rfl⟩:=hat j p hp;have:=hpair i j o' p' hij ho' hp';rw [QH] at hpt;rw [Jw,QH];simp only [QL,hpt,baI,Bool.or_eq_true,Bool.not_eq_true',bne_iff_ne,ne_eq] at this;refine ⟨λhmem=>?_,this.1.1.2⟩;rcases this.1.1.1 with (h|h)|h
    ·rw [List.contains_eq_mem] at h; simp [hmem] at h
    ·exact .inl (hanc' i j h)
    ·exact .inr (hanc' j i h)
   ·obtain ⟨o',ho',rfl⟩:=hat i o ho;obtain ⟨p',hp',rfl⟩:=hat j p hp;have:=hpair i j o' p' (by omega) ho' hp';rw [vX] at hoe hpe;simp only [QL,baI,Bool.or_eq_true,Bool.not_eq_true',Bool.and_eq_false_iff,decide_eq_false_iff_not] at this;rcases this.1.2 with ((h|h)|h)
    ·rcases h with (h|h)|h
     ·rw [hoe] at h; cases h
     ·rw [hpe] at h; cases h
     ·exact absurd hij h
    ·exact .inl (hanc' j i h)
    ·right;obtain ⟨d,op,g⟩:=p';obtain ⟨p0,hp0,⟨_,hq⟩|⟨_,hq⟩⟩:=hal0i j _ hp'
     ·cases hq; exact ⟨_,_,rfl⟩
     ·rw [<- hq] at hp0;have:=hnoflo j _ hp0;simp only at h this;rw [h] at this; cases this
   ·obtain ⟨o',ho',rfl⟩:=hat i o ho;obtain ⟨p',hp',rfl⟩:=hat a p hp;obtain ⟨r',hr',rfl⟩:=hat q r hr;have hia:i≠a:=by rintro rfl; exact absurd (ha.lt hlt) (Nat.lt_irrefl _)
    have:=hpair i a o' p' hia ho' hp';rw [vX] at hpe hre;rw [YV] at hcl;simp only [QL,baI,Bool.or_eq_true,Bool.not_eq_true',Bool.and_eq_false_iff,decide_eq_false_iff_not,List.all_eq_true,List.mem_range] at this;rcases this.2 with (((h|h)|h)|h)|h
    ·exact absurd hcl h
    ·rw [hpe] at h; cases h
    ·rw [VI hlt ha] at h; cases h
    ·rcases h q hqa with h|h
     ·rw [effAt_eq q r' hr',hre] at h; cases h
     ·exact .inl (hanc' i q h)
    ·right;unfold qiD at h;split at h
     ·rename_i t hop hgd;simp only [List.any_eq_true,List.mem_range,baI,List.all_eq_true,Bool.or_eq_true,Bool.not_eq_true',decide_eq_true_eq] at h;obtain ⟨j,hjl,⟨h1,h2⟩,h3⟩:=h;split at h1
      ·rename_i r2 hr2;split at h1
       ·rename_i f e n z ps hop2 hgd2;have hd2:r2.dst=some t:=by simpa using h1
        refine ⟨j,t,jA m.next o',jA m.next r2,m.next+f,e,n,z,ps,ho,?_,by rw [Jx]; exact hgd,by rw [List.getElem?_map,hr2]; rfl,?_,by rw [Jx]; exact hgd2,by rw [QH]; exact hd2,hanc' i j h2,λa2 q2 hq2 hqe2 ha2=>?_⟩
        ·simp only [jA,hop]
        ·simp only [jA,hop2]
        ·obtain ⟨q3,hq3,rfl⟩:=hat a2 q2 hq2;rw [vX] at hqe2;rcases h3 a2 (jb hq3) with (h|h)|h
         ·rw [effAt_eq a2 q3 hq3,hqe2] at h; cases h
         ·rw [VI hlt ha2] at h; cases h
         ·exact h
       ·cases h1
      ·cases h1
     ·cases h
   ·rcases Nat.lt_or_ge i al.length with hil|hil
    ·rw [hdl i hil];refine Zf _ _ (Nat.zero_le _) (λa ha hp=>?_);simp only [baI] at hp;have hal:a<al.length:=by simpa using ha
     have hpa:al[a]? = some al[a]:=List.getElem?_eq_getElem hal;have he:qN al[a]=true:=by rw [<- effAt_eq a _ hpa]; exact hp.1
     have:=hK a (jA m.next al[a]) (by rw [List.getElem?_map,hpa]; rfl) (by rw [vX]; exact he) (hanc' i a hp.2);rw [yR] at this; omega
    ·have:(vD es al)[i]? = none:=List.getElem?_eq_none (by simp [vD]; omega);simp [this]
   ·have hil:i<al.length:=by simpa using hil
    rw [hdl i hil];rw [yR,List.length_map] at hle;refine Ze _ _ hle (λa ha hp=>?_);simp only [baI] at hp;have hal:a<al.length:=by simpa using ha
    have hpa:al[a]? = some al[a]:=List.getElem?_eq_getElem hal;have he:qN al[a]=true:=by rw [<- effAt_eq a _ hpa]; exact hp.1
    rcases Nat.lt_or_ge (zp al a) K with h|h
    ·exact absurd (hanc' a i hp.2) (hK a (jA m.next al[a]) (by rw [List.getElem?_map,hpa]; rfl) (by rw [vX]; exact he) (by rw [yR]; exact h))
    ·exact h
   ·have h1:=(hfloAt i o b ao ho hoo).1;have h2:=(hfloAt j p b' ao' hp hpo).1;omega
   ·have h1:=(hfloAt i o b ao ho hoo).1;omega
   ·rcases (hfact i o ho).2 with ⟨_,h2,_,_⟩|⟨h1,_⟩
    ·exact h2 hcl
    ·rw [hw] at h1; cases h1
   ·rcases (hfact i o ho).2 with ⟨_,_,h3,_⟩|⟨h1,_⟩
    ·obtain ⟨q,hq,hmem⟩:=h3 hcl;refine ⟨q,hq,λk hk1 hk2=>?_⟩;have:=List.all_eq_true.1 hok _ hmem;simp only [wU,List.all_eq_true,List.mem_range] at this;have hk:=this (k - ((vD es al)[i]?.getD (0,0)).1) (by omega);rw [show ((vD es al)[i]?.getD (0,0)).1+(k - ((vD es al)[i]?.getD (0,0)).1)=k by omega] at hk;split at hk
     ·rename_i M hM;split at hk
      ·rename_i u hu;have:=veq_eq _ _ hk;subst this;exact ⟨M,hM,hu⟩
      ·cases hk
     ·cases hk
    ·rw [hw] at h1; cases h1
   ·rcases (hfact i o ho).2 with ⟨_,_,_,h4⟩|⟨h1,_⟩
    ·exact h4 hcl
    ·rw [hw] at h1; cases h1
   ·rcases (hfact i o ho).2 with ⟨h1,_⟩|⟨_,h2,h3⟩
    ·rw [hw] at h1; cases h1
    ·exact ⟨h2,h3⟩
  refine wpIn_region_any hm ?_;have hln:(al.map (jA m.next)).length=ops.size:=by simp [hal1,hlen']
  have hleft:left (Array.replicate ops.size false) (al.map (jA m.next)).length=ops.size:=by
   unfold left;have:(List.range (al.map (jA m.next)).length).filter (λi=>!isL (Array.replicate ops.size false) i)=List.range (al.map (jA m.next)).length:=by
    rw [List.filter_eq_self];intro i hi;have hi':i<ops.size:=by rw [<- hln]; simpa using hi
    simp [isL,hi']
   rw [this,List.length_range,hln]
  refine R.any (φ0:=φ) (m0:=m) (w0:=w) (a0:=a) hc hg (Nat.le_refl _) (λφ' a' w' M h1 h2 h3 h4 h5=>?_) ops.size _ a _ hleft ?_
  ·rw [hTn] at h1;rw [hmsn] at h2; cases h2
   exact hQ a' w' ⟨φ',h1,h3,h4,h5⟩
  ·have hnone:∀ i,isL (Array.replicate ops.size false) i=false:=by
    intro i;unfold isL;rcases Nat.lt_or_ge i ops.size with h|h
    ·simp [h]
    ·simp [h]
   have hib:Inv φ (m.zu al.length) w:=⟨hi.live,hi.apart,λb l hl=>by have:=hi.below b l hl; exact ⟨by simp; omega,this.2⟩⟩;refine ⟨by simp [hal1,hlen'],(λx hx=>absurd hx (by rw [hnone x]; decide)),φ,ts,m.zu al.length,0,ht,⟨hib.drawn rfl,?_,hms0,Nat.zero_le _,λi o _ _ h=>absurd h (Nat.not_lt_zero _),λi o _ _ h=>absurd h (by rw [hnone i]; decide),λi o b ao ho hoo _=>?_,λi o b ao ho hoo=>?_,λi j o p b b' ao ao' l l' _ _ _ _ _ h=>absurd h (by rw [hnone i]; decide)⟩,rfl,rfl,(λi d h=>absurd h (by rw [hnone i]; decide)),λd _=>rfl⟩
   ·have f:=Frm.drawn (φ:=φ) (m:=m) (w:=w) (w':=w) rfl rfl rfl rfl;exact ⟨Ren.le_refl φ,Nat.le_refl _,λ_ _ _=>rfl,λb x l hb hl hr=>.inr ⟨b,x,l,hb,hl,hr,rfl⟩,rfl,rfl,rfl,by simp,λ_ _=>rfl,λ_ _ h=>h,λb x l hb hl=>.inr ⟨b,x,l,hb,hl,rfl⟩⟩
   ·obtain ⟨rfl,_⟩:=hfloAt i o b ao ho hoo;refine ⟨?_,?_⟩
    ·cases h:φ (m.next+i) with
     | none=>rfl
     | some l=>have:=(hi.below _ l h).1; omega
    ·show m.get (m.next+i)=none;cases h:m.get (m.next+i) with
     | none=>rfl
     | some x =>
      obtain ⟨l,hl,_⟩:=hi.live _ x h;have:=(hi.below _ l hl).1; omega
   ·obtain ⟨rfl,h⟩:=hfloAt i o b ao ho hoo;simp; omega
 ·cases hr
end Go.Fx
