/- Parts of a proof: TreeFr, TreeFs, DuI, DuJ. Conditions: none. -/
import Derived.Test.YtbhdhhgpfanmcaaGreatDoorQw22
set_option linter.unusedSimpArgs false
set_option linter.unusedVariables false
namespace Go.Fx.Tryz
open Go Go.Fx
abbrev z64:List Value:=xx.flat (qp 64)
theorem qiL:([.int .u8 0,.int .u8 0,.int .u8 0,.int .u8 0,.int .u8 0,.int .u8 0,.int .u8 0,.int .u8 0,.int .u8 0,.int .u8 0,.int .u8 0,.int .u8 0,.int .u8 0,.int .u8 0,.int .u8 0,.int .u8 0,.int .u8 0,.int .u8 0,.int .u8 0,.int .u8 0,.int .u8 0,.int .u8 0,.int .u8 0,.int .u8 0,.int .u8 0,.int .u8 0,.int .u8 0,.int .u8 0,.int .u8 0,.int .u8 0,.int .u8 0,.int .u8 0,.int .u8 0,.int .u8 0,.int .u8 0,.int .u8 0,.int .u8 0,.int .u8 0,.int .u8 0,.int .u8 0,.int .u8 0,.int .u8 0,.int .u8 0,.int .u8 0,.int .u8 0,.int .u8 0,.int .u8 0,.int .u8 0,.int .u8 0,.int .u8 0,.int .u8 0,.int .u8 0,.int .u8 0,.int .u8 0,.int .u8 0,.int .u8 0,.int .u8 0,.int .u8 0,.int .u8 0,.int .u8 0,.int .u8 0,.int .u8 0,.int .u8 0,.int .u8 0]:List Value)=z64:=by kernel_rfl
def encZ:Enc Unit:=⟨64,λ_=>z64,λ_=>by kernel_rfl,λ_=>by kernel_rfl⟩
theorem qdT:encZ.size=64:=rfl
theorem qdU (n:Nat):encZ.flat (List.replicate n ())=(List.replicate n z64).flatten:=by simp [Enc.flat,encZ]
theorem slA {m:Mem} {b n off:Nat} {c:List Value} {e:TypeId} (hk:m.get b=some ⟨.cells c e,false,none⟩):xX n 1 (.pointer (some ⟨b,off,none⟩)) none none m=some (.slice (some ⟨b,off,none⟩) n n):=by
 have:m.known b=.exact:=by simp [Mem.known,hk]
 simp [xX,jV,zz,xB,this]
structure Dv (d sb um N:Nat) (m:Mem):Prop where
 hd:∃ a b,m.get d=some ⟨.cells [.slice (some ⟨sb,0,none⟩) N N,.map (some um),a,b] 123,false,none⟩
 hs:m.get sb=some ⟨.cells (encZ.flat (List.replicate N ())) 217,false,none⟩
 hu:m.get um=some ⟨.map [] 0,false,none⟩
 lt:d<m.next/\sb<m.next/\um<m.next
theorem Dv.upd {d sb um N:Nat} {m m':Mem} {fp:List Nat} (h:Dv d sb um N m) (hu:Upd fp m m') (hf:∀ b∈fp,b≠d/\b≠sb/\b≠um):Dv d sb um N m':=by
 obtain ⟨a,b,hd⟩:=h.hd;have hn:=hu.next;obtain ⟨l1,l2,l3⟩:=h.lt;exact ⟨⟨a,b,(hu.same d l1 λhm=>(hf _ hm).1 rfl).trans hd⟩,(hu.same sb l2 λhm=>(hf _ hm).2.1 rfl).trans h.hs,(hu.same um l3 λhm=>(hf _ hm).2.2 rfl).trans h.hu,by omega,by omega,by omega⟩
theorem Dv.qn {d sb um N:Nat} {m m':Mem} (h:Dv d sb um N m) (hu:Upd [] m m'):Dv d sb um N m':=h.upd hu λb hb=>by cases hb
theorem Dv.tap {d sb um N:Nat} {m:Mem} (h:Dv d sb um N m):TAp encZ 217 m (.slice (some ⟨sb,0,none⟩) N N) (List.replicate N ()) :=
 .inr ⟨sb,N,[],none,by simp,h.lt.2.1,by rw [List.append_nil]; exact h.hs,.inl rfl,by simp,by simp⟩
theorem HK {d sb um N i:Nat} {m:Mem} (h:Dv d sb um N m) (hi:i<N):W (Call S tab 99 [.pointer (some ⟨d,0,none⟩),.int .i64 (i:Int)] m) λr m'=>r=str (qp 64)/\Upd [] m m':=by
 obtain ⟨a,b,hd⟩:=h.hd;have e1:((i:Int)<0)=False:=eq_false (by omega);have e2:((N:Int)<=(i:Int))=False:=eq_false (by omega);have l0:qa (.pointer (some ⟨d,0+0,none⟩)) m=some (.slice (some ⟨sb,0,none⟩) N N):=qm hd rfl;have l1:qa (.pointer (some ⟨d,0+1,none⟩)) m=some (.map (some um)):=qm hd rfl;have el:qd (.slice (some ⟨sb,0,none⟩) N N)=some (.int .i64 (N:Int)):=rfl;have lk:∀ z,zl .int z true (.map (some um)) (.int .i64 (i:Int)) m=some (.tuple #[z,.bool false]):=λz=>by
  have:m.xq um=some ([],0):=by simp [Mem.xq,h.hu]
  simp only [zl,this,bmI]; rfl
 rw [C99];have u1:Upd [] m (m.add ⟨.cells z64 217,false,none⟩):=Upd.add _ _ _;have g1:(m.add ⟨.cells z64 217,false,none⟩).get m.next=some ⟨.cells z64 217,false,none⟩:=Mem.qf ..;have n1:(m.add ⟨.cells z64 217,false,none⟩).next=m.next+1:=rfl;simp only [st0,vJ,e1,nck,fa,l0,el,e2,l1,lk,qiL,xt0,xt1];generalize (m.add ⟨.cells z64 217,false,none⟩)=m1 at u1 g1 n1;have hz:z64.length=64:=by kernel_rfl
 have ha:z64.all (·.oneCell')=true:=by kernel_rfl
 have st:∀ M:Mem,M.get m.next=some ⟨.cells z64 217,false,none⟩->qj 64 (.pointer (some ⟨m.next,0,none⟩)) (.agg z64.toArray) M=some (M.put m.next ⟨.cells z64 217,false,none⟩):=λM g=>by
  have:=jg (v:=.agg z64.toArray) g hz (by simpa [Value.cells] using hz) (by simpa [Value.cells] using ha);simpa [Value.cells] using this
 have h2:Dv d sb um N (m1.put m.next ⟨.cells z64 217,false,none⟩):=(h.qn u1).upd (fp:=[m.next]) (Upd.put _ _ (by simp)) λb hb=>by
  simp at hb; have:=h.lt; omega
 have g2:(m1.put m.next ⟨.cells z64 217,false,none⟩).get m.next=_:=Mem.qe ..;have u2:Upd [] m (m1.put m.next ⟨.cells z64 217,false,none⟩):=u1.ki _ (.inr (Nat.le_refl _));simp only [st0,st m1 g1];have n2:(m1.put m.next ⟨.cells z64 217,false,none⟩).next=m1.next:=rfl;generalize (m1.put m.next ⟨.cells z64 217,false,none⟩)=m2 at h2 g2 u2 n2;obtain ⟨a2,b2,hd2⟩:=h2.hd;have l02:qa (.pointer (some ⟨d,0+0,none⟩)) m2=some (.slice (some ⟨sb,0,none⟩) N N):=qm hd2 rfl;obtain ⟨p,w1,w2,_⟩:=h2.tap.tsl.index .i64 (i:=i) (a:=()) (by simp [hi]);rw [qdT] at w1 w2;have w2:ql 64 p m2=some (.agg z64.toArray):=w2;simp only [st0,l02,w1,w2,st m2 g2,slA (Mem.qe m2 m.next _)];have tb:TSl xx (m2.put m.next ⟨.cells z64 217,false,none⟩) (.slice (some ⟨m.next,0,none⟩) 64 64) (qp 64) :=
  TAp.tsl (e:=217) (.inr ⟨m.next,64,[],none,by rw [xE],by show m.next<m2.next; omega,by rw [List.append_nil]; exact Mem.qe ..,.inl rfl,by rw [xE]; rfl,by rw [xE]; omega⟩)
 simp only [st0,Kn tb];exact ⟨trivial,u2.ki _ (.inr (Nat.le_refl _))⟩
theorem Hp (n j:Nat) (hn:n<=1000) (hj:j<=1000) (m:Mem):Call S tab 55 [.int .i64 (n:Int),.int .i64 (j:Int)] m=some (.int .i64 ((126+4 * n+j:Nat):Int),m):=by
 refine W_eq ?_;have e1:arith .mul (.int .i64 4) (.int .i64 (n:Int))=some (.int .i64 ((4 * n:Nat):Int)):=by
  have h:IntKind.i64.wrap ((4:Int) * (n:Int))=((4 * n:Nat):Int):=by rw [wrap64 (by omega) (by omega)]; omega
  rw [<- h]; rfl
 have e2:arith .add (.int .i64 126) (.int .i64 ((4 * n:Nat):Int))=some (.int .i64 ((126+4 * n:Nat):Int)):=addN (i:=126) (by omega);rw [C55];simp only [st0,e1,e2,addN (i:=126+4 * n) (j:=j) (by omega)];exact ⟨trivial,trivial⟩
theorem qle {lo:Nat} {v:Value} {l:List Bs} (hl:l.length<=1000) (h64:∀ s∈l,s.length=64):∀ (n i:Nat) (m:Mem),l.length - i=n->i<=l.length->RSl lo encS m v l->W (Ku v (.func (.func 181) #[] #[]) (.int .i64 (l.length:Int)) (.int .i64 (i:Int)) m) λr m'=>r=.int .i64 (-1)/\m'=m:=by
 intro n
 induction n with
 | zero =>
  intro i m hd hi h;obtain rfl:i=l.length:=by omega
  rw [P220_0_eq];simp only [st0,Int.lt_irrefl];exact ⟨trivial,trivial⟩
 | succ n ih =>
  intro i m hd hi h;have hlt:i<l.length:=by omega
  have e1:((i:Int)<(l.length:Int))=True:=eq_true (by omega);obtain ⟨pk,y1,y2⟩:=HA h (jB hlt);have e2:((l[i].length:Nat):Int)=64:=by rw [h64 _ (List.getElem_mem hlt)]; rfl
  have e3:decide ((64:Int)=64)=true:=rfl;rw [P220_0_eq];have hc:∀ M,Call S tab 181 [str l[i]] M=some (.bool false,M):=λM=>by
   refine W_eq ?_;rw [qma];simp only [st0,qZ,e2,e3];exact ⟨trivial,trivial⟩
  simp only [st0,e1,y1,y2 m h,VE 181 (by rfl),List.nil_append,List.append_nil,hc,qB (i:=i) (by omega)];exact ih (i+1) m (by omega) hlt h
set_option maxRecDepth 100000 in
theorem qkP:(⟨(Lib.join [(⟨(qp 64).toArray⟩:ByteArray).data.toList,(⟨(qp 64).toArray⟩:ByteArray).data.toList,(⟨(qp 64).toArray⟩:ByteArray).data.toList,(⟨(qp 64).toArray⟩:ByteArray).data.toList] (⟨#[]⟩:ByteArray).data.toList).toArray⟩:ByteArray)=⟨(qp 256).toArray⟩:=by kernel_rfl
theorem qex {m:Mem} {v:Value} (h:TAp encS 9 m v [qp 64,qp 64,qp 64,qp 64]):W (Call S tab 133 [v] m) λr m'=>r=.tuple #[str (qp 256),.int .i64 0]/\m'=m:=by
 have hr:RSl 0 encS m v [qp 64,qp 64,qp 64,qp 64]:=h.rsl λb _=>Nat.zero_le _
 have hl:=zf hr;have d4:decide ((4:Int)=4)=true:=rfl;have hl:qd v=some (.int .i64 4):=hl;have d1:decide ((0:Int)<=-1)=false:=rfl;rw [qmt];simp only [st0,hl,d4,qmb,qlL];have key:=qle (l:=[qp 64,qp 64,qp 64,qp 64]) (by simp) (λs hs=>by
  simp only [lcI,nmI,or_false,or_self] at hs; subst hs; exact xE 64) 4 0 m rfl (by simp) hr
 have key:Ku v (.func (.func 181) #[] #[]) (.int .i64 4) (.int .i64 0) m=some (.int .i64 (-1),m):=W_eq key;have hj:Call S tab 182 [v,.string ⟨#[]⟩] m=some (str (qp 256),m):=by
  refine Qx ?_;show qac [v,.string ⟨#[]⟩] m=_;rcases h with ⟨_,h0⟩|⟨b,cap,rest,lo,rfl,hb,hg,hlo,hrs,hc⟩
  ·simp at h0
  ·have hca:=zS hg;have hst:Jh (((encS.flat [qp 64,qp 64,qp 64,qp 64]++rest).drop 0).take [qp 64,qp 64,qp 64,qp 64].length)=some [⟨(qp 64).toArray⟩,⟨(qp 64).toArray⟩,⟨(qp 64).toArray⟩,⟨(qp 64).toArray⟩]:=rfl;have hjl:=congrArg (λs:ByteArray=>s.data.toList) qkP;have hjl:Lib.join ([(⟨(qp 64).toArray⟩:ByteArray),⟨(qp 64).toArray⟩,⟨(qp 64).toArray⟩,⟨(qp 64).toArray⟩].map (·.data.toList)) (⟨#[]⟩:ByteArray).data.toList=qp 256:=hjl;simp only [qac,hca,bmI,hst,hjl];rw [if_pos ⟨rfl,by simp,hc,by simp,by rw [xE]; omega⟩]
 simp only [st0,key,d1,hj];exact ⟨trivial,trivial⟩
theorem TAp.low {α:Type} {E:Enc α} {e:TypeId} {m:Mem} {v:Value} {l:List α} (h:TAp E e m v l):RSl 0 E m v l:=h.rsl λb _=>Nat.zero_le _
theorem qaP {d sb um N p vb k:Nat} {r:List Value} {T:TypeId} (hN:126+4 * k+4<=N) (hk:k<=200) {m0:Mem} (hne:p<m0.next/\vb<m0.next):∀ (n j:Nat) (m:Mem) (v:Value),4 - j=n->j<=4->Dv d sb um N m->m.get p=some ⟨.cells (.pointer (some ⟨d,0,none⟩)::r) T,false,none⟩->m.get vb=some ⟨.cells [.int .i64 (k:Int)] 3,false,none⟩->TAp encS 9 m v (List.replicate j (qp 64))->(∀ b∈qc v,m0.next<=b)->Upd [] m0 m->(d<m0.next/\sb<m0.next/\um<m0.next) ->
  W (qcC (.pointer (some ⟨p,0,none⟩)) (.func (.func 97) #[] #[.pointer (some ⟨vb,0,none⟩)]) v (.int .i64 (j:Int)) m) λr m'=>r=str (qp 256)/\Upd [] m0 m':=by
 intro n
 induction n with
 | zero =>
  intro j m v hd hj hdv gp gv hv hvb hu hlt;obtain rfl:j=4:=by omega
  have e1:(((4:Nat):Int)<4)=False:=eq_false (by omega);rw [P96_0_eq];simp only [st0,e1];rw [P96_1_eq];refine qh.2 ((qex hv).mono λr m' ⟨r1,r2⟩=>?_);subst r1 r2;simp only [st0,xt0,xt1];exact ⟨trivial,hu⟩
 | succ n ih =>
  intro j m v hd hj hdv gp gv hv hvb hu hlt;have hlj:j<4:=by omega
  have e1:((j:Int)<4)=True:=eq_true (by omega);have l0:qa (.pointer (some ⟨p,0+0,none⟩)) m=some (.pointer (some ⟨d,0,none⟩)):=qm gp rfl;have lv:qa (.pointer (some ⟨vb,0,none⟩)) m=some (.int .i64 (k:Int)):=qm gv rfl;have hc:Call S tab 97 [.int .i64 (j:Int),.pointer (some ⟨vb,0,none⟩)] m=some (.int .i64 ((126+4 * k+j:Nat):Int),m):=by
   refine W_eq ?_;rw [C97];simp only [st0,lv,Hp k j (by omega) (by omega)];exact ⟨trivial,trivial⟩
  rw [P96_0_eq];simp only [st0,e1,nck,fa,l0,qiV 97 (by rfl),List.nil_append,List.singleton_append,hc];refine qh.2 ((HK hdv (show 126+4 * k+j<N by omega)).mono λv1 m1 ⟨r1,u1⟩=>?_);subst r1;have hlm:=hu.next;have gp1:=qq u1 (by omega) gp;have gv1:=qq u1 (by omega) gv;simp only [st0,Vv];refine zZ (E:=encS) [qp 64] (by decide) (hv.qn u1) (by simp; omega) λv2 m2 q1 q2 q3=>?_
  have nv:∀ c,c<m0.next->c∉qc v:=λc hc hm=>by have:=hvb c hm; omega
  have hn1:=u1.next;have q2':Upd [] m0 m2:=(hu.qu u1).then' q2 λb hb=>.inr (hvb b hb)
  have gp2:=(q2.same p (by omega) (nv p hne.1)).trans gp1;have gv2:=(q2.same vb (by omega) (nv vb hne.2)).trans gv1;have hdv2:Dv d sb um N m2:=(hdv.qn u1).upd q2 λb hb=>by have:=hvb b hb; omega
  rw [<- List.replicate_succ'] at q1;simp only [st0,qB (i:=j) (by omega)];refine jC (λr hr=>?_) (ih (j+1) m2 v2 (by omega) (by omega) hdv2 gp2 gv2 q1 (λb hb=>(q3 b hb).elim (hvb b) (λh=>by omega)) q2' hlt);simp only [lcI,nmI,or_false] at hr;subst hr;exact okR λk _ hk=>by
   have:k=0∨k=1:=by omega
   rcases this with rfl|rfl
   ·exact ⟨_,rfl,l0⟩
   ·exact ⟨_,rfl,l0⟩
theorem qfa {d sb um N p vb k:Nat} {r:List Value} {T:TypeId} (hN:126+4 * k+4<=N) (hk:k<=200) {m:Mem} (hne:p<m.next/\vb<m.next) (hdv:Dv d sb um N m) (gp:m.get p=some ⟨.cells (.pointer (some ⟨d,0,none⟩)::r) T,false,none⟩) (gv:m.get vb=some ⟨.cells [.int .i64 (k:Int)] 3,false,none⟩) :
  W (Call S tab 96 [.pointer (some ⟨p,0,none⟩),.func (.func 97) #[] #[.pointer (some ⟨vb,0,none⟩)]] m) λr m'=>r=str (qp 256)/\Upd [] m m':=by
 rw [C96];exact qaP hN hk hne 4 0 m _ rfl (by omega) hdv gp gv (TAp.nil _) (λc hc=>by simp [qc] at hc) (Upd.refl _ _) hdv.lt
end Go.Fx.Tryz
namespace Go.Fx.Tryz
open Go Go.Fx
abbrev pgB (d:Nat) (v:Value):ABlk:=⟨.cells [.pointer (some ⟨d,0,none⟩),v,.bool false,.int .i64 0] 173,false,none⟩
theorem qds {d sb um N p P:Nat} (hN:126+4 * P<=N) (hP:P<=160) {m0:Mem} (hp:p<m0.next) (hlt:d<m0.next/\sb<m0.next/\um<m0.next) (hpd:p≠d/\p≠sb/\p≠um) {Q:Value->Mem->Prop}
  (hQ:∀ m v,Dv d sb um N m->m.get p=some (pgB d v)->TAp encS 9 m v (List.replicate P (qp 256))->(∀ b∈qc v,m0.next<=b)->Upd [p] m0 m->W (qgP (.pointer (some ⟨d,0,none⟩)) (.pointer (some ⟨p,0,none⟩)) m) Q) :
  ∀ (n i:Nat) (m:Mem) (v:Value),P - i=n->i<=P->Dv d sb um N m->m.get p=some (pgB d v)->TAp encS 9 m v (List.replicate i (qp 256))->(∀ b∈qc v,m0.next<=b)->Upd [p] m0 m ->
  W (qcJ (.pointer (some ⟨d,0,none⟩)) (.pointer (some ⟨p,0,none⟩)) (.int .i64 (P:Int)) (.int .i64 (i:Int)) m) Q:=by
 intro n
 induction n with
 | zero =>
  intro i m v hd hi hdv gp hv hvb hu;obtain rfl:i=P:=by omega
  rw [P52_0_eq];simp only [st0,Int.lt_irrefl];exact hQ m v hdv gp hv hvb hu
 | succ n ih =>
  intro i m v hd hi hdv gp hv hvb hu;have hlt':i<P:=by omega
  have e1:((i:Int)<(P:Int))=True:=eq_true (by omega);have hlm:=hu.next;rw [P52_0_eq];simp only [st0,e1];have u1:Upd [] m (m.add ⟨.cells [.int .i64 0] 3,false,none⟩):=Upd.add _ _ _;have g1:(m.add ⟨.cells [.int .i64 0] 3,false,none⟩).get m.next=some ⟨.cells [.int .i64 0] 3,false,none⟩:=Mem.qf ..;have n1:(m.add ⟨.cells [.int .i64 0] 3,false,none⟩).next=m.next+1:=rfl;generalize (m.add ⟨.cells [.int .i64 0] 3,false,none⟩)=m1 at u1 g1 n1;have e2:qj 1 (.pointer (some ⟨m.next,0,none⟩)) (.int .i64 (i:Int)) m1=some (m1.put m.next ⟨.cells [.int .i64 (i:Int)] 3,false,none⟩):=zF g1 (by simp) rfl rfl;have g2:(m1.put m.next ⟨.cells [.int .i64 (i:Int)] 3,false,none⟩).get m.next=_:=Mem.qe ..;have u2:Upd [] m (m1.put m.next ⟨.cells [.int .i64 (i:Int)] 3,false,none⟩):=u1.ki _ (.inr (Nat.le_refl _));have n2:(m1.put m.next ⟨.cells [.int .i64 (i:Int)] 3,false,none⟩).next=m1.next:=rfl;simp only [st0,e2];generalize (m1.put m.next ⟨.cells [.int .i64 (i:Int)] 3,false,none⟩)=m2 at g2 u2 n2;have gp2:=qq u2 (by omega) gp;have hdv2:=hdv.qn u2;have lp:∀ {M:Mem} {x:Value},M.get p=some (pgB d x)->qa (.pointer (some ⟨p,0+1,none⟩)) M=some x:=λg=>qm g rfl
  simp only [st0,nck,fa,lp gp2];refine qh.2 ((qfa (by omega) (by omega) ⟨by omega,by omega⟩ hdv2 gp2 g2).mono λv3 m3 ⟨r3,u3⟩=>?_);subst r3;have x3:=u3.next;have u03:Upd [] m m3:=u2.qu u3;have gp3:=qq u03 (by omega) gp;simp only [st0,Vv];refine zZ (E:=encS) [qp 256] (by decide) (hv.qn u03) (by simp; omega) λv4 m4 q1 q2 q3=>?_
  have x4:=q2.next;have nv:∀ c,c<m0.next->c∉qc v:=λc hc hm=>by have:=hvb c hm; omega
  have gp4:=(q2.same p (by omega) (nv p hp)).trans gp3;have e5:qj 1 (.pointer (some ⟨p,0+1,none⟩)) v4 m4=some (m4.put p (pgB d v4)):=zF gp4 (by simp) q1.one.1 q1.one.2;have hdv4:Dv d sb um N m4:=(hdv.qn u03).upd q2 λb hb=>by have:=hvb b hb; omega
  have u5:Upd [p] m4 (m4.put p (pgB d v4)):=Upd.put _ _ (by simp);have hv4b:∀ b∈qc v4,m0.next<=b:=λb hb=>(q3 b hb).elim (hvb b) (λh=>by omega)
  rw [<- List.replicate_succ'] at q1;simp only [st0,nck,fa,e5,qB (i:=i) (by omega)];refine jC (λr hr=>?_) (ih (i+1) _ v4 (by omega) hlt' (hdv4.upd u5 λb hb=>by simp at hb; subst hb; exact hpd) (Mem.qe ..) (q1.upd u5 λb hb hm=>by simp at hm; have:=hv4b b hb; omega) hv4b (((hu.qu u03).then' q2 λb hb=>.inr (hvb b hb)).trans u5));simp only [lcI,nmI,or_false] at hr;subst hr;exact okR λk _ hk=>by
   have:k=0∨k=1∨k=2:=by omega
   rcases this with rfl|rfl|rfl
   ·exact ⟨_,rfl,lp gp2⟩
   ·exact ⟨_,rfl,lp gp3⟩
   ·exact ⟨_,rfl,lp (by rw [Mem.zO _ _ (by omega)]; exact gp3)⟩
theorem qch (n:Nat) (hn:n<=1000) (m:Mem):Call S tab 24 [.int .i64 (n:Int)] m=some (.int .i64 ((126+4 * n:Nat):Int),m):=by
 refine W_eq ?_;have:=Hp n 0 hn (by omega) m;rw [Nat.add_zero] at this;have:Call S tab 55 [.int .i64 (n:Int),.int .i64 0] m=_:=this;rw [C24];simp only [st0,this];exact ⟨trivial,trivial⟩
theorem qla (v w:Value) (hv:v.cells=#[v]) (hw:w.cells=#[w]):qt [.slice none 0 0,.map none,.int .i64 0,.int .i64 0] [(0,1,v),(1,1,w),(3,1,.int .i64 4611686018427387904)]=some [v,w,.int .i64 0,.int .i64 4611686018427387904]:=by
 have h4:(Value.int .i64 4611686018427387904).cells=#[.int .i64 4611686018427387904]:=rfl;simp [qt,hv,hw,h4,zY,xm]
theorem qii (n:Nat) (hn:n<=160) (m:Mem):W (Call S tab 23 [.int .i64 ((126+4 * n:Nat):Int)] m) λr m'=>∃ d sb um,r=.pointer (some ⟨d,0,none⟩)/\Dv d sb um (126+4 * n) m'/\d<m'.next/\Upd [] m m':=by
 have e1:(((0:Int) > ((126+4 * n:Nat):Int)))=False:=eq_false (by omega);have e2:(((4096:Int)<((126+4 * n:Nat):Int)))=False:=eq_false (by omega);have e3:jD 217 64 z64 (.int .i64 ((126+4 * n:Nat):Int)) (.int .i64 ((126+4 * n:Nat):Int)) m=some (.slice (some ⟨m.next,0,none⟩) (126+4 * n) (126+4 * n),m.add ⟨.cells (List.replicate (126+4 * n) z64).flatten 217,false,none⟩):=by
  simp only [jD];rw [if_pos ⟨by omega,by omega,by omega,by omega⟩];simp only [Int.toNat_natCast]
 rw [C23];simp only [st0,e1,e2,qiL,e3];rw [<- qdU];have u1:Upd [] m (m.add ⟨.cells (encZ.flat (List.replicate (126+4 * n) ())) 217,false,none⟩):=Upd.add _ _ _;have g1:(m.add ⟨.cells (encZ.flat (List.replicate (126+4 * n) ())) 217,false,none⟩).get m.next=some ⟨.cells (encZ.flat (List.replicate (126+4 * n) ())) 217,false,none⟩:=Mem.qf ..;have n1:(m.add ⟨.cells (encZ.flat (List.replicate (126+4 * n) ())) 217,false,none⟩).next=m.next+1:=rfl;generalize (m.add ⟨.cells (encZ.flat (List.replicate (126+4 * n) ())) 217,false,none⟩)=m1 at u1 g1 n1;simp only [st0,zK];have u2:Upd [] m1 (m1.add ⟨.map [] 0,false,none⟩):=Upd.add _ _ _;have g2:(m1.add ⟨.map [] 0,false,none⟩).get m1.next=some ⟨.map [] 0,false,none⟩:=Mem.qf ..;have n2:(m1.add ⟨.map [] 0,false,none⟩).next=m1.next+1:=rfl;have k2:=qq u2 (by omega) g1;generalize (m1.add ⟨.map [] 0,false,none⟩)=m2 at u2 g2 n2 k2;simp only [st0,qla (.slice (some ⟨m.next,0,none⟩) (126+4 * n) (126+4 * n)) (.map (some m1.next)) rfl rfl,qS];have u3:Upd [] m2 (m2.add ⟨.cells [.slice (some ⟨m.next,0,none⟩) (126+4 * n) (126+4 * n),.map (some m1.next),.int .i64 0,.int .i64 4611686018427387904] 123,false,none⟩):=Upd.add _ _ _;refine ⟨m2.next,m.next,m1.next,rfl,⟨⟨_,_,Mem.qf ..⟩,qq u3 (by omega) k2,qq u3 (by omega) g2,⟨by show m2.next<m2.next+1; omega,by show m.next<m2.next+1; omega,by show m1.next<m2.next+1; omega⟩⟩,by show m2.next<m2.next+1; omega,(u1.qu u2).qu u3⟩
theorem qhQ (m:Mem):Call S tab 98 [str (qp 64)] m=some (.bool false,m):=by
 refine W_eq ?_;have e1:arith .neq (str (qp 64)) (.string ⟨#[]⟩)=some (.bool true):=(QS (qp 64) []).trans (by rfl);have e2:zm (str (qp 64)) (.int .i64 0)=some (.int .u8 0):=yN (l:=qp 64) (i:=0) (b:=0) rfl;have e3:arith .neq (.int .u8 0) (.int .u8 0)=some (.bool false):=rfl;rw [C98];simp only [st0,e1,e2,e3];exact ⟨trivial,trivial⟩
theorem qkZ (d:Nat):qt [.pointer none,.slice none 0 0,.bool false,.int .i64 0] [(0,1,.pointer (some ⟨d,0,none⟩))]=some [.pointer (some ⟨d,0,none⟩),.slice none 0 0,.bool false,.int .i64 0]:=by kernel_rfl
theorem qeZ {d sb um n:Nat} (hn1:1<=n) (hn:n<=160) {m:Mem} (hdv:Dv d sb um (126+4 * n) m):W (Call S tab 52 [.pointer (some ⟨d,0,none⟩),.int .i64 (n:Int)] m) λr m'=>∃ p v,r=.tuple #[.pointer (some ⟨p,0,none⟩),.int .i64 0]/\m'.get p=some (pgB d v)/\p<m'.next/\TAp encS 9 m' v (List.replicate n (qp 256))/\m.next<=p/\Upd [] m m':=by
 have e1:((n:Int)<1)=False:=eq_false (by omega);have e2:((160:Int)<(n:Int))=False:=eq_false (by omega);obtain ⟨a,b,hd⟩:=hdv.hd;have l0:qa (.pointer (some ⟨d,0+0,none⟩)) m=some (.slice (some ⟨sb,0,none⟩) (126+4 * n) (126+4 * n)):=qm hd rfl;have el:qd (.slice (some ⟨sb,0,none⟩) (126+4 * n) (126+4 * n))=some (.int .i64 ((126+4 * n:Nat):Int)):=rfl;have hsz:Call S tab 95 [.pointer (some ⟨d,0,none⟩)] m=some (.int .i64 ((126+4 * n:Nat):Int),m):=by
  refine W_eq ?_;rw [C95];simp only [st0,vJ,nck,fa,l0,el];exact ⟨trivial,trivial⟩
 have e3:(((126+4 * n:Nat):Int)<((126+4 * n:Nat):Int))=False:=eq_false (by omega);rw [C52];simp only [st0,vJ,e1,e2,hsz,qch n (by omega),e3,qkZ,qS];have u1:Upd [] m (m.add (pgB d (.slice none 0 0))):=Upd.add _ _ _;have g1:(m.add (pgB d (.slice none 0 0))).get m.next=some (pgB d (.slice none 0 0)):=Mem.qf ..;have n1:(m.add (pgB d (.slice none 0 0))).next=m.next+1:=rfl;generalize (m.add (pgB d (.slice none 0 0)))=m1 at u1 g1 n1;obtain ⟨t1,t2,t3⟩:=hdv.lt;refine qds (N:=126+4 * n) (m0:=m1) (Nat.le_refl _) hn (by omega) ⟨by omega,by omega,by omega⟩ ⟨by omega,by omega,by omega⟩ (λm2 v hdv2 gp hv hvb u2=>?_) _ 0 m1 _ rfl (Nat.zero_le _) (hdv.qn u1) g1 (TAp.nil _) (λc hc=>by simp [qc] at hc) (Upd.refl _ _);have x2:=u2.next;rw [P52_1_eq];have hd2:=HK hdv2 (i:=0) (by omega);refine qh.2 (hd2.mono λv3 m3 ⟨r3,u3⟩=>?_);subst r3;have x3:=u3.next;simp only [st0,qhQ];exact ⟨m.next,v,rfl,qq u3 (by omega) gp,by omega,hv.qn u3,Nat.le_refl _,(u1.then' u2 λb hb=>.inr (by simp at hb; omega)).qu u3⟩
end Go.Fx.Tryz
namespace Go.Fx.Tryz
open Go Go.Fx
theorem stp {m:Mem} {b o:Nat} {c:List Value} {e:TypeId} {lo:Option Nat} {v:Value} {k:Mem->O} {Q:Value->Mem->Prop} (g:m.get b=some ⟨.cells c e,false,lo⟩) (ho:o<c.length) (hv:v.cells=#[v]) (h1:v.oneCell'=true)
  (h:∀ m',Upd [b] m m'->m'.next=m.next->m'.get b=some ⟨.cells (c.set o v) e,false,lo⟩->W (k m') Q):W ((qj 1 (.pointer (some ⟨b,o,none⟩)) v m).bind k) Q:=by
 rw [zF g ho hv h1];exact h _ (Upd.put _ _ (by simp)) rfl (Mem.qe ..)
abbrev caB (p cm:Nat) (a b:Value) (sz ht ms:Nat):ABlk:=⟨.cells [.pointer (some ⟨p,0,none⟩),.int .i64 16,a,b,.int .i64 0,.string ⟨#[]⟩,.int .i64 (sz:Int),.map (some cm),.int .i64 (ht:Int),.int .i64 (ms:Int)] 184,false,none⟩
abbrev lkB (a b:Value):ABlk:=⟨.cells [a,b,.int .i64 0,str (qp 256)] 180,false,none⟩
abbrev hdP (c:Nat):Value:=.pointer (some ⟨c,0+2+0,none⟩)
abbrev en0 (lk:Nat):MapEntry:={ key:=.int .i64 0,val:=.pointer (some ⟨lk,0,none⟩),born:=0 }
theorem qlb (p cm:Nat):qt [.pointer none,.int .i64 0,.pointer none,.pointer none,.int .i64 0,.string ⟨#[]⟩,.int .i64 0,.map none,.int .i64 0,.int .i64 0] [(0,1,.pointer (some ⟨p,0,none⟩)),(1,1,.int .i64 16),(7,1,.map (some cm))] =
  some [.pointer (some ⟨p,0,none⟩),.int .i64 16,.pointer none,.pointer none,.int .i64 0,.string ⟨#[]⟩,.int .i64 0,.map (some cm),.int .i64 0,.int .i64 0]:=by kernel_rfl
theorem qik (p:Nat) (m:Mem):W (Call S tab 53 [.pointer (some ⟨p,0,none⟩),.int .i64 16] m) λr m'=>∃ c cm,r=.pointer (some ⟨c,0,none⟩)/\m'.get c=some (caB p cm (hdP c) (hdP c) 0 0 0)/\m'.get cm=some ⟨.map [] 0,false,none⟩/\c<m'.next/\cm<m'.next/\c≠cm/\m.next<=c/\m.next<=cm/\Upd [] m m':=by
 have e1:((0:Int) > 16)=False:=eq_false (by omega);have e2:((64:Int)<16)=False:=eq_false (by omega);rw [C53];simp only [st0,vJ,e1,e2,zK,qlb,qS];have u1:Upd [] m (m.add ⟨.map [] 0,false,none⟩):=Upd.add _ _ _;have g1:(m.add ⟨.map [] 0,false,none⟩).get m.next=some ⟨.map [] 0,false,none⟩:=Mem.qf ..;have n1:(m.add ⟨.map [] 0,false,none⟩).next=m.next+1:=rfl;generalize (m.add ⟨.map [] 0,false,none⟩)=m1 at u1 g1 n1;have eb:(⟨.cells [.pointer (some ⟨p,0,none⟩),.int .i64 16,.pointer none,.pointer none,.int .i64 0,.string ⟨#[]⟩,.int .i64 0,.map (some m.next),.int .i64 0,.int .i64 0] 184,false,none⟩:ABlk)=caB p m.next (.pointer none) (.pointer none) 0 0 0:=rfl;rw [eb];have u2:Upd [] m1 (m1.add (caB p m.next (.pointer none) (.pointer none) 0 0 0)):=Upd.add _ _ _;have g2:(m1.add (caB p m.next (.pointer none) (.pointer none) 0 0 0)).get m1.next=some (caB p m.next (.pointer none) (.pointer none) 0 0 0):=Mem.qf ..;have n2:(m1.add (caB p m.next (.pointer none) (.pointer none) 0 0 0)).next=m1.next+1:=rfl;have k2:=qq u2 (by omega) g1;generalize (m1.add (caB p m.next (.pointer none) (.pointer none) 0 0 0))=m2 at u2 g2 n2 k2;simp only [st0,nck,fa];rw [qmN];simp only [st0,nck,fa];refine qh.2 ?_;refine stp g2 (by simp) rfl rfl λm3 u3 n3 g3=>?_
 refine stp g3 (by simp) rfl rfl λm4 u4 n4 g4=>?_
 have k4:=((u4.same m.next (by omega) (by simp; omega)).trans (u3.same m.next (by omega) (by simp; omega))).trans k2;exact zv.2 (zv.2 ⟨m1.next,m.next,rfl,g4,k4,by show m1.next<m4.next; omega,by show m.next<m4.next; omega,by omega,by omega,by omega,(u1.qu u2).then' (u3.trans u4) λb hb=>.inr (by simp at hb; omega)⟩)
theorem qeu {c cm p lk ht ms:Nat} {a b:Value} {m:Mem} (gc:m.get c=some (caB p cm (hdP c) (hdP c) 0 ht ms)) (gl:m.get lk=some (lkB a b)) (gm:m.get cm=some ⟨.map [] 0,false,none⟩∨m.get cm=some ⟨.map [en0 lk] 1,false,none⟩) (hlt:c<m.next/\cm<m.next/\lk<m.next) (hne:c≠cm/\c≠lk/\cm≠lk) :
  W (Call S tab 143 [.pointer (some ⟨c,0,none⟩),.pointer (some ⟨lk,0,none⟩)] m) λr m'=>m'.get c=some (caB p cm (.pointer (some ⟨lk,0,none⟩)) (.pointer (some ⟨lk,0,none⟩)) 1 ht ms)/\m'.get lk=some (lkB (hdP c) (hdP c))/\m'.get cm=some ⟨.map [en0 lk] 1,false,none⟩/\Upd [c,cm,lk] m m':=by
 obtain ⟨l1,l2,l3⟩:=hlt;obtain ⟨ne1,ne2,ne3⟩:=hne;have e01:arith .add (.int .i64 0) (.int .i64 1)=some (.int .i64 1):=rfl;rw [qmr];simp only [st0,nck,fa];rw [qlZ];have h1:qa (.pointer (some ⟨c,0+2+0+1,none⟩)) m=some (hdP c):=qm gc rfl;simp only [st0,nck,fa,h1];refine qh.2 ?_;refine stp gl (by simp) rfl rfl λm1 u1 n1 g1=>?_
 refine stp g1 (by simp) rfl rfl λm2 u2 n2 g2=>?_
 have c2:=(((u1.trans u2).same c l1 (by simp; exact ne2)).trans gc);have h2:qa (.pointer (some ⟨lk,0+0,none⟩)) m2=some (hdP c):=qm g2 rfl;have h3:qa (.pointer (some ⟨lk,0+1,none⟩)) m2=some (hdP c):=qm g2 rfl;simp only [st0,nck,fa,h2,h3];refine stp c2 (by simp) rfl rfl λm3 u3 n3 c3=>?_
 refine stp c3 (by simp) rfl rfl λm4 u4 n4 c4=>?_
 have h4:qa (.pointer (some ⟨c,0+2+4,none⟩)) m4=some (.int .i64 0):=qm c4 rfl;simp only [st0,nck,fa,h4,e01];refine stp c4 (by simp) rfl rfl λm5 u5 n5 c5=>?_
 have u35:=(u3.trans u4).trans u5;have g5:=(u35.same lk (by omega) (by simp; exact λe=>ne2 e.symm)).trans g2;have c5:m5.get c=some (caB p cm (.pointer (some ⟨lk,0,none⟩)) (.pointer (some ⟨lk,0,none⟩)) 1 ht ms):=c5;have g5:m5.get lk=some (lkB (hdP c) (hdP c)):=g5;have u05:Upd [c,cm,lk] m m5:=((u1.trans u2).mono λb hb _=>by simp at hb; simp [hb]).trans (u35.mono λb hb _=>by simp at hb; simp [hb]);have km:m5.get cm=m.get cm:=((u35.same cm (by omega) (by simp; omega)).trans ((u1.trans u2).same cm l2 (by simp; exact ne3)));have hmu:zt .int (.map (some cm)) (.int .i64 0) (.pointer (some ⟨lk,0,none⟩)) m5=some (m5.put cm ⟨.map [en0 lk] 1,false,none⟩):=by
  rcases gm with gm|gm
  ·have:m5.jL cm=some ([],0,none):=by simp [Mem.jL,km,gm]
   simp only [zt,this,bmI,QY,if_true]; rfl
  ·have:m5.jL cm=some ([en0 lk],1,none):=by simp [Mem.jL,km,gm]
   simp only [zt,this,bmI,QY,if_true]; rfl
 have h5:qa (.pointer (some ⟨c,0+7,none⟩)) m5=some (.map (some cm)):=qm c5 rfl;have h6:qa (.pointer (some ⟨lk,0+2+0,none⟩)) m5=some (.int .i64 0):=qm g5 rfl;have c6:(m5.put cm ⟨.map [en0 lk] 1,false,none⟩).get c=_:=(Mem.qs m5 _ ne1).trans c5;have h7:qa (.pointer (some ⟨c,0+2+4,none⟩)) (m5.put cm ⟨.map [en0 lk] 1,false,none⟩)=some (.int .i64 1):=qm c6 rfl;have h8:qa (.pointer (some ⟨c,0+1,none⟩)) (m5.put cm ⟨.map [en0 lk] 1,false,none⟩)=some (.int .i64 16):=qm c6 rfl;have e16:((16:Int)<1)=False:=eq_false (by omega);simp only [st0,nck,fa,h5,h6,hmu,h7,h8,e16];exact ⟨c6,(Mem.qs m5 _ (λe=>ne3 e.symm)).trans g5,Mem.qe ..,u05.ki _ (.inl (by simp))⟩
structure Rd1 (c cm lk p ht:Nat) (m:Mem):Prop where
 gc:m.get c=some (caB p cm (.pointer (some ⟨lk,0,none⟩)) (.pointer (some ⟨lk,0,none⟩)) 1 ht 1)
 gl:m.get lk=some (lkB (hdP c) (hdP c))
 gm:m.get cm=some ⟨.map [en0 lk] 1,false,none⟩
 lt:c<m.next/\cm<m.next/\lk<m.next
 ne:c≠cm/\c≠lk/\cm≠lk
theorem Rd1.qn {c cm lk p ht:Nat} {m m':Mem} (h:Rd1 c cm lk p ht m) (u:Upd [] m m'):Rd1 c cm lk p ht m':=by
 have hx:=u.next;obtain ⟨l1,l2,l3⟩:=h.lt;exact ⟨qq u l1 h.gc,qq u l3 h.gl,qq u l2 h.gm,⟨by omega,by omega,by omega⟩,h.ne⟩
theorem qjX:qt [.int .i64 0,.string ⟨#[]⟩] [(0,1,.int .i64 0),(1,1,str (qp 256))]=some [.int .i64 0,str (qp 256)]:=by
 simp only [qt]; rfl
theorem qjW (s:Bs):qt [.pointer none,.pointer none,.int .i64 0,.string ⟨#[]⟩] [(2,2,.agg [.int .i64 0,str s].toArray)]=some [.pointer none,.pointer none,.int .i64 0,str s]:=by kernel_rfl
theorem qdX {c cm p d n:Nat} {v:Value} {m:Mem} (gc:m.get c=some (caB p cm (hdP c) (hdP c) 0 0 0)) (gm:m.get cm=some ⟨.map [] 0,false,none⟩) (gp:m.get p=some (pgB d v)) (hv:TAp encS 9 m v (List.replicate n (qp 256))) (hn:1<=n) (hlt:c<m.next/\cm<m.next/\p<m.next) (hne:c≠cm/\c≠p/\cm≠p) :
  W (Call S tab 103 [.pointer (some ⟨c,0,none⟩),.int .i64 0] m) λr m'=>r=.tuple #[str (qp 256),.int .i64 0]/\Upd [c,cm] m m'/\∃ lk,Rd1 c cm lk p 0 m'/\m.next<=lk:=by
 obtain ⟨lc,lm,lp⟩:=hlt;obtain ⟨ne1,ne2,ne3⟩:=hne;have hr:RSl 0 encS m v (List.replicate n (qp 256)):=hv.rsl λb _=>Nat.zero_le _
 have hget:(List.replicate n (qp 256))[0]? = some (qp 256):=by rw [List.getElem?_replicate,if_pos (by omega)]
 obtain ⟨pk,y1,y2⟩:=HA hr hget;have y1:qi 1 v (.int .i64 0)=some pk:=y1;have y2:=y2 m hr;have hl:=zf hr;rw [List.length_replicate] at hl;have e1:((n:Int)<=0)=False:=eq_false (by omega);have lpg:qa (.pointer (some ⟨p,0+1,none⟩)) m=some v:=qm gp rfl;have hread:Call S tab 144 [.pointer (some ⟨p,0,none⟩),.int .i64 0] m=some (.tuple #[str (qp 256),.int .i64 0],m):=by
  refine W_eq ?_;have e0:((0:Int)<0)=False:=eq_false (by omega);rw [qmq];simp only [st0,vJ,e0,nck,fa,lpg,hl,e1,y1,y2];exact ⟨trivial,trivial⟩
 have d0:decide ((0:Int)=0)=true:=rfl;have l0:qa (.pointer (some ⟨c,0+0,none⟩)) m=some (.pointer (some ⟨p,0,none⟩)):=qm gc rfl;have l7:qa (.pointer (some ⟨c,0+7,none⟩)) m=some (.map (some cm)):=qm gc rfl;have l9:qa (.pointer (some ⟨c,0+9,none⟩)) m=some (.int .i64 0):=qm gc rfl;have lk:zl .int (.pointer none) true (.map (some cm)) (.int .i64 0) m=some (.tuple #[.pointer none,.bool false]):=by
  have:m.xq cm=some ([],0):=by simp [Mem.xq,gm]
  simp only [zl,this,bmI]; rfl
 have e01:arith .add (.int .i64 0) (.int .i64 1)=some (.int .i64 1):=rfl;rw [qlr];simp only [st0,vJ,nck,fa,l7,lk,xt0,xt1,l0,hread,d0,l9,e01];refine stp gc (by simp) rfl rfl λm1 u1 n1 g1=>?_
 have k1:=(u1.same cm lm (by simp; exact λe=>ne1 e.symm)).trans gm;simp only [st0,qjX,qjW,qS];have u2:Upd [] m1 (m1.add (lkB (.pointer none) (.pointer none))):=Upd.add _ _ _;have j2:(m1.add (lkB (.pointer none) (.pointer none))).get m1.next=some (lkB (.pointer none) (.pointer none)):=Mem.qf ..;have n2:(m1.add (lkB (.pointer none) (.pointer none))).next=m1.next+1:=rfl;have g2:=qq u2 (by omega) g1;have k2:=qq u2 (by omega) k1;generalize (m1.add (lkB (.pointer none) (.pointer none)))=m2 at u2 j2 n2 g2 k2;have g2:m2.get c=some (caB p cm (hdP c) (hdP c) 0 0 1):=g2;refine qh.2 ((qeu g2 j2 (.inl k2) ⟨by omega,by omega,by omega⟩ ⟨ne1,by omega,by omega⟩).mono λr3 m3 ⟨q1,q2,q3,u3⟩=>?_);have x3:=u3.next;exact zv.2 ⟨rfl,((u1.mono λb hb _=>by simp at hb; simp [hb]).qu u2).then' u3 λb hb=>by
   simp only [lcI,nmI,or_false] at hb;rcases hb with h|h|h
   ·left; simp [h]
   ·left; simp [h]
   ·right; omega,m1.next,⟨q1,q2,q3,⟨by show c<m3.next; omega,by show cm<m3.next; omega,by show m1.next<m3.next; omega⟩,⟨ne1,by omega,by omega⟩⟩,by omega⟩
theorem qdW {c cm lk p:Nat} {m:Mem} (h:Rd1 c cm lk p 0 m):W (Call S tab 103 [.pointer (some ⟨c,0,none⟩),.int .i64 0] m) λr m'=>r=.tuple #[str (qp 256),.int .i64 0]/\Upd [c,cm,lk] m m'/\Rd1 c cm lk p 1 m':=by
 obtain ⟨l1,l2,l3⟩:=h.lt;obtain ⟨ne1,ne2,ne3⟩:=h.ne;have l7:qa (.pointer (some ⟨c,0+7,none⟩)) m=some (.map (some cm)):=qm h.gc rfl;have l8:qa (.pointer (some ⟨c,0+8,none⟩)) m=some (.int .i64 0):=qm h.gc rfl;have hlk:zl .int (.pointer none) true (.map (some cm)) (.int .i64 0) m=some (.tuple #[.pointer (some ⟨lk,0,none⟩),.bool true]):=by
  have:m.xq cm=some ([en0 lk],1):=by simp [Mem.xq,h.gm]
  simp only [zl,this,bmI]; rfl
 have e01:arith .add (.int .i64 0) (.int .i64 1)=some (.int .i64 1):=rfl;have e10:arith .sub (.int .i64 1) (.int .i64 1)=some (.int .i64 0):=rfl;rw [qlr];simp only [st0,vJ,nck,fa,l7,hlk,xt0,xt1,l8,e01];refine stp h.gc (by simp) rfl rfl λm1 u1 n1 g1=>?_
 have j1:=(u1.same lk l3 (by simp; exact λe=>ne2 e.symm)).trans h.gl;have k1:=(u1.same cm l2 (by simp; exact λe=>ne1 e.symm)).trans h.gm;have a0:qa (.pointer (some ⟨lk,0+0,none⟩)) m1=some (hdP c):=qm j1 rfl;have a1:qa (.pointer (some ⟨lk,0+1,none⟩)) m1=some (hdP c):=qm j1 rfl;rw [qms];simp only [st0,nck,fa,a0,a1];refine qh.2 ?_;refine stp g1 (by simp) rfl rfl λm2 u2 n2 g2=>?_
 refine stp g2 (by simp) rfl rfl λm3 u3 n3 g3=>?_
 have h4:qa (.pointer (some ⟨c,0+2+4,none⟩)) m3=some (.int .i64 1):=qm g3 rfl;simp only [st0,nck,fa,h4,e10];refine stp g3 (by simp) rfl rfl λm4 u4 n4 g4=>?_
 have u24:=(u2.trans u3).trans u4;have j4:=(u24.same lk (by omega) (by simp; exact λe=>ne2 e.symm)).trans j1;have k4:=(u24.same cm (by omega) (by simp; exact λe=>ne1 e.symm)).trans k1;have g4:m4.get c=some (caB p cm (hdP c) (hdP c) 0 1 1):=g4;refine zv.2 (qh.2 ((qeu g4 j4 (.inr k4) ⟨by omega,by omega,by omega⟩ ⟨ne1,ne2,ne3⟩).mono λr5 m5 ⟨q1,q2,q3,u5⟩=>?_));have x5:=u5.next;have ld:qa (.pointer (some ⟨lk,0+2+1,none⟩)) m5=some (str (qp 256)):=qm q2 rfl;simp only [st0,nck,fa,ld];exact ⟨trivial,((u1.trans u24).mono λb hb _=>by simp at hb; simp [hb]).trans u5,⟨q1,q2,q3,⟨by omega,by omega,by omega⟩,h.ne⟩⟩
theorem qjT (s:Bs) (b:Nat):qt [.int .u8 0,.int .u8 0,.int .u8 0,.int .u8 0,.int .u8 0,.int .u8 0,.int .u8 0,.int .u8 0,.int .u8 0,.int .u8 0,.int .u8 0,.int .u8 0,.int .u8 0,.int .u8 0,.int .u8 0,.int .u8 0,.int .u8 0,.int .u8 0,.int .u8 0,.int .u8 0,.string ⟨#[]⟩,.map none] [(20,1,str s),(21,1,.map (some b))]=some [.int .u8 0,.int .u8 0,.int .u8 0,.int .u8 0,.int .u8 0,.int .u8 0,.int .u8 0,.int .u8 0,.int .u8 0,.int .u8 0,.int .u8 0,.int .u8 0,.int .u8 0,.int .u8 0,.int .u8 0,.int .u8 0,.int .u8 0,.int .u8 0,.int .u8 0,.int .u8 0,str s,.map (some b)]:=by kernel_rfl
theorem qjS (c:Nat) (s:Bs) (b:Nat):qt [.pointer none,.int .u8 0,.int .u8 0,.int .u8 0,.int .u8 0,.int .u8 0,.int .u8 0,.int .u8 0,.int .u8 0,.int .u8 0,.int .u8 0,.int .u8 0,.int .u8 0,.int .u8 0,.int .u8 0,.int .u8 0,.int .u8 0,.int .u8 0,.int .u8 0,.int .u8 0,.int .u8 0,.string ⟨#[]⟩,.map none,.slice none 0 0,.bool false] [(0,1,.pointer (some ⟨c,0,none⟩)),(1,22,.agg [.int .u8 0,.int .u8 0,.int .u8 0,.int .u8 0,.int .u8 0,.int .u8 0,.int .u8 0,.int .u8 0,.int .u8 0,.int .u8 0,.int .u8 0,.int .u8 0,.int .u8 0,.int .u8 0,.int .u8 0,.int .u8 0,.int .u8 0,.int .u8 0,.int .u8 0,.int .u8 0,str s,.map (some b)].toArray)] =
  some [.pointer (some ⟨c,0,none⟩),.int .u8 0,.int .u8 0,.int .u8 0,.int .u8 0,.int .u8 0,.int .u8 0,.int .u8 0,.int .u8 0,.int .u8 0,.int .u8 0,.int .u8 0,.int .u8 0,.int .u8 0,.int .u8 0,.int .u8 0,.int .u8 0,.int .u8 0,.int .u8 0,.int .u8 0,.int .u8 0,str s,.map (some b),.slice none 0 0,.bool false]:=by kernel_rfl
abbrev jM (w pm c p P:Nat):Wo:=⟨w,pm,c,p,P,qp 20,qp 236,.slice none 0 0,[]⟩
theorem qaW (w pm c p P:Nat):[.pointer (some ⟨c,0,none⟩),.int .u8 0,.int .u8 0,.int .u8 0,.int .u8 0,.int .u8 0,.int .u8 0,.int .u8 0,.int .u8 0,.int .u8 0,.int .u8 0,.int .u8 0,.int .u8 0,.int .u8 0,.int .u8 0,.int .u8 0,.int .u8 0,.int .u8 0,.int .u8 0,.int .u8 0,.int .u8 0,str (qp 236),.map (some pm),.slice none 0 0,.bool false]=(jM w pm c p P).cells:=by kernel_rfl
set_option maxRecDepth 4000 in
theorem qgD {c p d n:Nat} {v:Value} {m:Mem} {fp:List Nat} {X:Mem->Prop} (hX:∀ {m m'},X m->Upd [] m m'->X m')
  (hr:W (Call S tab 103 [.pointer (some ⟨c,0,none⟩),.int .i64 0] m) λr m'=>r=.tuple #[str (qp 256),.int .i64 0]/\Upd fp m m'/\X m'/\∃ rs,m'.get c=some ⟨.cells (.pointer (some ⟨p,0,none⟩)::rs) 184,false,none⟩)
  (gp:m.get p=some (pgB d v)) (hv:TAp encS 9 m v (List.replicate n (qp 256))) (hn:1<=n) (hn2:n<=160) (hlt:c<m.next/\p<m.next) (hne:c≠p) (hpf:p∉fp) :
  W (Call S tab 56 [.pointer (some ⟨c,0,none⟩)] m) λr m'=>∃ w pm,r=.tuple #[.pointer (some ⟨w,0,none⟩),.int .i64 0]/\WI (jM w pm c p n) [] m'/\m.next<=w/\m.next<=pm/\Upd fp m m'/\X m':=by
 have d0:decide ((0:Int)=0)=true:=rfl;have hs:zH (str (qp 256)) (some (.int .i64 20)) none=some (str (qp 236)):=yb (l:=qp 256) (a:=20) (by rw [xE]; omega) .i64;rw [C56];simp only [st0,vJ];refine qh.2 (hr.mono λr1 m1 ⟨r1e,u1,hx1,rs,gc1⟩=>?_);subst r1e;have x1:=u1.next;obtain ⟨lc,lp⟩:=hlt;have gp1:m1.get p=_:=(u1.same p lp hpf).trans gp;simp only [st0,xt0,xt1,d0,hs,zK,qjT,qjS,qS,qaW m1.next m1.next c p n];have u2:Upd [] m1 (m1.add ⟨.map [] 0,false,none⟩):=Upd.add _ _ _;have g2:(m1.add ⟨.map [] 0,false,none⟩).get m1.next=some ⟨.map [] 0,false,none⟩:=Mem.qf ..;have n2:(m1.add ⟨.map [] 0,false,none⟩).next=m1.next+1:=rfl;have gc2:=qq u2 (by omega) gc1;have gp2:=qq u2 (by omega) gp1;generalize (m1.add ⟨.map [] 0,false,none⟩)=m2 at u2 g2 n2 gc2 gp2;have u3:Upd [] m2 (m2.add ⟨.cells (jM m1.next m1.next c p n).cells 155,false,none⟩):=Upd.add _ _ _;have g3:(m2.add ⟨.cells (jM m1.next m1.next c p n).cells 155,false,none⟩).get m2.next=some ⟨.cells (jM m1.next m1.next c p n).cells 155,false,none⟩:=Mem.qf ..;have n3:(m2.add ⟨.cells (jM m1.next m1.next c p n).cells 155,false,none⟩).next=m2.next+1:=rfl;have k3:=qq u3 (by omega) g2;have gc3:=qq u3 (by omega) gc2;have gp3:=qq u3 (by omega) gp2;generalize (m2.add ⟨.cells (jM m1.next m1.next c p n).cells 155,false,none⟩)=m3 at u3 g3 n3 k3 gc3 gp3;have hcp:vk 1 (.slice (some ⟨m2.next,0+1+0,none⟩) 20 20) 256 (xx.flat (qp 256)) m3=some (.int .i64 20,m3.put m2.next ⟨.cells (jM m1.next m1.next c p n).cells 155,false,none⟩):=by
  have how:m3.jF m2.next=some ((jM m1.next m1.next c p n).cells,155,none):=by simp [Mem.jF,g3]
  have hlen:(jM m1.next m1.next c p n).cells.length=25:=Wo.len (xE 20);have hfl:(xx.flat (qp 256)).length=256:=by rw [Enc.zd,xE]; rfl
  have hmin:Nat.min 256 20=20:=rfl;have hset:qQ (jM m1.next m1.next c p n).cells (0+1+0) ((xx.flat (qp 256)).take (20 * 1))=(jM m1.next m1.next c p n).cells:=by kernel_rfl
  simp only [vk,hmin,how,bmI];rw [if_neg (by omega),if_pos ⟨by rw [hlen]; omega,by omega,by rw [hfl],Enc.wu ..⟩,hset];rfl
 simp only [st0,nck,fa,slA g3,qbR,xE,hcp];have u4:Upd [m2.next] m3 (m3.put m2.next ⟨.cells (jM m1.next m1.next c p n).cells 155,false,none⟩):=Upd.put _ _ (by simp);have g4:(m3.put m2.next ⟨.cells (jM m1.next m1.next c p n).cells 155,false,none⟩).get m2.next=some ⟨.cells (jM m2.next m1.next c p n).cells 155,false,none⟩:=Mem.qe ..;have n4:(m3.put m2.next ⟨.cells (jM m1.next m1.next c p n).cells 155,false,none⟩).next=m3.next:=rfl;have k4:=(u4.same m1.next (by omega) (by simp; omega)).trans k3;have gc4:=(u4.same c (by omega) (by simp; omega)).trans gc3;have gp4:=(u4.same p (by omega) (by simp; omega)).trans gp3;have hbit:∀ k,jn (qp 20) k=false:=λk=>by
  unfold jn;rw [List.getD_eq_getElem?_getD,qp,List.getElem?_replicate];split<;>simp
 have hvf:∃ a cap,v=.slice a n cap:=by
  rcases hv with ⟨_,h0⟩|⟨b,cap,rest,lo,hv,_⟩
  ·have:=congrArg List.length h0; simp at this; omega
  ·exact ⟨_,cap,by rw [hv,List.length_replicate]⟩
 obtain ⟨a,cap,rfl⟩:=hvf;refine ⟨m2.next,m1.next,rfl,⟨⟨g4,xE 20,⟨0,none,k4⟩,⟨rs,_,_,_,gc4⟩,⟨_,a,cap,_,_,_,_,gp4⟩,hn2,by show m2.next<_; omega,by show m1.next<_; omega,by show c<_; omega,by show p<_; omega,⟨by show m2.next≠m1.next; omega,by show m2.next≠c; omega,by show m2.next≠p; omega,by show m1.next≠c; omega,by show m1.next≠p; omega⟩⟩,TAp.nil _,λb hb=>by simp [qc] at hb,λk=>?_⟩,by omega,by omega,((u1.qu u2).qu u3).then' u4 λb hb=>.inr (by simp at hb; omega),hX hx1 ((u2.qu u3).then' u4 λb hb=>.inr (by simp at hb; omega))⟩;simp [Wo.s,Wo.has,hbit]
end Go.Fx.Tryz
namespace Go.Fx.Tryz
open Go Go.Fx
theorem qgy (m:Mem):W (Call S tab 57 [str (qp 236)] m) λr m'=>∃ tm,r=.tuple #[.map (some tm),.bool true]/\m'.get tm=some ⟨.map [] 0,false,none⟩/\m.next<=tm/\tm<m'.next/\Upd [] m m':=by
 rw [C57];simp only [st0,WG,zK];have u1:Upd [] m (m.add (rdB (qp 236))):=Upd.add _ _ _;have g1:(m.add (rdB (qp 236))).get m.next=some (rdB (qp 236)):=Mem.qf ..;have n1:(m.add (rdB (qp 236))).next=m.next+1:=rfl;generalize (m.add (rdB (qp 236)))=m1 at u1 g1 n1;have u2:Upd [] m1 (m1.add ⟨.map [] 0,false,none⟩):=Upd.add _ _ _;have g2:(m1.add ⟨.map [] 0,false,none⟩).get m1.next=some ⟨.map [] 0,false,none⟩:=Mem.qf ..;have n2:(m1.add ⟨.map [] 0,false,none⟩).next=m1.next+1:=rfl;have r2:=qq u2 (by omega) g1;generalize (m1.add ⟨.map [] 0,false,none⟩)=m2 at u2 g2 n2 r2;have r2:m2.get m.next=some (rdB (0::qp 235)):=r2;refine qh.2 ((wa r2 (by omega) (by rw [lnI,xE]; omega)).mono λr3 m3 ⟨e3,r3,u3⟩=>?_);subst e3;have x3:=u3.next;have k3:=(u3.same m1.next (by omega) (by simp; omega)).trans g2;have e0:(((0:UInt8).toNat:Nat):Int)=0:=rfl;have c0:((0:Int)<0)=False:=eq_false (by omega);rw [P57_0_eq];simp only [st0,e0,c0];rw [P57_1_eq];have d0:decide ((0:Int)=0)=true:=rfl;have c12:((0:Int)<=12)=True:=eq_true (by omega);have hl:(qp 235).length=235:=xE 235;have hraw:=qbW r3 (by rw [hl]; omega);have eq0:arith .eql (str []) (.string ⟨#[]⟩)=some (.bool true):=jJ [] [];have htr:Call S tab 108 [str (qp 235),.string ⟨#[0]⟩] (m3.put m.next (rdB []))=some (str [],m3.put m.next (rdB [])):=qbO 235 (by omega) _;simp only [st0,He r3,hraw,QJ (Mem.qe m3 m.next _),d0,c12,htr,eq0];have u4:Upd [m.next] m3 (m3.put m.next (rdB [])):=Upd.put _ _ (by simp);exact ⟨m1.next,rfl,(u4.same m1.next (by omega) (by simp; omega)).trans k3,by omega,by show m1.next<m3.next; omega,((u1.qu u2).then' u3 λb hb=>.inr (by simp at hb; omega)).then' u4 λb hb=>.inr (by simp at hb; omega)⟩
theorem qes {o:Wo} {m:Mem} (h:WR o m):Call S tab 58 [.pointer (some ⟨o.w,0,none⟩)] m=some (str o.hd,m):=by
 refine W_eq ?_;have d0:decide ((0:Int)=0)=true:=rfl;have l:qa (.pointer (some ⟨o.w,0+1+20,none⟩)) m=some (str o.hd):=qm h.hw (Wo.at h.hu).2.2.1;rw [C58];simp only [st0,yi h,d0,nck,fa,l];exact ⟨trivial,trivial⟩
abbrev baB (c:Nat) (busy:Bool):ABlk:=⟨.cells [.pointer (some ⟨c,0,none⟩),.bool busy,.bool false] 119,false,none⟩
theorem qjR (b w tm:Nat):qt [.pointer none,.pointer none,.map none,.slice none 0 0,.bool false] [(0,1,.pointer (some ⟨b,0,none⟩)),(1,1,.pointer (some ⟨w,0,none⟩)),(2,1,.map (some tm))]=some [.pointer (some ⟨b,0,none⟩),.pointer (some ⟨w,0,none⟩),.map (some tm),.slice none 0 0,.bool false]:=rfl
abbrev qdx (t b tm:Nat) (o:Wo):To:=⟨t,b,tm,.slice none 0 0,[],o,[],[],0⟩
theorem VG {b c p d n:Nat} {v:Value} {m:Mem} {fp:List Nat} {X:Mem->Prop} (hX:∀ {m m'},X m->Upd [] m m'->X m') (hXb:∀ {m m'},X m->Upd [b] m m'->X m') (gb:m.get b=some (baB c false)) (lb:b<m.next)
  (hr:W (Call S tab 103 [.pointer (some ⟨c,0,none⟩),.int .i64 0] m) λr m'=>r=.tuple #[str (qp 256),.int .i64 0]/\Upd fp m m'/\X m'/\∃ rs,m'.get c=some ⟨.cells (.pointer (some ⟨p,0,none⟩)::rs) 184,false,none⟩)
  (gp:m.get p=some (pgB d v)) (hv:TAp encS 9 m v (List.replicate n (qp 256))) (hn:1<=n) (hn2:n<=160) (hlt:c<m.next/\p<m.next) (hne:c≠p) (hpf:p∉fp) (hbf:b∉fp) (hbn:b≠c/\b≠p) (hfl:∀ q∈fp,q<m.next) :
  W (Call S tab 25 [.pointer (some ⟨b,0,none⟩)] m) λr m'=>∃ t tm w pm,r=.tuple #[.pointer (some ⟨t,0,none⟩),.int .i64 0]/\TR (qdx t b tm (jM w pm c p n)) [] m'/\m'.get b=some (baB c true)/\m.next<=t/\(∀ q∈To.fp (qdx t b tm (jM w pm c p n)),m.next<=q)/\Upd (b::fp) m m'/\X m':=by
 have d0:decide ((0:Int)=0)=true:=rfl;have l0:qa (.pointer (some ⟨b,0+0,none⟩)) m=some (.pointer (some ⟨c,0,none⟩)):=qm gb rfl;have l1:qa (.pointer (some ⟨b,0+1,none⟩)) m=some (.bool false):=qm gb rfl;have l2:qa (.pointer (some ⟨b,0+2,none⟩)) m=some (.bool false):=qm gb rfl;rw [C25];simp only [st0,vJ,nck,fa,l0,l1,l2];refine qh.2 ((qgD hX hr gp hv hn hn2 hlt hne hpf).mono λr1 m1 ⟨w,pm,e1,wi1,w1,w2,u1,hx1⟩=>?_);subst e1;have x1:=u1.next;have gb1:=(u1.same b lb hbf).trans gb;simp only [st0,xt0,xt1,d0,qes wi1.wr];refine qh.2 ((qgy m1).mono λr2 m2 ⟨tm,e2,gt2,t1,t2,u2⟩=>?_);subst e2;have x2:=u2.next;have gb2:=qq u2 (by omega) gb1;simp only [st0,xt0,xt1,nck,fa];refine stp gb2 (by simp) rfl rfl λm3 u3 n3 g3=>?_
 have g3:m3.get b=some (baB c true):=g3;have k3:=(u3.same tm (by omega) (by simp; omega)).trans gt2;simp only [st0,qjR,qS];have u4:Upd [] m3 (m3.add ⟨.cells [.pointer (some ⟨b,0,none⟩),.pointer (some ⟨w,0,none⟩),.map (some tm),.slice none 0 0,.bool false] 97,false,none⟩):=Upd.add _ _ _;have g4:(m3.add ⟨.cells [.pointer (some ⟨b,0,none⟩),.pointer (some ⟨w,0,none⟩),.map (some tm),.slice none 0 0,.bool false] 97,false,none⟩).get m3.next=some (txB (qdx m3.next b tm (jM w pm c p n))):=Mem.qf ..;have n4:(m3.add ⟨.cells [.pointer (some ⟨b,0,none⟩),.pointer (some ⟨w,0,none⟩),.map (some tm),.slice none 0 0,.bool false] 97,false,none⟩).next=m3.next+1:=rfl;have wl:=wi1.lt;have hw:=wi1.wr;have lw:w<m1.next:=hw.lw;have lpm:pm<m1.next:=hw.lm;have hwb:∀ q∈[b],q∉(jM w pm c p n).zE/\q≠(jM w pm c p n).c/\q≠(jM w pm c p n).p:=λq hq=>by
  simp at hq; subst hq;refine ⟨λhm=>?_,hbn.1,hbn.2⟩;simp [Wo.zE,qc] at hm;omega
 have wi4:=((wi1.qn u2).upd u3 hwb).qn u4;have nf:∀ q,m1.next<=q->q∉(jM w pm c p n).zE:=λq h1 hm=>by have:=wl q hm; omega
 have fl:∀ q∈(jM w pm c p n).zE,m.next<=q:=λq hq=>by
  simp [Wo.zE,qc] at hq;omega
 obtain ⟨lc,lp⟩:=hlt;have us:∀ k,Wo.s (jM w pm c p n) k=none:=λk=>by
  have:=wi1.fu k;cases hs:Wo.s (jM w pm c p n) k with
  | none=>rfl
  | some x =>
   have e:Wo.s (jM w pm c p n) k=(if Wo.has (jM w pm c p n) k then lkL [] k else none):=rfl
   rw [hs] at e;split at e
   ·cases e
   ·cases e
 refine ⟨m3.next,tm,w,pm,rfl,⟨g4,qq u4 (by show tm<m3.next; omega) k3,wi4,TAp.nil _,⟨.refl _,.nil⟩,⟨by simp,by simp,.nil,by simp,by simp⟩,rfl,λt ht=>by simp at ht,.nil,λk hk=>absurd (us k) hk,⟨by show m3.next<m3.next+1; omega,by show tm<m3.next+1; omega⟩,⟨by show m3.next≠tm; omega,⟨nf m3.next (by omega),by show m3.next≠c; omega,by show m3.next≠p; omega⟩,nf tm t1,by show tm≠c; omega,by show tm≠p; omega⟩,λq hq=>by simp [qc] at hq⟩,qq u4 (by omega) g3,by omega,λq hq=>?_,?_,hX (hXb (hX hx1 u2) u3) u4⟩
 ·simp only [To.fp,lcI] at hq;rcases hq with h|h|h
  ·omega
  ·omega
  ·exact fl q h
 ·exact (((u1.mono λq hq _=>by simp [hq]).qu u2).trans (u3.mono λq hq _=>by simp at hq; simp [hq])).qu u4
theorem Rd1.upd {c cm lk p ht:Nat} {m m':Mem} {fp:List Nat} (h:Rd1 c cm lk p ht m) (u:Upd fp m m') (hf:c∉fp/\cm∉fp/\lk∉fp):Rd1 c cm lk p ht m':=by
 have hx:=u.next;obtain ⟨l1,l2,l3⟩:=h.lt;exact ⟨(u.same _ l1 hf.1).trans h.gc,(u.same _ l3 hf.2.2).trans h.gl,(u.same _ l2 hf.2.1).trans h.gm,⟨by omega,by omega,by omega⟩,h.ne⟩
theorem qda {x:To} {T:List Tb} {c:Nat} {m:Mem} (h:TR x T m) (gb:m.get x.b=some (baB c true)) (hbl:x.b<m.next) (hne:x.b≠x.t):W (Call S tab 54 [x.v] m) λr m'=>r=.int .i64 0/\m'.get x.b=some (baB c false)/\Upd [x.t,x.b] m m':=by
 have d0:decide ((0:Int)=0)=true:=rfl;have l0:qa (.pointer (some ⟨x.t,0+0,none⟩)) m=some (.pointer (some ⟨x.b,0,none⟩)):=qm h.tx rfl;rw [C54];simp only [st0,wA h,d0];rw [qmM];simp only [st0,nck,fa,l0];refine qh.2 ?_;refine stp h.tx (by simp) rfl rfl λm1 u1 n1 g1=>?_
 have gb1:=(u1.same x.b hbl (by simp; exact hne)).trans gb;refine stp gb1 (by simp) rfl rfl λm2 u2 n2 g2=>?_
 exact zv.2 (zv.2 ⟨rfl,g2,(u1.mono λb hb _=>by simp at hb; simp [hb]).trans (u2.mono λb hb _=>by simp at hb; simp [hb])⟩)
set_option maxRecDepth 4000 in
theorem qgB {n d sb um:Nat} (hn1:1<=n) (hn:n<=160) {m:Mem} (hdv:Dv d sb um (126+4 * n) m) (hd1:d<m.next):W (Call S tab 22 [.pointer (some ⟨d,0,none⟩),.int .i64 (n:Int)] m) λr m'=>∃ b c cm p lk v,r=.tuple #[.pointer (some ⟨b,0,none⟩),.int .i64 0]/\m'.get b=some (baB c false)/\b<m'.next/\Rd1 c cm lk p 0 m'/\m'.get p=some (pgB d v)/\p<m'.next/\TAp encS 9 m' v (List.replicate n (qp 256))/\(m.next<=b/\m.next<=c/\m.next<=cm/\m.next<=p/\m.next<=lk)/\(b≠c/\b≠cm/\b≠p/\b≠lk/\c≠p/\cm≠p/\lk≠p)/\Upd [] m m':=by
 have d0:decide ((0:Int)=0)=true:=rfl;rw [C22];refine qh.2 ((qeZ hn1 hn hdv).mono λr2 m2 ⟨p,v,e,gp,lp,hv,hp1,u2⟩=>?_);subst e;have x2:=u2.next;simp only [st0,xt0,xt1,d0];refine qh.2 ((qik p m2).mono λr3 m3 ⟨c,cm,e,gc,gm,lc,lm,hcm,hc1,hc2,u3⟩=>?_);subst e;have x3:=u3.next;have gp3:=qq u3 lp gp;have fb:qt [.pointer none,.bool false,.bool false] [(0,1,.pointer (some ⟨c,0,none⟩))]=some [.pointer (some ⟨c,0,none⟩),.bool false,.bool false]:=rfl;simp only [st0,fb,qS];have u4:Upd [] m3 (m3.add (baB c false)):=Upd.add _ _ _;have g4:(m3.add (baB c false)).get m3.next=some (baB c false):=Mem.qf ..;have n4:(m3.add (baB c false)).next=m3.next+1:=rfl;have gc4:=qq u4 lc gc;have gm4:=qq u4 lm gm;have gp4:=qq u4 (by omega) gp3;have hv4:=(hv.qn u3).qn u4;generalize (m3.add (baB c false))=m4 at u4 g4 n4 gc4 gm4 gp4 hv4;have hr:=qdX gc4 gm4 gp4 hv4 hn1 ⟨by omega,by omega,by omega⟩ ⟨hcm,by omega,by omega⟩;refine qh.2 ((VG (X:=λM=>∃ lk,Rd1 c cm lk p 0 M/\m4.next<=lk) (λ⟨lk,h1,h2⟩ u=>⟨lk,h1.qn u,h2⟩) (λ⟨lk,h1,h2⟩ u=>⟨lk,h1.upd u (by simp; omega),h2⟩) g4 (by omega) (hr.mono λr M ⟨q1,q2,lk,q3,q4⟩=>⟨q1,q2,⟨lk,q3,q4⟩,_,q3.gc⟩) gp4 hv4 hn1 hn ⟨by omega,by omega⟩ (by omega) (by simp; omega) (by simp; omega) ⟨by omega,by omega⟩ (λq hq=>by simp at hq; omega)).mono λr5 m5 ⟨t,tm,w,pm,e,tr,gb5,ht,hfp,u5,lk,hrd,hlk⟩=>?_);subst e;have x5:=u5.next;have tl:=tr.lt.1;have tl:t<m5.next:=tl;simp only [st0,xt0,xt1,d0];refine qh.2 ((qda tr gb5 (by show m3.next<m5.next; omega) (by show m3.next≠t; omega)).mono λr6 m6 ⟨e,g6,u6⟩=>?_);subst e;have x6:=u6.next;have u6:Upd [t,m3.next] m5 m6:=u6;have tfp:t∈To.fp (qdx t m3.next tm (jM w pm c p n)):=by simp [To.fp]
 have tne:=tr.ne.2.1;have rl:=hrd.lt;have gp5:=(u5.same p (by omega) (by simp; omega)).trans gp4;have gp6:=(u6.same p (by omega) (by simp; omega)).trans gp5;have hvl:=hv4.lt;have hvn:∀ q∈qc v,q≠c/\q≠cm/\q≠m3.next:=λq hq=>by have:=hv.lt q hq; omega
 have hv5:=hv4.upd u5 λq hq hm=>by have:=hvn q hq; simp at hm; omega
 have hv6:=hv5.upd u6 λq hq hm=>by have:=hvn q hq; have:=hvl q hq; simp at hm; omega
 have lkt:lk≠t:=λe=>by
  have h1:=hrd.gl;have h2:m5.get t=some (txB (qdx t m3.next tm (jM w pm c p n))):=tr.tx;rw [e,h2] at h1;simp at h1
 refine zv.2 ⟨m3.next,c,cm,p,lk,v,rfl,g6,by show m3.next<m6.next; omega,hrd.upd u6 (by simp; omega),gp6,by show p<m6.next; omega,hv6,⟨by omega,by omega,by omega,by omega,by omega⟩,⟨by omega,by omega,by omega,by omega,by omega,by omega,by omega⟩,((((u2.qu u3).qu u4).then' u5 λq hq=>.inr (by simp at hq; omega)).then' u6 λq hq=>.inr (by simp at hq; omega))⟩
set_option maxRecDepth 4000 in
theorem HW {n:Nat} (hn1:1<=n) (hn:n<=160) (m:Mem):W (Call S tab 8 [.int .i64 (n:Int)] m) λr m'=>∃ x,TR x [] m'/\r=x.v/\x.ns=[]/\x.nts=[]/\x.ts=[]/\x.nb=.slice none 0 0/\x.o.P=n/\(∀ q∈x.fp,m.next<=q)/\m.next<=x.o.c/\m.next<=x.o.p/\Upd [] m m':=by
 have d0:decide ((0:Int)=0)=true:=rfl;rw [C8];simp only [st0,qch n (by omega)];refine qh.2 ((qii n hn m).mono λr1 m1 ⟨d,sb,um,e,hdv,hd1,u1⟩=>?_);subst e;have x1:=u1.next;refine qh.2 ((qgB hn1 hn hdv hd1).mono λr2 m2 ⟨b,c,cm,p,lk,v,e,gb,lb,hrd,gp,lp,hv,⟨b1,b2,b3,b4,b5⟩,⟨k1,k2,k3,k4,k5,k6,k7⟩,u2⟩=>?_);subst e;have x2:=u2.next;have rl:=hrd.lt;simp only [st0,xt0,xt1,d0];refine qh.2 ((VG (X:=λ_=>True) (λ_ _=>trivial) (λ_ _=>trivial) gb lb ((qdW hrd).mono λr M ⟨q1,q2,q3⟩=>⟨q1,q2,trivial,_,q3.gc⟩) gp hv hn1 hn ⟨rl.1,lp⟩ k5 (by simp [Ne.symm k5,Ne.symm k6,Ne.symm k7]) (by simp [k1,k2,k4]) ⟨k1,k3⟩ (λq hq=>by simp at hq; rcases hq with h|h|h<;>rw [h]; exact rl.1; exact rl.2.1; exact rl.2.2)).mono λr5 m5 ⟨t,tm,w,pm,e,tr,gb5,ht,hfp,u5,_⟩=>?_);subst e;simp only [st0,xt0,xt1,d0];clear k1 k2 k3 k4 k5 k6 k7;exact ⟨qdx t b tm (jM w pm c p n),tr,rfl,rfl,rfl,rfl,rfl,rfl,λq hq=>by have:=hfp q hq; omega,by show m.next<=c; omega,by show m.next<=p; omega,(u1.qu u2).then' u5 λq hq=>.inr (by simp at hq; omega)⟩
end Go.Fx.Tryz
