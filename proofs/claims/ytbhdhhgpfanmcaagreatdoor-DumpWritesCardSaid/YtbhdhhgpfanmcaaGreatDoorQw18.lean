/- Parts of a proof: TreeU, TreeV, TreeW, TreeXb, TreeXa, TreeX, TreeY. Conditions: none. -/
import Derived.Test.YtbhdhhgpfanmcaaGreatDoorQw17
set_option linter.unusedSimpArgs false
set_option linter.unusedVariables false
namespace Go.Fx.Tryz
open Go Go.Fx
theorem yJ {a b:Bs}:ltB a b=true↔a<b:=by simp [ltB]
theorem qci {a b:Bs}:ltB a b=false↔¬ a<b:=by simp [ltB]
theorem jI (a:Bs):ltB a a=false:=qci.2 (List.lt_irrefl a)
theorem zT {a b c:Bs} (h1:ltB a b=true) (h2:ltB b c=true):ltB a c=true:=yJ.2 (List.lt_trans (yJ.1 h1) (yJ.1 h2))
theorem zU {a b:Bs} (h:ltB a b=true):ltB b a=false:=by
 cases hb:ltB b a with
 | false=>rfl
 | true=>have:=zT h hb; rw [jI] at this; cases this
theorem XN {a b:Bs} (h1:ltB a b=false) (h2:ltB b a=false):a=b:=by
 have:=leB_eq a b;rw [h1,h2] at this;simpa using this
theorem xu {a b c:Bs} (h1:ltB a b=true) (h2:ltB c b=false):ltB a c=true:=by
 cases h:ltB b c with
 | true=>exact zT h1 h
 | false=>rw [<- XN h h2]; exact h1
theorem jR {a b c:Bs} (h1:ltB b a=false) (h2:ltB b c=true):ltB a c=true:=by
 cases h:ltB a b with
 | true=>exact zT h h2
 | false=>rw [XN h h1]; exact h2
theorem Qn {a b:Bs} (h:ltB a b=true):a≠b:=by rintro rfl; rw [jI] at h; cases h
theorem qL {k:Bs} {ks:List Bs} (h:qE (k::ks)=true):qE ks=true/\∀ j∈ks,ltB k j=true:=by
 induction ks generalizing k with
 | nil=>exact ⟨rfl,by simp⟩
 | cons j ks ih =>
  simp only [qE,baI,decide_eq_true_eq] at h;have hr:qE (j::ks)=true:=by simp only [qE,baI,decide_eq_true_eq]; exact h.2
  refine ⟨hr,λx hx=>?_⟩;rcases lcI.1 hx with rfl|hx
  ·exact h.1.2
  ·exact zT h.1.2 ((ih hr).2 x hx)
theorem qbo {k key:Bs} {ks:List Bs} (h:qE (k::ks)=true):zM (k::ks) key=if ltB key k then 0 else zM ks key+1:=by
 unfold zM;cases hk:ltB key k with
 | false=>simp [hk]
 | true =>
  have:(ks.filter λj=>!ltB key j)=[]:=List.filter_eq_nil_iff.2 (λj hj=>by simp [zT hk ((qL h).2 j hj)]);simp [hk,this]
theorem kR {k:Bs} {ks:List Bs} (h0:k≠[]/\k.length<=32) (h:qE ks=true) (h1:∀ j∈ks,ltB k j=true):qE (k::ks)=true:=by
 cases ks with
 | nil=>simp [qE,h0.1,h0.2]
 | cons j r =>
  simp only [qE,baI,decide_eq_true_eq] at h ⊢;exact ⟨⟨h0,h1 j (by simp)⟩,h⟩
def Rng (R:TP):Prop:=∀ p lo hi l S,R p lo hi l S->∀ x∈l,inR lo hi x.1
theorem qgZ {R:TP} (hR:Rng R):∀ (ks:List Bs) (ps:List Nat) (lo:Bs) (hi:Option Bs) (l:List Pr) (S:List Nat),qE ks=true->(∀ k∈ks,ltB lo k=true)->Fo R lo hi ks ps l S->∀ x∈l,ltB x.1 lo=false
 | [],[p],lo,hi,l,S,_,_,hf=>λx hx=>(hR _ _ _ _ _ hf x hx).1
 | k::ks,p::ps,lo,hi,l,S,hr,hk,⟨l1,S1,l2,S2,h1,h2,h3,h4⟩=>λx hx=>by
  subst h3;rcases List.mem_append.1 hx with h|h
  ·exact (hR _ _ _ _ _ h1 x h).1
  ·have:=qgZ hR ks ps k hi l2 S2 (qL hr).1 (qL hr).2 h2 x h;exact zU (xu (hk k (by simp)) this)
 | [],[],_,_,_,_,_,_,hf=>hf.elim
 | [],_::_::_,_,_,_,_,_,_,hf=>hf.elim
 | _::_,[],_,_,_,_,_,_,hf=>hf.elim
theorem Hz {lo lo':Bs} {hi hi':Option Bs} {k:Bs} (h:inR lo' hi' k) (hl:ltB lo' lo=false) (hh:∀ e,hi=some e->∃ e',hi'=some e'/\ltB e e'=false):inR lo hi k:=by
 refine ⟨?_,λe he=>?_⟩
 ·cases hc:ltB k lo with
  | false=>rfl
  | true=>have:=xu hc hl; rw [h.1] at this; cases this
 ·obtain ⟨e',h1,h2⟩:=hh e he;exact xu (h.2 e' h1) h2
theorem qbC {R:TP} (hR:Rng R):∀ (ks:List Bs) (ps:List Nat) (lo:Bs) (hi:Option Bs) (l:List Pr) (S:List Nat),qE ks=true->(∀ k∈ks,inR lo hi k)->Fo R lo hi ks ps l S->∀ x∈l,inR lo hi x.1
 | [],[p],lo,hi,l,S,_,_,hf=>λx hx=>hR _ _ _ _ _ hf x hx
 | k::ks,p::ps,lo,hi,l,S,hr,hk,⟨l1,S1,l2,S2,h1,h2,h3,h4⟩=>λx hx=>by
  subst h3;have hkk:=hk k (by simp);rcases List.mem_append.1 hx with h|h
  ·exact Hz (hR _ _ _ _ _ h1 x h) (jI lo) (λe he=>⟨k,rfl,by
    have:=hkk.2 e he;exact zU this⟩)
  ·refine Hz (qbC hR ks ps k hi l2 S2 (qL hr).1 (λj hj=>⟨zU ((qL hr).2 j hj),(hk j (by simp [hj])).2⟩) h2 x h) hkk.1 (λe he=>⟨e,he,jI e⟩)
 | [],[],_,_,_,_,_,_,hf=>hf.elim
 | [],_::_::_,_,_,_,_,_,_,hf=>hf.elim
 | _::_,[],_,_,_,_,_,_,hf=>hf.elim
theorem inK.r {lo:Bs} {hi:Option Bs} {k:Bs} (h:inK lo hi k):inR lo hi k:=⟨zU h.1,h.2⟩
theorem Qw (s:Nat->Option Bs):∀ h,Rng (Tr s h)
 | 0=>λp lo hi l S ⟨_,_,_,_,h3,_⟩=>h3.2.1
 | h+1=>λp lo hi l S ⟨n,S',hp,_,⟨ks,ps,e,hk,hf⟩,_⟩=>by
  subst e;exact qbC (Qw s h) ks ps lo hi l S' (zo hp.rt rfl).2.2.1 (λk hk'=>(hk k hk').r) hf
theorem qgX {s:Nat->Option Bs} {h:Nat} {n:Nd} {lo:Bs} {hi:Option Bs} {l:List Pr} {S:List Nat} (hr:qO n=true) (hn:Nt s h n lo hi l S):∀ x∈l,inR lo hi x.1:=by
 cases h with
 | zero=>exact hn.2.1
 | succ h =>
  obtain ⟨ks,ps,e,hk,hf⟩:=hn;subst e;exact qbC (Qw s h) ks ps lo hi l S (zo hr rfl).2.2.1 (λk hk'=>(hk k hk').r) hf
theorem qbF {R:TP} {P:Nat->Prop} (hR:∀ p lo hi l S,R p lo hi l S->∀ q∈S,P q):∀ (ks:List Bs) (ps:List Nat) (lo:Bs) (hi:Option Bs) (l:List Pr) (S:List Nat),Fo R lo hi ks ps l S->∀ q∈S,P q
 | [],[p],lo,hi,l,S,hf=>hR _ _ _ _ _ hf
 | k::ks,p::ps,lo,hi,l,S,⟨l1,S1,l2,S2,h1,h2,h3,h4⟩=>λq hq=>by
  subst h4;rcases List.mem_append.1 hq with h|h
  ·exact hR _ _ _ _ _ h1 q h
  ·exact qbF hR ks ps _ _ _ _ h2 q h
 | [],[],_,_,_,_,hf=>hf.elim
 | [],_::_::_,_,_,_,_,hf=>hf.elim
 | _::_,[],_,_,_,_,hf=>hf.elim
theorem vQ (s:Nat->Option Bs):∀ (h:Nat) (p:Nat) (lo:Bs) (hi:Option Bs) (l:List Pr) (S:List Nat),Tr s h p lo hi l S->∀ q∈S,s q≠none
 | 0,p,lo,hi,l,S,⟨n,S',hp,_,h3,hS⟩=>λq hq=>by
  obtain ⟨_,_,h3⟩:=h3;subst h3 hS;simp at hq; subst hq; rw [hp.pg]; simp
 | h+1,p,lo,hi,l,S,⟨n,S',hp,_,⟨ks,ps,_,_,hf⟩,hS⟩=>λq hq=>by
  subst hS;rcases lcI.1 hq with rfl|hq
  ·rw [hp.pg]; simp
  ·exact qbF (vQ s h) ks ps _ _ _ _ hf q hq
theorem qir {s:Nat->Option Bs} {h:Nat} {n:Nd} {lo:Bs} {hi:Option Bs} {l:List Pr} {S:List Nat} (hn:Nt s h n lo hi l S):∀ q∈S,s q≠none:=by
 cases h with
 | zero=>rw [hn.2.2]; simp
 | succ h =>
  obtain ⟨ks,ps,_,_,hf⟩:=hn;exact qbF (vQ s h) ks ps _ _ _ _ hf
theorem Xq (w:List Nat) (most all W:Nat) (hW:∀ a∈w,a<=W):∀ (d i:Nat),w.length<=i+d->i<=w.length->2 * (w.take i).sum<=all+2 * W ->
  2 * (w.take (xC w most all d i (w.take i).sum)).sum<=all+2 * W/\(most<=xC w most all d i (w.take i).sum∨all<=2 * (w.take (xC w most all d i (w.take i).sum)).sum∨w.length<=xC w most all d i (w.take i).sum)
 | 0,i,hd,hi,hs=>by unfold xC; exact ⟨hs,.inr (.inr (by omega))⟩
 | d+1,i,hd,hi,hs=>by
  unfold xC;by_cases hc:i=0∨(i<most/\2 * (w.take i).sum<all)
  ·rw [if_pos hc];by_cases hlt:i<w.length
   ·have hg:w.getD i 0=w[i]:=by rw [List.getD_eq_getElem?_getD,List.getElem?_eq_getElem hlt]; rfl
    have hw:=hW _ (List.getElem_mem hlt);rw [hg,<- kJ w hlt];refine Xq w most all W hW d (i+1) (by omega) hlt ?_;rw [kJ w hlt];rcases hc with h|h
    ·subst h; simp; omega
    ·omega
   ·have hg:w.getD i 0=0:=by rw [List.getD_eq_getElem?_getD,List.getElem?_eq_none (by omega)]; rfl
    have h1:w.take (i+1)=w.take i:=by rw [List.take_of_length_le (by omega),List.take_of_length_le (by omega)]
    have hge:=ZR w most all d (i+1) ((w.take i).sum+w.getD i 0);rw [hg,Nat.add_zero] at hge ⊢;refine ⟨?_,.inr (.inr (by omega))⟩;rw [List.take_of_length_le (by omega)];rw [List.take_of_length_le (by omega)] at hs;exact hs
  ·rw [if_neg hc];refine ⟨hs,?_⟩;by_cases h1:i<most
   ·exact .inr (.inl (by omega))
   ·exact .inl (by omega)
theorem JT {w:List Nat} {most W:Nat} (hW:∀ a∈w,a<=W):2 * (w.take (vf w most)).sum<=w.sum+2 * W/\(most<=vf w most∨w.sum<=2 * (w.take (vf w most)).sum∨w.length<=vf w most):=by
 have:=Xq w most w.sum W hW w.length 0 (by omega) (by omega) (by simp);simpa [vf] using this
theorem vM {k:Bs} {ks:List Bs} (h:qE (k::ks)=true):k≠[]/\k.length<=32:=by
 simp only [qE,baI,decide_eq_true_eq] at h;exact h.1.1
theorem xU:∀ (l:List Bs) (i:Nat),qE l=true->qE (l.drop i)=true
 | l,0,h=>h
 | [],i+1,h=>h
 | k::l,i+1,h=>xU l i (qL h).1
theorem xH:∀ (l:List Bs) (i:Nat),qE l=true->qE (l.take i)=true
 | l,0,h=>by simp [qE]
 | [],i+1,h=>by simp [qE]
 | k::l,i+1,h=>by
  rw [List.take_succ_cons];exact kR (vM h) (xH l i (qL h).1) (λj hj=>(qL h).2 j (List.mem_of_mem_take hj))
theorem vt {l:List Pr} (h1:qE (l.map (·.1))=true) (h2:∀ p∈l,p.2.length<=40):qO (Nd.lf l)=true:=by
 simp only [qO,Nd.lf,if_true,baI,List.all_eq_true,decide_eq_true_eq,List.isEmpty_iff];exact ⟨⟨⟨trivial,trivial⟩,h1⟩,h2⟩
theorem vr {ks:List Bs} {ps:List Nat} (h0:ps.length=ks.length+1) (h1:qE ks=true) (h2:∀ k∈ps,1<=k/\k<=65535):qO (Nd.nd ks ps)=true:=by
 simp only [qO,Nd.nd,Bool.false_eq_true,if_false,baI,List.all_eq_true,decide_eq_true_eq,List.isEmpty_iff];exact ⟨⟨⟨trivial,decide_eq_true h0⟩,h1⟩,h2⟩
theorem qaq {l:List Pr} (hr:qE (l.map (·.1))=true) (hv:∀ p∈l,p.2.length<=40) (h2:2<=l.length) (hs:(l.map qJ).sum<=344) :
  1<=zs l/\zs l<l.length/\qO (Nd.lf (l.take (zs l)))=true/\qW (Nd.lf (l.take (zs l)))<=256/\qO (Nd.lf (l.drop (zs l)))=true/\qW (Nd.lf (l.drop (zs l)))<=256:=by
 have h1:1<=zs l:=Zd (by cases l with|nil=>simp at h2|cons a r=>simp)
 have hle:zs l<=l.length - 1:=Zc (by omega);have hW:∀ a∈l.map qJ,a<=74:=by
  intro a ha;obtain ⟨p,hp,rfl⟩:=List.mem_map.1 ha;obtain ⟨i,hi,rfl⟩:=List.mem_iff_getElem.1 hp;have:=(zW hr i (by simpa using hi)).2.1;rw [List.getElem_map] at this;have:=hv _ (List.getElem_mem hi);unfold qJ; omega
 obtain ⟨s1,s2⟩:=JT (most:=l.length - 1) hW;have hsum:=congrArg List.sum (List.take_append_drop (zs l) (l.map qJ));rw [List.sum_append] at hsum;have e1:(l.take (zs l)).map qJ=(l.map qJ).take (zs l):=List.map_take ..;have e2:(l.drop (zs l)).map qJ=(l.map qJ).drop (zs l):=List.map_drop ..;refine ⟨h1,by omega,vt (by rw [List.map_take]; exact xH _ _ hr) (λp hp=>hv p (List.mem_of_mem_take hp)),?_,vt (by rw [List.map_drop]; exact xU _ _ hr) (λp hp=>hv p (List.mem_of_mem_drop hp)),?_⟩
 ·show 2+((l.take (zs l)).map qJ).sum<=256;rw [e1];have:vf (l.map qJ) (l.length - 1)=zs l:=rfl;rw [this] at s1;omega
 ·show 2+((l.drop (zs l)).map qJ).sum<=256;rw [e2];have hh:vf (l.map qJ) (l.length - 1)=zs l:=rfl;rw [hh] at s2;by_cases hc:(l.map qJ).sum<=2 * ((l.map qJ).take (zs l)).sum
  ·omega
  ·have hx:l.length - 1<=zs l:=by
    rcases s2 with h|h|h
    ·exact h
    ·omega
    ·simp at h; omega
   have:=vi (λa:Nat=>a) 74 ((l.map qJ).drop (zs l)) (λa ha=>hW a (List.mem_of_mem_drop ha));rw [List.map_id',ldI,List.length_map] at this;have:(l.length - zs l) * 74<=1 * 74:=Nat.mul_le_mul_right _ (by omega);omega
theorem YJ {ks:List Bs} {ps:List Nat} (hr:qE ks=true) (h0:ps.length=ks.length+1) (hp:∀ k∈ps,1<=k/\k<=65535) (h2:3<=ks.length) (hs:(ks.map λk=>3+k.length).sum<=430) :
  1<=zq ks/\zq ks+1<ks.length/\qO (Nd.nd (ks.take (zq ks)) (ps.take (zq ks+1)))=true/\qW (Nd.nd (ks.take (zq ks)) (ps.take (zq ks+1)))<=256/\qO (Nd.nd (ks.drop (zq ks+1)) (ps.drop (zq ks+1)))=true/\qW (Nd.nd (ks.drop (zq ks+1)) (ps.drop (zq ks+1)))<=256:=by
 have h1:1<=zq ks:=Zd (by cases ks with|nil=>simp at h2|cons a r=>simp)
 have hle:zq ks<=ks.length - 2:=Zc (by omega);have hW:∀ a∈ks.map (λk=>3+k.length),a<=35:=by
  intro a ha;obtain ⟨p,hp,rfl⟩:=List.mem_map.1 ha;obtain ⟨i,hi,rfl⟩:=List.mem_iff_getElem.1 hp;have:=(zW hr i hi).2.1;omega
 obtain ⟨s1,s2⟩:=JT (most:=ks.length - 2) hW;have hh:vf (ks.map λk=>3+k.length) (ks.length - 2)=zq ks:=rfl;rw [hh] at s1 s2;have hsum:=congrArg List.sum (List.take_append_drop (zq ks) (ks.map λk=>3+k.length));rw [List.sum_append] at hsum;have hd:(((ks.map λk=>3+k.length).drop (zq ks+1)).sum)<=((ks.map λk=>3+k.length).drop (zq ks)).sum:=by
  rw [List.drop_eq_getElem_cons (i:=zq ks) (by simp; omega),List.sum_cons]; omega
 have e1:(ks.take (zq ks)).map (λk=>3+k.length)=(ks.map λk=>3+k.length).take (zq ks):=List.map_take ..;have e2:(ks.drop (zq ks+1)).map (λk=>3+k.length)=(ks.map λk=>3+k.length).drop (zq ks+1):=List.map_drop ..;refine ⟨h1,by omega,vr (by rw [ltI,ltI]; omega) (xH _ _ hr) (λk hk=>hp k (List.mem_of_mem_take hk)),?_,vr (by rw [ldI,ldI]; omega) (xU _ _ hr) (λk hk=>hp k (List.mem_of_mem_drop hk)),?_⟩
 ·show 4+((ks.take (zq ks)).map λk=>3+k.length).sum<=256;rw [e1]; omega
 ·show 4+((ks.drop (zq ks+1)).map λk=>3+k.length).sum<=256;rw [e2];by_cases hc:(ks.map λk=>3+k.length).sum<=2 * ((ks.map λk=>3+k.length).take (zq ks)).sum
  ·omega
  ·have hx:ks.length - 2<=zq ks:=by
    rcases s2 with h|h|h
    ·exact h
    ·omega
    ·simp at h; omega
   have:=vi (λa:Nat=>a) 35 ((ks.map λk=>3+k.length).drop (zq ks+1)) (λa ha=>hW a (List.mem_of_mem_drop ha));rw [List.map_id',ldI,List.length_map] at this;have:(ks.length - (zq ks+1)) * 35<=1 * 35:=Nat.mul_le_mul_right _ (by omega);omega
end Go.Fx.Tryz
namespace Go.Fx.Tryz
open Go Go.Fx
def Wo.s (o:Wo) (k:Nat):Option Bs:=if o.has k then lkL o.L k else none
def zI (s:Nat->Option Bs) (p:Nat) (d:Option Bs):Nat->Option Bs:=λk=>if k=p then d else s k
theorem Wo.qiH {o:Wo} {k:Nat} {d:Bs} (h:o.s k=some d):o.has k=true/\lkL o.L k=some d:=by
 unfold Wo.s at h;split at h
 ·exact ⟨by assumption,h⟩
 ·cases h
theorem Wo.vj {o:Wo} {p:Nat} (h:o.has p=true) (d:Bs) (c:Nat):Wo.s { o with L:=upL o.L p d c } = zI o.s p (some d):=by
 funext k;have e:Wo.has { o with L:=upL o.L p d c } k=o.has k:=rfl;unfold Wo.s zI;rw [e,qcj];by_cases hk:k=p
 ·subst hk; rw [h]; simp
 ·simp [hk]
theorem Wo.Za {o:Wo} (hu:o.u.length=20) (hP:o.P<=160) {n:Nat} (hn:n<o.P) (k:Nat) (L:Pg):Wo.has { o with u:=xg o.u n,L:=L } k=(decide (1<=k)&&decide (k<o.P)&&(jn o.u k ^^ decide (k=n))):=by
 unfold Wo.has;show (decide (1<=k)&&decide (k<o.P)&&jn (xg o.u n) k)=_;rw [XZ o.u (by omega)]
theorem Wo.Wn {o:Wo} (hu:o.u.length=20) (hP:o.P<=160) {n:Nat} (h1:1<=n) (hn:n<o.P) (hb:jn o.u n=false) (d:Bs) (c:Nat):Wo.s { o with u:=xg o.u n,L:=upL o.L n d c } = zI o.s n (some d):=by
 funext k;unfold Wo.s zI;rw [Wo.Za hu hP hn];by_cases hk:k=n
 ·subst hk; simp [h1,hn,hb,qcj]
 ·simp only [decide_eq_false hk,Bool.xor_false,qcj,if_neg hk]; rfl
theorem Wo.qaB {o:Wo} (hu:o.u.length=20) (hP:o.P<=160) {n:Nat} (h:o.has n=true):Wo.s { o with u:=xg o.u n } = zI o.s n none:=by
 have h':=h;unfold Wo.has at h';simp only [baI,decide_eq_true_eq] at h';funext k;unfold Wo.s zI;have:=Wo.Za hu hP h'.1.2 k o.L;rw [this];by_cases hk:k=n
 ·subst hk; simp [h'.2]
 ·simp only [decide_eq_false hk,Bool.xor_false,if_neg hk]; rfl
end Go.Fx.Tryz
namespace Go.Fx.Tryz
open Go Go.Fx
theorem jQ:∀ (a b:List Bs),qE a=true->qE b=true->(∀ i∈a,∀ j∈b,ltB i j=true)->qE (a++b)=true
 | [],b,_,hb,_=>hb
 | k::a,b,ha,hb,h=>by
  refine kR (vM ha) (jQ a b (qL ha).1 hb (λi hi j hj=>h i (by simp [hi]) j hj)) (λj hj=>?_);rcases List.mem_append.1 hj with hj|hj
  ·exact (qL ha).2 j hj
  ·exact h k (by simp) j hj
theorem vl:∀ (a:List Bs) (k:Bs) (b:List Bs),qE (a++k::b)=true->(∀ j∈a,ltB j k=true)/\(∀ j∈b,ltB k j=true)/\qE a=true/\qE b=true/\k≠[]/\k.length<=32
 | [],k,b,h=>⟨by simp,(qL h).2,rfl,(qL h).1,vM h⟩
 | i::a,k,b,h=>by
  obtain ⟨h1,h2,h3,h4,h5⟩:=vl a k b (qL h).1;refine ⟨λj hj=>?_,h2,kR (vM h) h3 (λj hj=>(qL h).2 j (by simp [hj])),h4,h5⟩;rcases lcI.1 hj with rfl|hj
  ·exact (qL h).2 k (by simp)
  ·exact h1 j hj
theorem Qh {a:List Bs} {k:Bs} {b:List Bs} (ha:qE a=true) (hb:qE b=true) (hk:k≠[]/\k.length<=32) (h1:∀ j∈a,ltB j k=true) (h2:∀ j∈b,ltB k j=true):qE (a++k::b)=true :=
 jQ a (k::b) ha (kR hk hb h2) (λi hi j hj=>by
  rcases lcI.1 hj with rfl|hj
  ·exact h1 i hi
  ·exact zT (h1 i hi) (h2 j hj))
abbrev rowP (l:List Pr):Prop:=qE (l.map (·.1))=true/\∀ p∈l,p.2.length<=40
theorem ZH (key:Bs):∀ l:List Pr,qE (l.map (·.1))=true->∃ A B C,l=A++(B++C)/\(∀ x∈A,ltB x.1 key=true)/\(∀ x∈C,ltB key x.1=true)/\(B=[]∨∃ v,B=[(key,v)])
 | [],_=>⟨[],[],[],rfl,by simp,by simp,.inl rfl⟩
 | x::l,h=>by
  rw [List.map_cons] at h;have ht:=(qL h).2;cases h1:ltB x.1 key with
  | true =>
   obtain ⟨A,B,C,e,a,b,c⟩:=ZH key l (qL h).1;refine ⟨x::A,B,C,by rw [e]; rfl,λy hy=>?_,b,c⟩;rcases lcI.1 hy with rfl|hy
   ·exact h1
   ·exact a y hy
  | false =>
   have hl:∀ y∈l,ltB key y.1=true:=λy hy=>jR h1 (ht y.1 (List.mem_map_of_mem hy))
   cases h2:ltB key x.1 with
   | true =>
    refine ⟨[],[],x::l,rfl,by simp,λy hy=>?_,.inl rfl⟩;rcases lcI.1 hy with rfl|hy
    ·exact h2
    ·exact hl y hy
   | false =>
    have:=XN h1 h2;exact ⟨[],[x],l,rfl,by simp,hl,.inr ⟨x.2,by rw [<- this]⟩⟩
theorem ZM (key v:Bs):za [(key,v)] key=0:=by simp [za,jI]
theorem Vg (key v:Bs):zb [(key,v)] key=true:=by simp [zb,ZM]
theorem qeW {key val:Bs} {A B C:List Pr} (hA:∀ x∈A,ltB x.1 key=true) (hC:∀ x∈C,ltB key x.1=true) (hB:B=[]∨∃ v,B=[(key,v)]):xO (A++(B++C)) key val=A++(key,val)::C:=by
 rw [qcc hA (λx hx=>⟨zU (hC x hx),(Qn (hC x hx)).symm⟩)];rcases hB with rfl|⟨v,rfl⟩
 ·rfl
 ·simp [xO,xA,Vg,ZM]
theorem qgt {key:Bs} {A B C:List Pr} (hA:∀ x∈A,ltB x.1 key=true) (hC:∀ x∈C,ltB key x.1=true) (hB:B=[]∨∃ v,B=[(key,v)]):xA (A++(B++C)) key=A++C:=by
 rw [WV hA (λx hx=>⟨zU (hC x hx),(Qn (hC x hx)).symm⟩)];rcases hB with rfl|⟨v,rfl⟩
 ·rfl
 ·simp [xA,Vg,ZM]
theorem JN {l:List Pr} {key val:Bs} (h:rowP l) (hk:key≠[]/\key.length<=32) (hv:val.length<=40):rowP (xO l key val)/\(∀ x∈xO l key val,x∈l∨x=(key,val))/\((xO l key val).map qJ).sum<=(l.map qJ).sum+74/\xO l key val≠[]:=by
 obtain ⟨A,B,C,e,a,b,c⟩:=ZH key l h.1;rw [e,qeW a b c];obtain ⟨h1,h2⟩:=h;rw [e] at h1 h2;simp only [List.map_append] at h1;have hA:qE (A.map (·.1))=true:=by
  have:=xH _ A.length h1
  rwa [List.take_left' (by simp)] at this
 have hC:qE (C.map (·.1))=true:=by
  have:=xU _ (A.length+B.length) h1
  rwa [<- aaI,List.drop_left' (by simp)] at this
 refine ⟨⟨?_,λp hp=>?_⟩,λx hx=>?_,?_,by simp⟩
 ·rw [List.map_append,List.map_cons];refine Qh hA hC hk (λj hj=>?_) (λj hj=>?_)
  ·obtain ⟨x,hx,rfl⟩:=List.mem_map.1 hj; exact a x hx
  ·obtain ⟨x,hx,rfl⟩:=List.mem_map.1 hj; exact b x hx
 ·rcases List.mem_append.1 hp with hp|hp
  ·exact h2 p (by simp [hp])
  ·rcases lcI.1 hp with rfl|hp
   ·exact hv
   ·exact h2 p (by simp [hp])
 ·rcases List.mem_append.1 hx with hx|hx
  ·exact .inl (by simp [hx])
  ·rcases lcI.1 hx with rfl|hx
   ·exact .inr rfl
   ·exact .inl (by simp [hx])
 ·have:qJ (key,val)<=74:=by show 2+key.length+val.length<=74; omega
  simp only [List.map_append,List.map_cons,List.sum_append,List.sum_cons];omega
theorem HM {l:List Pr} {key:Bs} (h:rowP l):rowP (xA l key)/\(∀ x∈xA l key,x∈l)/\((xA l key).map qJ).sum<=(l.map qJ).sum/\(xA l key).length<=l.length:=by
 obtain ⟨A,B,C,e,a,b,c⟩:=ZH key l h.1;rw [e,qgt a b c];obtain ⟨h1,h2⟩:=h;rw [e] at h1 h2;simp only [List.map_append] at h1;have hA:qE (A.map (·.1))=true:=by
  have:=xH _ A.length h1
  rwa [List.take_left' (by simp)] at this
 have hC:qE (C.map (·.1))=true:=by
  have:=xU _ (A.length+B.length) h1
  rwa [<- aaI,List.drop_left' (by simp)] at this
 have hm:∀ x∈A++C,x∈A++(B++C):=λx hx=>by
  rcases List.mem_append.1 hx with hx|hx<;>simp [hx]
 refine ⟨⟨?_,λp hp=>h2 p (hm p hp)⟩,hm,?_,by simp only [laI]; omega⟩
 ·rw [List.map_append];refine jQ _ _ hA hC (λi hi j hj=>?_);obtain ⟨x,hx,rfl⟩:=List.mem_map.1 hi;obtain ⟨y,hy,rfl⟩:=List.mem_map.1 hj;exact zT (a x hx) (b y hy)
 ·simp only [List.map_append,List.sum_append]; omega
def FL (R:TP):Bs->List Bs->List Nat->Bs->List Pr->List Nat->Prop
 | lo,[],[],lo',l,S=>lo'=lo/\l=[]/\S=[]
 | lo,k::ks,p::ps,lo',l,S=>∃ l1 S1 l2 S2,R p lo (some k) l1 S1/\FL R k ks ps lo' l2 S2/\l=l1++l2/\S=S1++S2
 | _,_,_,_,_,_=>False
def FR (R:TP) (hi' hi:Option Bs) (ks:List Bs) (ps:List Nat) (l:List Pr) (S:List Nat):Prop :=
 match ks with
 | []=>ps=[]/\hi'=hi/\l=[]/\S=[]
 | k::ks=>hi'=some k/\Fo R k hi ks ps l S
theorem qbG {R:TP}:∀ (ka:List Bs) (pa:List Nat) (lo lo':Bs) (l:List Pr) (S:List Nat),FL R lo ka pa lo' l S->pa.length=ka.length
 | [],[],_,_,_,_,_=>rfl
 | k::ka,p::pa,_,_,_,_,⟨_,_,_,_,_,h,_,_⟩=>by simp [qbG ka pa _ _ _ _ h]
 | [],_::_,_,_,_,_,h=>h.elim
 | _::_,[],_,_,_,_,h=>h.elim
theorem KC {R:TP} {hi hi':Option Bs} {p:Nat} {l1 l2:List Pr} {S1 S2:List Nat} {kb:List Bs} {pb:List Nat}:∀ (ka:List Bs) (pa:List Nat) (lo lo':Bs) (l0:List Pr) (S0:List Nat),FL R lo ka pa lo' l0 S0->R p lo' hi' l1 S1->FR R hi' hi kb pb l2 S2->Fo R lo hi (ka++kb) (pa++p::pb) (l0++(l1++l2)) (S0++(S1++S2))
 | [],[],lo,lo',l0,S0,⟨e1,e2,e3⟩,h2,h3=>by
  subst e1 e2 e3;cases kb with
  | nil=>obtain ⟨rfl,rfl,rfl,rfl⟩:=h3; simpa [Fo] using h2
  | cons k kb=>obtain ⟨rfl,h3⟩:=h3; exact ⟨l1,S1,l2,S2,h2,h3,rfl,rfl⟩
 | k::ka,q::pa,lo,lo',l0,S0,⟨m1,T1,m2,T2,a1,a2,a3,a4⟩,h2,h3=>by
  subst a3 a4;exact ⟨m1,T1,_,_,a1,KC ka pa k lo' m2 T2 a2 h2 h3,by simp,by simp⟩
 | [],_::_,_,_,_,_,h,_,_=>h.elim
 | _::_,[],_,_,_,_,h,_,_=>h.elim
theorem qcT {R:TP} {hi:Option Bs}:∀ (c:Nat) (ks:List Bs) (ps:List Nat) (lo:Bs) (l:List Pr) (S:List Nat),Fo R lo hi ks ps l S->c<=ks.length ->
  ∃ p lo' hi' l0 l1 l2 S0 S1 S2,ps=ps.take c++p::ps.drop (c+1)/\FL R lo (ks.take c) (ps.take c) lo' l0 S0/\R p lo' hi' l1 S1/\FR R hi' hi (ks.drop c) (ps.drop (c+1)) l2 S2/\l=l0++(l1++l2)/\S=S0++(S1++S2)
 | 0,[],[p],lo,l,S,h,_=>⟨p,lo,hi,[],l,[],[],S,[],rfl,⟨rfl,rfl,rfl⟩,h,⟨rfl,rfl,rfl,rfl⟩,by simp,by simp⟩
 | 0,k::ks,p::ps,lo,l,S,⟨l1,S1,l2,S2,h1,h2,h3,h4⟩,_=>⟨p,lo,some k,[],l1,l2,[],S1,S2,rfl,⟨rfl,rfl,rfl⟩,h1,⟨rfl,h2⟩,h3,h4⟩
 | c+1,k::ks,p::ps,lo,l,S,⟨l1,S1,l2,S2,h1,h2,h3,h4⟩,hc=>by
  obtain ⟨q,lo',hi',m0,m1,m2,T0,T1,T2,e1,e2,e3,e4,e5,e6⟩:=qcT c ks ps k l2 S2 h2 (by simpa using hc);subst h3 h4 e5 e6;exact ⟨q,lo',hi',l1++m0,m1,m2,S1++T0,T1,T2,by rw [List.take_succ_cons,List.drop_succ_cons,List.cons_append,<- e1],⟨l1,S1,m0,T0,h1,e2,rfl,rfl⟩,e3,e4,by simp,by simp⟩
 | c+1,[],_,_,_,_,_,hc=>by simp at hc
 | 0,[],[],_,_,_,h,_=>h.elim
 | 0,[],_::_::_,_,_,_,h,_=>h.elim
 | _,_::_,[],_,_,_,h,_=>h.elim
theorem qcU {R:TP} {k:Bs} {p:Nat}:∀ (ka:List Bs) (pa:List Nat) (lo lo':Bs) (l:List Pr) (S:List Nat),FL R lo (ka++[k]) (pa++[p]) lo' l S->lo'=k/\∃ lo1 l1 l2 S1 S2,FL R lo ka pa lo1 l1 S1/\R p lo1 (some k) l2 S2/\l=l1++l2/\S=S1++S2
 | [],[],lo,lo',l,S,⟨l1,S1,l2,S2,h1,⟨h2,h3,h4⟩,h5,h6⟩=>by
  subst h2 h3 h4 h5 h6;exact ⟨rfl,lo,[],l1,[],S1,⟨rfl,rfl,rfl⟩,h1,by simp,by simp⟩
 | j::ka,q::pa,lo,lo',l,S,⟨l1,S1,l2,S2,h1,h2,h3,h4⟩=>by
  obtain ⟨e,lo1,m1,m2,T1,T2,a1,a2,a3,a4⟩:=qcU ka pa j lo' l2 S2 h2;subst a3 a4 h3 h4;exact ⟨e,lo1,l1++m1,m2,S1++T1,T2,⟨l1,S1,m1,T1,h1,a1,rfl,rfl⟩,a2,by simp,by simp⟩
 | [],q::pa,lo,lo',l,S,h=>by
  have:=qbG _ _ _ _ _ _ h;simp at this
 | j::ka,[],lo,lo',l,S,h=>by
  have:=qbG _ _ _ _ _ _ h;simp at this
theorem Zu {R R':TP}:∀ (ka:List Bs) (pa:List Nat) (lo lo':Bs) (l:List Pr) (S:List Nat),(∀ p lo hi l T,(∀ q∈T,q∈S)->R p lo hi l T->R' p lo hi l T)->FL R lo ka pa lo' l S->FL R' lo ka pa lo' l S
 | [],[],_,_,_,_,_,h=>h
 | k::ka,p::pa,lo,lo',l,S,hm,⟨l1,S1,l2,S2,h1,h2,h3,h4⟩=>by
  subst h4;exact ⟨l1,S1,l2,S2,hm _ _ _ _ _ (λq hq=>List.mem_append.2 (.inl hq)) h1,Zu ka pa _ _ _ _ (λp lo hi l T hT hr=>hm p lo hi l T (λq hq=>List.mem_append.2 (.inr (hT q hq))) hr) h2,h3,rfl⟩
 | [],_::_,_,_,_,_,_,h=>h.elim
 | _::_,[],_,_,_,_,_,h=>h.elim
theorem XU {R R':TP} {hi' hi:Option Bs} {ks:List Bs} {ps:List Nat} {l:List Pr} {S:List Nat} (hm:∀ p lo hi l T,(∀ q∈T,q∈S)->R p lo hi l T->R' p lo hi l T) (h:FR R hi' hi ks ps l S):FR R' hi' hi ks ps l S:=by
 cases ks with
 | nil=>exact h
 | cons k ks=>exact ⟨h.1,YC ks ps _ _ _ _ hm h.2⟩
theorem qah {R:TP}:∀ (ka:List Bs) (pa:List Nat) (lo lo':Bs) (l:List Pr) (S:List Nat),FL R lo ka pa lo' l S->qE ka=true->(∀ k∈ka,ltB lo k=true)->(lo'=lo∨lo'∈ka)/\ltB lo' lo=false/\∀ j∈ka,ltB lo' j=false
 | [],[],lo,lo',l,S,⟨e,_,_⟩,_,_=>by subst e; exact ⟨.inl rfl,jI _,by simp⟩
 | k::ka,p::pa,lo,lo',l,S,⟨_,_,_,_,_,h2,_,_⟩,hr,hk=>by
  obtain ⟨a,b,c⟩:=qah ka pa k lo' _ _ h2 (qL hr).1 (qL hr).2;refine ⟨.inr ?_,zU (xu (hk k (by simp)) b),λj hj=>?_⟩
  ·rcases a with rfl|a
   ·simp
   ·exact List.mem_cons_of_mem _ a
  ·rcases lcI.1 hj with rfl|hj
   ·exact b
   ·exact c j hj
 | [],_::_,_,_,_,_,h,_,_=>h.elim
 | _::_,[],_,_,_,_,h,_,_=>h.elim
theorem qjd {R:TP} (hR:Rng R):∀ (ka:List Bs) (pa:List Nat) (lo lo':Bs) (l:List Pr) (S:List Nat),FL R lo ka pa lo' l S->qE ka=true->∀ x∈l,ltB x.1 lo'=true
 | [],[],lo,lo',l,S,⟨_,e,_⟩,_=>by subst e; simp
 | k::ka,p::pa,lo,lo',l,S,⟨l1,S1,l2,S2,h1,h2,h3,h4⟩,hr=>λx hx=>by
  subst h3;rcases List.mem_append.1 hx with hx|hx
  ·exact xu ((hR _ _ _ _ _ h1 x hx).2 k rfl) (qah ka pa k lo' _ _ h2 (qL hr).1 (qL hr).2).2.1
  ·exact qjd hR ka pa k lo' l2 S2 h2 (qL hr).1 x hx
 | [],_::_,_,_,_,_,h,_=>h.elim
 | _::_,[],_,_,_,_,h,_=>h.elim
theorem qlm {R:TP} (hR:Rng R) {hi' hi:Option Bs} {ks:List Bs} {ps:List Nat} {l:List Pr} {S:List Nat} (h:FR R hi' hi ks ps l S) (hr:qE ks=true):∀ x∈l,∃ e,hi'=some e/\ltB x.1 e=false:=by
 cases ks with
 | nil=>rw [h.2.2.1]; simp
 | cons k ks=>exact λx hx=>⟨k,h.1,qgZ hR ks ps k hi l S (qL hr).1 (qL hr).2 h.2 x hx⟩
theorem qll {R:TP} {hi' hi:Option Bs} {ks:List Bs} {ps:List Nat} {l:List Pr} {S:List Nat} (h:FR R hi' hi ks ps l S) (hk:∀ k∈ks,∀ e,hi=some e->ltB k e=true):∀ e,hi=some e->∃ e',hi'=some e'/\ltB e e'=false:=by
 cases ks with
 | nil=>intro e he; exact ⟨e,h.2.1.trans he,jI e⟩
 | cons k ks=>intro e he; exact ⟨k,h.1,zU (hk k (by simp) e he)⟩
theorem qhX {R:TP} {lo lo':Bs} {hi hi':Option Bs} {ka kb:List Bs} {pa pb:List Nat} {l0 l2:List Pr} {S0 S2:List Nat} {k:Bs} (h0:FL R lo ka pa lo' l0 S0) (h2:FR R hi' hi kb pb l2 S2) (hr:qE (ka++kb)=true) (hk:∀ j∈ka++kb,inK lo hi j) (hkk:inK lo' hi' k) (h32:k≠[]/\k.length<=32) :
  qE (ka++k::kb)=true/\inK lo hi k:=by
 have hra:qE ka=true:=by have:=xH _ ka.length hr; rwa [List.take_left' rfl] at this
 have hrb:qE kb=true:=by have:=xU _ ka.length hr; rwa [List.drop_left' rfl] at this
 obtain ⟨a,b,c⟩:=qah ka pa lo lo' l0 S0 h0 hra (λj hj=>(hk j (by simp [hj])).1);refine ⟨Qh hra hrb h32 (λj hj=>jR (c j hj) hkk.1) (λj hj=>?_),jR b hkk.1,λe he=>?_⟩
 ·cases kb with
  | nil=>simp at hj
  | cons i kb =>
   have:=hkk.2 i h2.1;rcases lcI.1 hj with rfl|hj
   ·exact this
   ·exact zT this ((qL hrb).2 j hj)
 ·obtain ⟨e',h3,h4⟩:=qll h2 (λk hk' e he=>(hk k (by simp [hk'])).2 e he) e he;exact xu (hkk.2 e' h3) h4
theorem qcS {R:TP} {key:Bs} {hi:Option Bs} {kb:List Bs} {pb:List Nat} {lb:List Pr} {Sb:List Nat} (hb:Fo R key hi kb pb lb Sb):∀ (ka:List Bs) (pa:List Nat) (lo:Bs) (la:List Pr) (Sa:List Nat),Fo R lo (some key) ka pa la Sa->Fo R lo hi (ka++([key]++kb)) (pa++pb) (la++lb) (Sa++Sb)
 | [],[p],lo,la,Sa,h=>⟨la,Sa,lb,Sb,h,hb,rfl,rfl⟩
 | k::ka,p::pa,lo,la,Sa,⟨l1,S1,l2,S2,h1,h2,h3,h4⟩=>by
  subst h3 h4;exact ⟨l1,S1,_,_,h1,qcS hb ka pa k l2 S2 h2,by simp,by simp⟩
 | [],[],_,_,_,h=>h.elim
 | [],_::_::_,_,_,_,h=>h.elim
 | _::_,[],_,_,_,h=>h.elim
theorem qis {s:Nat->Option Bs} {h:Nat} {a b:Nd} {lo key:Bs} {hi:Option Bs} {la lb:List Pr} {Sa Sb:List Nat} (ha:Nt s h a lo (some key) la Sa) (hb:Nt s h b key hi lb Sb) (hra:qO a=true) (hrb:qO b=true) (hk:inK lo hi key) (h32:key≠[]/\key.length<=32) :
  Nt s h (qV a b key) lo hi (la++lb) (Sa++Sb)/\qO (qV a b key)=true/\(neN a∨neN b->neN (qV a b key)):=by
 have xa:=qgX hra ha;have xb:=qgX hrb hb;cases h with
 | zero =>
  obtain ⟨rfl,h1,rfl⟩:=ha;obtain ⟨rfl,h2,rfl⟩:=hb;have e:qV (Nd.lf la) (Nd.lf lb) key=Nd.lf (la++lb):=rfl;obtain ⟨_,_,r1,v1⟩:=xN hra rfl;obtain ⟨_,_,r2,v2⟩:=xN hrb rfl;rw [e];refine ⟨⟨rfl,λx hx=>?_,rfl⟩,vt ?_ (λp hp=>?_),λhn=>?_⟩
  ·rcases List.mem_append.1 hx with hx|hx
   ·have:=h1 x hx;exact ⟨this.1,λe he=>zT (this.2 key rfl) (hk.2 e he)⟩
   ·have:=h2 x hx;exact ⟨zU (xu hk.1 this.1),this.2⟩
  ·rw [List.map_append];refine jQ _ _ r1 r2 (λi hi j hj=>?_);obtain ⟨x,hx,rfl⟩:=List.mem_map.1 hi;obtain ⟨y,hy,rfl⟩:=List.mem_map.1 hj;exact xu ((h1 x hx).2 key rfl) (h2 y hy).1
  ·rcases List.mem_append.1 hp with hp|hp
   ·exact (v1 p hp).2.2
   ·exact (v2 p hp).2.2
  ·simp only [neN,Nd.lf,if_true] at hn ⊢;exact λe=>hn.elim (λh=>h (List.append_eq_nil_iff.1 e).1) (λh=>h (List.append_eq_nil_iff.1 e).2)
 | succ h =>
  obtain ⟨ka,pa,rfl,h1,f1⟩:=ha;obtain ⟨kb,pb,rfl,h2,f2⟩:=hb;obtain ⟨_,i1,r1,_,p1⟩:=zo hra rfl;obtain ⟨_,i2,r2,_,p2⟩:=zo hrb rfl;have i1:pa.length=ka.length+1:=i1;have i2:pb.length=kb.length+1:=i2;have e:qV (Nd.nd ka pa) (Nd.nd kb pb) key=Nd.nd (ka++([key]++kb)) (pa++pb):=rfl;rw [e];refine ⟨⟨_,_,rfl,λk hk'=>?_,qcS f2 ka pa lo la Sa f1⟩,vr ?_ (Qh r1 r2 h32 (λj hj=>(h1 j hj).2 key rfl) (λj hj=>(h2 j hj).1)) (λk hk'=>?_),λhn=>by simp [neN,Nd.nd]⟩
  ·rcases List.mem_append.1 hk' with hk'|hk'
   ·exact ⟨(h1 k hk').1,λe he=>zT ((h1 k hk').2 key rfl) (hk.2 e he)⟩
   ·rcases lcI.1 hk' with rfl|hk'
    ·exact hk
    ·exact ⟨zT hk.1 (h2 k hk').1,(h2 k hk').2⟩
  ·simp only [laI,lnI,List.length_nil]; omega
  ·rcases List.mem_append.1 hk' with hk'|hk'
   ·exact p1 k hk'
   ·exact p2 k hk'
def wtN (n:Nd):Prop:=if n.leaf then (n.pairs.map qJ).sum<=344 else (n.keys.map λk=>3+k.length).sum<=430
theorem VS {α:Type} (f:α->Nat) (h:∀ a,1<=f a):∀ l:List α,l.length<=(l.map f).sum
 | []=>by simp
 | a::l=>by have:=VS f h l; have:=h a; simp only [List.map_cons,List.sum_cons,lnI]; omega
theorem Zv {n:Nd} (h:qO n=true) (hw:wtN n):n.Fit:=by
 unfold wtN at hw;cases hl:n.leaf with
 | true =>
  rw [hl,if_pos rfl] at hw;have:=VS qJ (λp=>by unfold qJ; omega) n.pairs;have:=(xN h hl).1;exact wG h (by omega) (by rw [this]; simp)
 | false =>
  rw [hl,if_neg (by simp)] at hw;have:=VS (λk:Bs=>3+k.length) (λp=>by omega) n.keys;have:=(zo h hl).1;exact wG h (by rw [this]; simp) (by omega)
theorem Zt {s:Nat->Option Bs} {h:Nat} {n:Nd} {lo:Bs} {hi:Option Bs} {l:List Pr} {S:List Nat} (hn:Nt s h n lo hi l S) (hr:qO n=true) (hw:wtN n) (hs:¬ qW n<=256) :
  (if n.leaf then 2<=n.pairs.length else 3<=n.keys.length/\n.kids.length=n.keys.length+1) /\
  qO (qz n).1=true/\qW (qz n).1<=256/\qO (qz n).2.1=true/\qW (qz n).2.1<=256/\neN (qz n).1/\neN (qz n).2.1 /\
  inK lo hi (qz n).2.2/\((qz n).2.2≠[]/\(qz n).2.2.length<=32) /\
  ∃ la lb Sa Sb,Nt s h (qz n).1 lo (some (qz n).2.2) la Sa/\Nt s h (qz n).2.1 (qz n).2.2 hi lb Sb/\l=la++lb/\S=Sa++Sb:=by
 cases h with
 | zero =>
  obtain ⟨rfl,h1,rfl⟩:=hn;obtain ⟨_,_,r1,v1⟩:=xN hr rfl;have r1:qE (l.map (·.1))=true:=r1;have v1:∀ p∈l,p.1≠[]/\p.1.length<=32/\p.2.length<=40:=v1;have hw:(l.map qJ).sum<=344:=hw;have hs:¬ 2+(l.map qJ).sum<=256:=hs;have h2:2<=l.length:=by
   have:=vi qJ 74 l (λp hp=>by have:=v1 p hp; unfold qJ; omega);rcases Nat.lt_or_ge l.length 2 with h|h
   ·have:l.length * 74<=1 * 74:=Nat.mul_le_mul_right _ (by omega);omega
   ·exact h
  obtain ⟨a1,a2,a3,a4,a5,a6⟩:=qaq r1 (λp hp=>(v1 p hp).2.2) h2 hw;have e:qz (Nd.lf l)=(Nd.lf (l.take (zs l)),Nd.lf (l.drop (zs l)),l[zs l].1):=by
   simp [qz,Nd.lf,List.getElem?_eq_getElem a2]
  rw [e];have hd:l=l.take (zs l)++l[zs l]::l.drop (zs l+1):=by rw [<- List.drop_eq_getElem_cons a2,List.take_append_drop]
  have hd':=hd;generalize l[zs l]=x at hd ⊢;have r2:=r1;rw [hd,List.map_append,List.map_cons] at r2;obtain ⟨b1,b2,b3,b4,b5⟩:=vl _ _ _ r2;have hxl:x∈l:=by rw [hd]; simp
  have hdr:l.drop (zs l)=x::l.drop (zs l+1):=List.append_cancel_left ((List.take_append_drop _ _).trans hd);have h0:0<(l.take (zs l)).length:=by rw [ltI]; omega
  refine ⟨h2,a3,a4,a5,a6,?_,?_,⟨?_,(h1 x hxl).2⟩,b5,_,_,[],[],⟨rfl,λy hy=>⟨(h1 y (List.mem_of_mem_take hy)).1,λe he=>?_⟩,rfl⟩,⟨rfl,λy hy=>⟨?_,(h1 y (List.mem_of_mem_drop hy)).2⟩,rfl⟩,(List.take_append_drop _ _).symm,rfl⟩
  ·simp only [neN,Nd.lf,if_true]; exact List.length_pos_iff.1 h0
  ·simp only [neN,Nd.lf,if_true,hdr]; simp
  ·have hm:=List.getElem_mem h0;exact jR (h1 _ (List.mem_of_mem_take hm)).1 (b1 _ (List.mem_map_of_mem hm))
  ·cases he; exact b1 _ (List.mem_map_of_mem hy)
  ·rw [hdr] at hy;rcases lcI.1 hy with rfl|hy
   ·exact jI _
   ·exact zU (b2 _ (List.mem_map_of_mem hy))
 | succ h =>
  obtain ⟨ks,ps,rfl,h1,f1⟩:=hn;obtain ⟨_,i1,r1,v1,p1⟩:=zo hr rfl;have i1:ps.length=ks.length+1:=i1;have r1:qE ks=true:=r1;have v1:∀ k∈ks,k≠[]/\k.length<=32:=v1;have p1:∀ k∈ps,1<=k/\k<=65535:=p1;have hw:(ks.map λk=>3+k.length).sum<=430:=hw;have hs:¬ 4+(ks.map λk=>3+k.length).sum<=256:=hs;have h2:3<=ks.length:=by
   have:=vi (λk:Bs=>3+k.length) 35 ks (λp hp=>by have:=v1 p hp; omega);rcases Nat.lt_or_ge ks.length 3 with h|h
   ·have:ks.length * 35<=2 * 35:=Nat.mul_le_mul_right _ (by omega);omega
   ·exact h
  obtain ⟨a1,a2,a3,a4,a5,a6⟩:=YJ r1 i1 p1 h2 hw;have hlt:zq ks<ks.length:=by omega
  have e:qz (Nd.nd ks ps)=(Nd.nd (ks.take (zq ks)) (ps.take (zq ks+1)),Nd.nd (ks.drop (zq ks+1)) (ps.drop (zq ks+1)),ks[zq ks]):=by
   simp [qz,Nd.nd,List.getElem?_eq_getElem hlt]
  rw [e];have hd:ks=ks.take (zq ks)++ks[zq ks]::ks.drop (zq ks+1):=by rw [<- List.drop_eq_getElem_cons hlt,List.take_append_drop]
  have hkd:=List.drop_eq_getElem_cons hlt;have hxl:=List.getElem_mem hlt;generalize ks[zq ks]=k at hd hkd hxl ⊢;have r2:=r1;rw [hd] at r2;obtain ⟨b1,b2,b3,b4,b5⟩:=vl _ _ _ r2;obtain ⟨p,lo',hi',l0,l1,l2,S0,S1,S2,c1,c2,c3,c4,c5,c6⟩:=qcT (zq ks) ks ps lo l S f1 (by omega);rw [hkd] at c4;obtain ⟨rfl,c4⟩:=c4;have hpt:ps.take (zq ks+1)=ps.take (zq ks)++[p]:=by
   have hl:(ps.take (zq ks)).length=zq ks:=by rw [ltI]; omega
   have:=congrArg (List.take (zq ks+1)) c1;rw [this,List.take_append,hl,show zq ks+1 - zq ks=1 by omega,List.take_take,Nat.min_eq_right (by omega)];rfl
  have f2:=KC (kb:=[]) (pb:=[]) (hi:=some k) (l2:=[]) (S2:=[]) _ _ _ _ _ _ c2 c3 ⟨rfl,rfl,rfl,rfl⟩;rw [List.append_nil,List.append_nil,List.append_nil,<- hpt] at f2;refine ⟨⟨h2,i1⟩,a3,a4,a5,a6,?_,?_,h1 k hxl,b5,_,_,_,_,⟨_,_,rfl,λj hj=>⟨(h1 j (List.mem_of_mem_take hj)).1,λe he=>?_⟩,f2⟩,⟨_,_,rfl,λj hj=>⟨b2 j hj,(h1 j (List.mem_of_mem_drop hj)).2⟩,c4⟩,by rw [c5,aaI],by rw [c6,aaI]⟩
  ·have:0<(ks.take (zq ks)).length:=by rw [ltI]; omega
   simp only [neN,Nd.nd,Bool.false_eq_true,if_false]; exact List.length_pos_iff.1 this
  ·have:0<(ks.drop (zq ks+1)).length:=by rw [ldI]; omega
   simp only [neN,Nd.nd,Bool.false_eq_true,if_false]; exact List.length_pos_iff.1 this
  ·cases he; exact b1 j hj
end Go.Fx.Tryz
namespace Go.Fx.Tryz
open Go Go.Fx
structure Kin (x x':Wx):Prop where
 w:x'.o.w=x.o.w
 pm:x'.o.pm=x.o.pm
 c:x'.o.c=x.o.c
 p:x'.o.p=x.o.p
 P:x'.o.P=x.o.P
 nt:x'.o.nt=x.o.nt
 hd:x'.o.hd=x.o.hd
 xb:x'.xb=x.xb
 rest:x'.rest=x.rest
 t:x'.t=x.t
theorem Kin.refl (x:Wx):Kin x x:=⟨rfl,rfl,rfl,rfl,rfl,rfl,rfl,rfl,rfl,rfl⟩
theorem Kin.trans {x y z:Wx} (h:Kin x y) (k:Kin y z):Kin x z :=
 ⟨k.w.trans h.w,k.pm.trans h.pm,k.c.trans h.c,k.p.trans h.p,k.P.trans h.P,k.nt.trans h.nt,k.hd.trans h.hd,k.xb.trans h.xb,k.rest.trans h.rest,k.t.trans h.t⟩
abbrev Wx.fp (x:Wx):List Nat:=[x.o.w,x.o.pm,x.xb]
theorem Kin.fp {x y:Wx} (h:Kin x y):y.fp=x.fp:=by unfold Wx.fp; rw [h.w,h.pm,h.xb]
theorem Kin.v {x y:Wx} (h:Kin x y):y.v=x.v:=by unfold Wx.v; rw [h.xb]
theorem XR.ym {x:Wx} {m:Mem} (h:XR x m):∀ b∈x.fp,b<m.next:=λb hb=>by
 have:=h.wr.lw; have:=h.wr.lm; have:=h.lx;simp only [Wx.fp,lcI,nmI,or_false] at hb;rcases hb with rfl|rfl|rfl<;>assumption
def Fu (o:Wo):Prop:=∀ k,o.has k=(o.s k).isSome
theorem Fu.some {o:Wo} {k:Nat} (h:o.s k≠none):o.has k=true:=by
 cases hs:o.s k with
 | none=>exact absurd hs h
 | some d=>exact (Wo.qiH hs).1
theorem xT {o:Wo} {k:Nat} (h:o.has k=true):1<=k/\k<o.P:=by
 unfold Wo.has at h;simp only [baI,decide_eq_true_eq] at h;exact h.1
structure Stp (s s':Nat->Option Bs) (S S':List Nat):Prop where
 out:∀ q,q∉S->q∉S'->s' q=s q
 new:∀ q∈S',q∈S∨s q=none
 gone:∀ q∈S,q∉S'->s' q=none
theorem Stp.refl (s:Nat->Option Bs) (S:List Nat):Stp s s S S:=⟨λ_ _ _=>rfl,λq h=>.inl h,λq h h'=>absurd h h'⟩
theorem Stp.trans {s s' s'':Nat->Option Bs} {S S' S'':List Nat} (h:Stp s s' S S') (k:Stp s' s'' S' S''):Stp s s'' S S'':=by
 refine ⟨λq h1 h2=>?_,λq hq=>?_,λq h1 h2=>?_⟩
 ·by_cases h3:q∈S'
  ·rw [k.gone q h3 h2]; exact ((h.new q h3).resolve_left h1).symm
  ·rw [k.out q h3 h2,h.out q h1 h3]
 ·rcases k.new q hq with h1|h1
  ·exact h.new q h1
  ·by_cases h2:q∈S
   ·exact .inl h2
   ·by_cases h3:q∈S'
    ·exact h.new q h3
    ·exact .inr ((h.out q h2 h3).symm.trans h1)
 ·by_cases h3:q∈S'
  ·exact k.gone q h3 h2
  ·rw [k.out q h3 h2]; exact h.gone q h1 h3
theorem Stp.ctx {s s':Nat->Option Bs} {S S' T U U':List Nat} (h:Stp s s' S S') (hU:∀ q,q∈U↔q∈S∨q∈T) (hU':∀ q,q∈U'↔q∈S'∨q∈T):Stp s s' U U':=by
 refine ⟨λq h1 h2=>h.out q (λh=>h1 ((hU q).2 (.inl h))) (λh=>h2 ((hU' q).2 (.inl h))),λq hq=>?_,λq h1 h2=>?_⟩
 ·rcases (hU' q).1 hq with h1|h1
  ·exact (h.new q h1).imp (λh=>(hU q).2 (.inl h)) id
  ·exact .inl ((hU q).2 (.inr h1))
 ·rcases (hU q).1 h1 with h3|h3
  ·exact h.gone q h3 (λh=>h2 ((hU' q).2 (.inl h)))
  ·exact absurd ((hU' q).2 (.inr h3)) h2
theorem Stp.zL {s s':Nat->Option Bs} {S S':List Nat} (h:Stp s s' S S') {q:Nat} (h1:q∉S) (h2:s q≠none):s' q=s q/\q∉S':=by
 have:q∉S':=λhq=>(h.new q hq).elim h1 h2
 exact ⟨h.out q h1 this,this⟩
def Pts (s:Nat->Option Bs) (R:TP) (h page:Nat) (lo:Bs) (hi:Option Bs) (ps:List Pt) (l:List Pr) (S:List Nat):Prop :=
 (ps=[([],page)]/\R page lo hi l S) ∨
 ∃ k q la lb Sa Sb,ps=[([],page),(k,q)]/\inK lo hi k/\(k≠[]/\k.length<=32)/\Tr s h page lo (some k) la Sa/\Tr s h q k hi lb Sb/\l=la++lb/\S=Sa++Sb/\4<=l.length
theorem Kin.o (x:Wx) {o':Wo} (h:o'.w=x.o.w/\o'.pm=x.o.pm/\o'.c=x.o.c/\o'.p=x.o.p/\o'.P=x.o.P/\o'.nt=x.o.nt/\o'.hd=x.o.hd):Kin x { x with o:=o' } :=
 ⟨h.1,h.2.1,h.2.2.1,h.2.2.2.1,h.2.2.2.2.1,h.2.2.2.2.2.1,h.2.2.2.2.2.2,rfl,rfl,rfl⟩
theorem Fu.write {o:Wo} (h:Fu o) {p:Nat} (hp:o.has p=true) (d:Bs) (c:Nat):Fu { o with L:=upL o.L p d c }:=by
 intro k;rw [Wo.vj hp];unfold zI;have e:Wo.has { o with L:=upL o.L p d c } k=o.has k:=rfl;rw [e];by_cases hk:k=p
 ·subst hk; simp [hp]
 ·rw [if_neg hk]; exact h k
theorem Fu.take {o:Wo} (h:Fu o) (hu:o.u.length=20) (hP:o.P<=160) {n:Nat} (h1:1<=n) (hn:n<o.P) (hb:jn o.u n=false) (d:Bs) (c:Nat):Fu { o with u:=xg o.u n,L:=upL o.L n d c }:=by
 intro k;rw [Wo.Wn hu hP h1 hn hb,Wo.Za hu hP hn];unfold zI;by_cases hk:k=n
 ·subst hk; simp [h1,hn,hb]
 ·rw [if_neg hk,decide_eq_false hk,Bool.xor_false]; exact h k
theorem Fu.drop {o:Wo} (h:Fu o) (hu:o.u.length=20) (hP:o.P<=160) {n:Nat} (hn:o.has n=true):Fu { o with u:=xg o.u n }:=by
 intro k;rw [Wo.qaB hu hP hn,Wo.Za hu hP (xT hn).2 k o.L];unfold zI;by_cases hk:k=n
 ·subst hk;have:=hn;unfold Wo.has at this;simp only [baI,decide_eq_true_eq] at this;simp [this.2]
 ·rw [if_neg hk,decide_eq_false hk,Bool.xor_false]; exact h k
theorem qaA {o:Wo} {n:Nat} (hb:jn o.u n=false):o.s n=none:=by
 unfold Wo.s Wo.has; simp [hb]
end Go.Fx.Tryz
namespace Go.Fx.Tryz
open Go Go.Fx
theorem yH {α:Type} [DecidableEq α]:∀ (S T:List α),S.Nodup->(∀ q∈S,q∈T)->S.length<=T.length
 | [],_,_,_=>Nat.zero_le _
 | a::S,T,h,hs=>by
  rw [List.nodup_cons] at h;have ha:=hs a (by simp);have:=yH S (T.erase a) h.2 (λq hq=>(List.mem_erase_of_ne (by rintro rfl; exact h.1 hq)).2 (hs q (by simp [hq])));rw [List.length_erase_of_mem ha] at this;have:=List.length_pos_of_mem ha;simp only [lnI]; omega
theorem qbE {R:TP} {c:Nat} (hR:∀ p lo hi l S,R p lo hi l S->c<=l.length/\c<=S.length/\S.length+1<=2 * l.length):∀ (ks:List Bs) (ps:List Nat) (lo:Bs) (hi:Option Bs) (l:List Pr) (S:List Nat),Fo R lo hi ks ps l S->(ks.length+1) * c<=l.length/\(ks.length+1) * c<=S.length/\S.length+(ks.length+1)<=2 * l.length
 | [],[p],lo,hi,l,S,h=>by have:=hR _ _ _ _ _ h; simpa using this
 | k::ks,p::ps,lo,hi,l,S,⟨l1,S1,l2,S2,h1,h2,h3,h4⟩=>by
  subst h3 h4;have a:=hR _ _ _ _ _ h1;have b:=qbE hR ks ps _ _ _ _ h2;simp only [lnI,laI];rw [Nat.add_mul (ks.length+1) 1 c];omega
 | [],[],_,_,_,_,hf=>hf.elim
 | [],_::_::_,_,_,_,_,hf=>hf.elim
 | _::_,[],_,_,_,_,hf=>hf.elim
theorem WY (s:Nat->Option Bs):∀ (h p:Nat) (lo:Bs) (hi:Option Bs) (l:List Pr) (S:List Nat),Tr s h p lo hi l S->2 ^ h<=l.length/\2 ^ h<=S.length/\S.length+1<=2 * l.length
 | 0,p,lo,hi,l,S,⟨n,S',hp,hn,⟨e1,_,e2⟩,e3⟩=>by
  subst e1 e2 e3;have:l≠[]:=by simpa [neN,Nd.lf] using hn
  have:=List.length_pos_iff.2 this;simp; omega
 | h+1,p,lo,hi,l,S,⟨n,S',hp,hn,⟨ks,ps,e1,hk,hf⟩,e3⟩=>by
  subst e1 e3;have:ks≠[]:=by simpa [neN,Nd.nd] using hn
  have:=List.length_pos_iff.2 this;obtain ⟨a,b,c⟩:=qbE (c:=2 ^ h) (WY s h) ks ps lo hi l S' hf;have h2:2 * 2 ^ h<=(ks.length+1) * 2 ^ h:=Nat.mul_le_mul_right _ (by omega);rw [Nat.pow_succ];simp only [lnI];omega
theorem qgY {R:TP} (hR:Rng R) (hw:∀ p lo hi l S,R p lo hi l S->rowP l):∀ (ks:List Bs) (ps:List Nat) (lo:Bs) (hi:Option Bs) (l:List Pr) (S:List Nat),qE ks=true->Fo R lo hi ks ps l S->rowP l
 | [],[p],lo,hi,l,S,_,h=>hw _ _ _ _ _ h
 | k::ks,p::ps,lo,hi,l,S,hr,⟨l1,S1,l2,S2,h1,h2,h3,h4⟩=>by
  subst h3 h4;have a:=hw _ _ _ _ _ h1;have b:=qgY hR hw ks ps _ _ _ _ (qL hr).1 h2;refine ⟨?_,λx hx=>?_⟩
  ·rw [List.map_append];refine jQ _ _ a.1 b.1 (λi hi j hj=>?_);obtain ⟨x,hx,rfl⟩:=List.mem_map.1 hi;obtain ⟨y,hy,rfl⟩:=List.mem_map.1 hj;exact xu ((hR _ _ _ _ _ h1 x hx).2 k rfl) (qgZ hR ks ps k _ l2 S2 (qL hr).1 (qL hr).2 h2 y hy)
  ·rcases List.mem_append.1 hx with hx|hx
   ·exact a.2 x hx
   ·exact b.2 x hx
 | [],[],_,_,_,_,_,hf=>hf.elim
 | [],_::_::_,_,_,_,_,_,hf=>hf.elim
 | _::_,[],_,_,_,_,_,hf=>hf.elim
theorem qgK (s:Nat->Option Bs):∀ (h p:Nat) (lo:Bs) (hi:Option Bs) (l:List Pr) (S:List Nat),Tr s h p lo hi l S->rowP l
 | 0,p,lo,hi,l,S,⟨n,S',hp,hn,⟨e1,_,e2⟩,e3⟩=>by
  subst e1;obtain ⟨_,_,a,b⟩:=xN hp.rt rfl;exact ⟨a,λx hx=>(b x hx).2.2⟩
 | h+1,p,lo,hi,l,S,⟨n,S',hp,hn,⟨ks,ps,e1,hk,hf⟩,e3⟩=>by
  subst e1;exact qgY (Qw s h) (qgK s h) ks ps lo hi l S' (zo hp.rt rfl).2.2.1 hf
theorem qgC {s:Nat->Option Bs} {h:Nat} {n:Nd} {lo:Bs} {hi:Option Bs} {l:List Pr} {S:List Nat} (hn:Nt s h n lo hi l S) (hr:qO n=true) (hs:¬ qW n<=256):4<=l.length:=by
 cases h with
 | zero =>
  obtain ⟨rfl,_,_⟩:=hn;obtain ⟨_,_,_,v1⟩:=xN hr rfl;have v1:∀ p∈l,p.1≠[]/\p.1.length<=32/\p.2.length<=40:=v1;have hs:¬ 2+(l.map qJ).sum<=256:=hs;have:=vi qJ 74 l (λp hp=>by have:=v1 p hp; unfold qJ; omega);omega
 | succ h =>
  obtain ⟨ks,ps,rfl,_,hf⟩:=hn;obtain ⟨_,_,_,v1,_⟩:=zo hr rfl;have v1:∀ k∈ks,k≠[]/\k.length<=32:=v1;have hs:¬ 4+(ks.map λk=>3+k.length).sum<=256:=hs;have:=vi (λk:Bs=>3+k.length) 35 ks (λp hp=>by have:=v1 p hp; omega);have h1:=(qbE (c:=2 ^ h) (WY s h) ks ps lo hi l S hf).1;have h2:=Nat.two_pow_pos h;have h3:(ks.length+1) * 1<=(ks.length+1) * 2 ^ h:=Nat.mul_le_mul_left _ h2;omega
theorem Kq {o:Wo} (hP:o.P<=160) {h p:Nat} {lo:Bs} {hi:Option Bs} {l:List Pr} {S:List Nat} (ht:Tr o.s h p lo hi l S) (hnd:S.Nodup):h<=7/\S.length<=159:=by
 have h1:S.length<=159:=by
  have:=yH S ((List.range 160).erase 0) hnd (λq hq=>by
   have:=xT (Fu.some (vQ o.s h p lo hi l S ht q hq));rw [List.mem_erase_of_ne (by omega)];exact List.mem_range.2 (by omega))
  rwa [List.length_erase_of_mem (by simp),List.length_range] at this
 refine ⟨?_,h1⟩;have h2:=(WY o.s h p lo hi l S ht).2.1;rcases Nat.lt_or_ge h 8 with h3|h3
 ·omega
 ·have:2 ^ 8<=2 ^ h:=Nat.pow_le_pow_right (by omega) h3;omega
end Go.Fx.Tryz
namespace Go.Fx.Tryz
open Go Go.Fx
section
variable {x:Wx} {m:Mem}
theorem QK {lo0:Nat} (h:XR x m) (he:x.err=0) (hf:Fu x.o) {page:Nat} (hp:x.o.s page≠none) {n:Nd} {v:Value} (ht:TN lo0 m v n) (hr:qO n=true) (hw:wtN n) {g:Nat} {lo:Bs} {hi:Option Bs} {l:List Pr} {U:List Nat} (hn:Nt x.o.s g n lo hi l U) (hpS:page∉U) (hnd:U.Nodup) :
  W (Call S tab 125 [x.v,.int .i64 (page:Int),v] m) λr m' =>
   (¬ qW n<=256/\∃ x',XR x' m'/\Kin x x'/\x'.err=8/\Upd x.fp m m') ∨
   ∃ x' ps S',XR x' m'/\Kin x x'/\x'.err=0/\x'.rd=x.rd/\Fu x'.o/\RSl m.next zQ m' r ps /\
    Pts x'.o.s (λp lo hi l S=>∃ S0,Pn x'.o.s p n/\Nt x'.o.s g n lo hi l S0/\S=p::S0) g page lo hi ps l S'/\Stp x.o.s x'.o.s (page::U) S'/\S'.Nodup/\Upd x.fp m m':=by
 have hh:=Fu.some hp;have hlt:=xT hh;have hP:=h.wr.hP;have hu20:=h.wr.hu;have sub1:∀ b,b∈[x.o.pm,x.xb]->b∈x.fp:=λb hb=>lcI.2 (.inr hb)
 have sub2:∀ b,b∈[x.xb]->b∈x.fp:=λb hb=>lcI.2 (.inr (lcI.2 (.inr hb)))
 refine (qls h he (by omega) ht (Zv hr hw) hh hr (λhs=>by
  obtain ⟨a1,a2,a3,a4,a5,_⟩:=Zt hn hr hw hs;exact ⟨a1,a2,a3,a4,a5⟩)).mono λr m' hc=>?_
 rcases hc with ⟨hs,hv,⟨c,hx⟩,hu⟩|⟨hs,hx,hu⟩|⟨hs,q,c1,c2,c3,y1,y2,y3,hv,hx,hu⟩
 ·have es:=Wo.vj hh (zC n) c;have hout:∀ k∈U,zI x.o.s page (some (zC n)) k=x.o.s k:=λk hk=>by unfold zI; rw [if_neg (by rintro rfl; exact hpS hk)]
  refine .inr ⟨_,_,page::U,hx,Kin.o x ⟨rfl,rfl,rfl,rfl,rfl,rfl,rfl⟩,he,rfl,hf.write hh _ c,hv,.inl ⟨rfl,U,⟨?_,hr,hs⟩,?_,rfl⟩,?_,List.nodup_cons.2 ⟨hpS,hnd⟩,hu.mono λb hb _=>sub1 b hb⟩
  ·rw [es]; unfold zI; rw [if_pos rfl]
  ·rw [es]; exact wz g hout hn
  ·rw [es];exact ⟨λk hk _=>by unfold zI; rw [if_neg (by rintro rfl; simp at hk)],λk hk=>.inl hk,λk hk hk'=>absurd hk hk'⟩
 ·exact .inl ⟨hs,_,hx,⟨rfl,rfl,rfl,rfl,rfl,rfl,rfl,rfl,rfl,rfl⟩,rfl,hu.mono λb hb _=>sub2 b hb⟩
 ·obtain ⟨_,a2,a3,a4,a5,a6,a7,a8,a9,la,lb,Sa,Sb,b1,b2,b3,b4⟩:=Zt hn hr hw hs;have hq0:x.o.s q=none:=qaA y3;have hpq:page≠q:=by rintro rfl; exact hp hq0
  have hqS:q∉U:=λhm=>qir hn q hm hq0
  have e1:=Wo.Wn hu20 hP y1 y2 y3 (qp 256) c1;have f1:=hf.take hu20 hP y1 y2 y3 (qp 256) c1;have hh1:Wo.has { x.o with u:=xg x.o.u q,L:=upL x.o.L q (qp 256) c1 } page=true:=by
   apply Fu.some; rw [e1]; unfold zI; rw [if_neg hpq]; exact hp
  have e2:=Wo.vj hh1 (zC (qz n).1) c2;have f2:=f1.write hh1 (zC (qz n).1) c2;have hh2:Wo.has { x.o with u:=xg x.o.u q,L:=upL (upL x.o.L q (qp 256) c1) page (zC (qz n).1) c2 } q=true:=by
   apply Fu.some; rw [e2]; unfold zI; rw [if_neg (λe=>hpq e.symm),e1]; simp [zI]
  have e3:=Wo.vj hh2 (zC (qz n).2.1) c3;have f3:=f2.write hh2 (zC (qz n).2.1) c3;rw [e2,e1] at e3;have hout:∀ k,k≠page->k≠q->zI (zI (zI x.o.s q (some (qp 256))) page (some (zC (qz n).1))) q (some (zC (qz n).2.1)) k=x.o.s k:=λk h1 h2=>by
   unfold zI; rw [if_neg h2,if_neg h1,if_neg h2]
  have hSk:∀ k∈U,zI (zI (zI x.o.s q (some (qp 256))) page (some (zC (qz n).1))) q (some (zC (qz n).2.1)) k=x.o.s k:=λk hk=>hout k (by rintro rfl; exact hpS hk) (by rintro rfl; exact hqS hk)
  have hmem:∀ k,k∈page::(Sa++q::Sb)↔k=page∨k=q∨k∈U:=λk=>by
   rw [b4]; simp only [lcI,List.mem_append];constructor
   ·rintro (h|h|h|h)<;>simp [h]
   ·rintro (h|h|h|h)<;>simp [h]
  refine .inr ⟨_,_,(page::Sa)++(q::Sb),hx,Kin.o x ⟨rfl,rfl,rfl,rfl,rfl,rfl,rfl⟩,he,rfl,f3,hv,.inr ⟨_,q,la,lb,page::Sa,q::Sb,rfl,a8,a9,xf.2 ⟨_,Sa,⟨?_,a2,a3⟩,a6,?_,rfl⟩,xf.2 ⟨_,Sb,⟨?_,a4,a5⟩,a7,?_,rfl⟩,b3,rfl,qgC hn hr hs⟩,?_,?_,hu⟩
  ·rw [e3]; unfold zI; rw [if_neg hpq,if_pos rfl]
  ·rw [e3]; exact wz g (λk hk=>hSk k (by rw [b4]; exact List.mem_append.2 (.inl hk))) b1
  ·rw [e3]; unfold zI; rw [if_pos rfl]
  ·rw [e3]; exact wz g (λk hk=>hSk k (by rw [b4]; exact List.mem_append.2 (.inr hk))) b2
  ·rw [e3];refine ⟨λk h1 h2=>?_,λk hk=>?_,λk hk hk'=>?_⟩
   ·have:=mt (hmem k).2 h2;exact hout k (λe=>this (.inl e)) (λe=>this (.inr (.inl e)))
   ·rcases (hmem k).1 hk with h|h|h
    ·exact .inl (by simp [h])
    ·exact .inr (by rw [h]; exact hq0)
    ·exact .inl (by simp [h])
   ·exfalso;apply hk';refine (hmem k).2 ?_;rcases lcI.1 hk with h|h
    ·exact .inl h
    ·exact .inr (.inr h)
  ·rw [b4] at hnd hpS hqS;rw [List.nodup_append] at hnd;obtain ⟨n1,n2,n3⟩:=hnd;simp only [List.mem_append,not_or] at hpS hqS;rw [List.cons_append,List.nodup_cons,List.nodup_append,List.nodup_cons];refine ⟨?_,n1,⟨hqS.2,n2⟩,λa ha b hb=>?_⟩
   ·simp only [List.mem_append,lcI,not_or];exact ⟨hpS.1,hpq,hpS.2⟩
   ·rcases lcI.1 hb with rfl|hb
    ·rintro rfl; exact hqS.1 ha
    ·exact n3 a ha b hb
end
end Go.Fx.Tryz
namespace Go.Fx.Tryz
open Go Go.Fx
theorem vE (key:Bs):∀ ks:List Bs,qE ks=true->(∀ k∈ks.take (zM ks key),ltB key k=false)/\(∀ k∈ks.drop (zM ks key),ltB key k=true)/\zM ks key<=ks.length
 | [],_=>⟨by simp,by simp,by simp [zM]⟩
 | k::ks,h=>by
  obtain ⟨a,b,c⟩:=vE key ks (qL h).1;rw [qbo h];cases hk:ltB key k with
  | true =>
   refine ⟨by simp,λj hj=>?_,by simp⟩;rcases lcI.1 hj with rfl|hj
   ·exact hk
   ·exact zT hk ((qL h).2 j hj)
  | false =>
   simp only [Bool.false_eq_true,if_false,List.take_succ_cons,List.drop_succ_cons,lnI];refine ⟨λj hj=>?_,b,by omega⟩;rcases lcI.1 hj with rfl|hj
   ·exact hk
   ·exact a j hj
theorem qbD {R:TP} (hR:Rng R) {key lo:Bs} {hi:Option Bs} {ks:List Bs} {ps:List Nat} {l:List Pr} {S:List Nat} (hf:Fo R lo hi ks ps l S) (hr:qE ks=true) (hk:∀ k∈ks,inK lo hi k) (hkey:inR lo hi key) :
  ∃ p lo' hi' l0 l1 l2 S0 S1 S2,ps=ps.take (zM ks key)++p::ps.drop (zM ks key+1)/\FL R lo (ks.take (zM ks key)) (ps.take (zM ks key)) lo' l0 S0/\R p lo' hi' l1 S1 /\
   FR R hi' hi (ks.drop (zM ks key)) (ps.drop (zM ks key+1)) l2 S2/\l=l0++(l1++l2)/\S=S0++(S1++S2)/\inR lo' hi' key/\(∀ x∈l0,ltB x.1 key=true)/\(∀ x∈l2,ltB key x.1=true):=by
 obtain ⟨c1,c2,c3⟩:=vE key ks hr;obtain ⟨p,lo',hi',l0,l1,l2,S0,S1,S2,e1,e2,e3,e4,e5,e6⟩:=qcT _ ks ps lo l S hf c3;have hlo:=qah _ _ _ _ _ _ e2 (xH _ _ hr) (λk hk'=>(hk k (List.mem_of_mem_take hk')).1);have h1:ltB key lo'=false:=by
  rcases hlo.1 with h|h
  ·rw [h]; exact hkey.1
  ·exact c1 lo' h
 refine ⟨p,lo',hi',l0,l1,l2,S0,S1,S2,e1,e2,e3,e4,e5,e6,⟨h1,λe he=>?_⟩,λx hx=>xu (qjd hR _ _ _ _ _ _ e2 (xH _ _ hr) x hx) h1,λx hx=>?_⟩
 ·generalize ks.drop (zM ks key)=kb at e4 c2;cases kb with
  | nil=>exact hkey.2 e (e4.2.1.symm.trans he)
  | cons k kb=>have:=e4.1.symm.trans he; cases this; exact c2 e (by simp)
 ·obtain ⟨e,he,hx'⟩:=qlm hR e4 (xU _ _ hr) x hx;refine xu ?_ hx';generalize ks.drop (zM ks key)=kb at e4 c2;cases kb with
  | nil=>rw [e4.2.2.1] at hx; simp at hx
  | cons k kb=>have:=e4.1.symm.trans he; cases this; exact c2 e (by simp)
theorem qix {ks:List Bs} {ps:List Nat} {c p:Nat} (h:ps=ps.take c++p::ps.drop (c+1)) (hc:c<=ks.length) (hl:ps.length=ks.length+1):vd (Nd.nd ks ps) c [([],p)]=Nd.nd ks ps:=by
 rw [withN_eq (Nd.nd ks ps) c _ (by show c<ps.length; omega) hl];show Nd.nd (ks.take c++([]++ks.drop c)) (ps.take c++([p]++ps.drop (c+1)))=_;rw [List.nil_append,List.take_append_drop,List.singleton_append,<- h]
theorem qiw {ks:List Bs} {ps:List Nat} {c p q:Nat} {k:Bs} (hc:c<=ks.length) (hl:ps.length=ks.length+1):vd (Nd.nd ks ps) c [([],p),(k,q)]=Nd.nd (ks.take c++k::ks.drop c) (ps.take c++p::q::ps.drop (c+1)):=by
 rw [withN_eq (Nd.nd ks ps) c _ (by show c<ps.length; omega) hl];rfl
theorem qbQ (f:Bs->Nat) (a:List Bs) (k:Bs) (b:List Bs):((a++k::b).map f).sum=((a++b).map f).sum+f k:=by
 simp only [List.map_append,List.map_cons,List.sum_append,List.sum_cons]; omega
theorem KR {s':Nat->Option Bs} {h:Nat} {lo lo' k:Bs} {hi hi':Option Bs} {ka kb:List Bs} {pa pb:List Nat} {p q p0:Nat} {l0 la lb l2:List Pr} {S0 Sa Sb S2:List Nat} (hr:qO (Nd.nd (ka++kb) (pa++p0::pb))=true) (hw:((ka++kb).map λk=>3+k.length).sum<=252)
  (hk:∀ j∈ka++kb,inK lo hi j) (hs:∀ q,s' q≠none->1<=q/\q<=65535) (h0:FL (Tr s' h) lo ka pa lo' l0 S0) (h2:FR (Tr s' h) hi' hi kb pb l2 S2) (hkk:inK lo' hi' k) (h32:k≠[]/\k.length<=32) (ha:Tr s' h p lo' (some k) la Sa) (hb:Tr s' h q k hi' lb Sb) :
  Nt s' (h+1) (Nd.nd (ka++k::kb) (pa++p::q::pb)) lo hi (l0++((la++lb)++l2)) (S0++((Sa++Sb)++S2))/\qO (Nd.nd (ka++k::kb) (pa++p::q::pb))=true/\wtN (Nd.nd (ka++k::kb) (pa++p::q::pb))/\neN (Nd.nd (ka++k::kb) (pa++p::q::pb)):=by
 obtain ⟨_,i1,r1,v1,p1⟩:=zo hr rfl;have i1:(pa++p0::pb).length=(ka++kb).length+1:=i1;have r1:qE (ka++kb)=true:=r1;have p1:∀ k∈pa++p0::pb,1<=k/\k<=65535:=p1;obtain ⟨m1,m2⟩:=qhX h0 h2 r1 hk hkk h32;have f:=KC (R:=Tr s' h) (hi:=hi) (kb:=kb) (pb:=pb) [] [] k k [] [] ⟨rfl,rfl,rfl⟩ hb h2;have f2:FR (Tr s' h) (some k) hi (k::kb) (q::pb) (lb++l2) (Sb++S2):=⟨rfl,f⟩;have f3:=KC (R:=Tr s' h) ka pa lo lo' l0 S0 h0 ha f2;rw [<- aaI la,<- aaI Sa] at f3;have mp:∀ p lo hi l S,Tr s' h p lo hi l S->1<=p/\p<=65535:=λp lo hi l S ht=>by
  obtain ⟨n,S',hp,_⟩:=xf.1 ht;exact hs p (by rw [hp.pg]; simp)
 refine ⟨⟨_,_,rfl,λj hj=>?_,f3⟩,vr ?_ m1 (λj hj=>?_),?_,by simp [neN,Nd.nd]⟩
 ·rcases List.mem_append.1 hj with hj|hj
  ·exact hk j (by simp [hj])
  ·rcases lcI.1 hj with rfl|hj
   ·exact m2
   ·exact hk j (by simp [hj])
 ·simp only [laI,lnI] at i1 ⊢; omega
 ·rcases List.mem_append.1 hj with hj|hj
  ·exact p1 j (by simp [hj])
  ·rcases lcI.1 hj with rfl|hj
   ·exact mp _ _ _ _ _ ha
   ·rcases lcI.1 hj with rfl|hj
    ·exact mp _ _ _ _ _ hb
    ·exact p1 j (by simp [hj])
 ·show ((ka++k::kb).map λk=>3+k.length).sum<=430;rw [qbQ]; omega
end Go.Fx.Tryz
