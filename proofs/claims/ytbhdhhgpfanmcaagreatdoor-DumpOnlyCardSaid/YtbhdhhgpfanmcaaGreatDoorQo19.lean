/- Parts of a proof: TreeU, TreeV, TreeW, TreeXb, TreeXa, TreeX, TreeY. Conditions: none. -/
import Derived.Test.YtbhdhhgpfanmcaaGreatDoorQo18
set_option linter.unusedSimpArgs false
set_option linter.unusedVariables false
namespace Go.Fx.Tryz
open Go Go.Fx
theorem vO {a b:Bs}:ltB a b=true↔a<b:=by simp [ltB]
theorem qac {a b:Bs}:ltB a b=false↔¬ a<b:=by simp [ltB]
theorem jY (a:Bs):ltB a a=false:=qac.2 (List.lt_irrefl a)
theorem xB {a b c:Bs} (h1:ltB a b=true) (h2:ltB b c=true):ltB a c=true:=vO.2 (List.lt_trans (vO.1 h1) (vO.1 h2))
theorem xm {a b:Bs} (h:ltB a b=true):ltB b a=false:=by
 cases hb:ltB b a with
 | false=>rfl
 | true=>have:=xB h hb; rw [jY] at this; cases this
theorem ZL {a b:Bs} (h1:ltB a b=false) (h2:ltB b a=false):a=b:=by
 have:=leB_eq a b
 rw [h1,h2] at this
 simpa using this
theorem xC {a b c:Bs} (h1:ltB a b=true) (h2:ltB c b=false):ltB a c=true:=by
 cases h:ltB b c with
 | true=>exact xB h1 h
 | false=>rw [← ZL h h2]; exact h1
theorem jR {a b c:Bs} (h1:ltB b a=false) (h2:ltB b c=true):ltB a c=true:=by
 cases h:ltB a b with
 | true=>exact xB h h2
 | false=>rw [ZL h h1]; exact h2
theorem XI {a b:Bs} (h:ltB a b=true):a≠b:=by rintro rfl; rw [jY] at h; cases h
theorem qF {k:Bs} {ks:List Bs} (h:qC (k::ks)=true):qC ks=true∧∀ j∈ks,ltB k j=true:=by
 induction ks generalizing k with
 | nil=>exact ⟨rfl,by simp⟩
 | cons j ks ih =>
  simp only [qC,Bool.and_eq_true,decide_eq_true_eq] at h
  have hr:qC (j::ks)=true:=by simp only [qC,Bool.and_eq_true,decide_eq_true_eq]; exact h.2
  refine ⟨hr,fun x hx=>?_⟩
  rcases List.mem_cons.1 hx with rfl|hx
  ·exact h.1.2
  ·exact xB h.1.2 ((ih hr).2 x hx)
theorem Hl {k key:Bs} {ks:List Bs} (h:qC (k::ks)=true):zS (k::ks) key=if ltB key k then 0 else zS ks key+1:=by
 unfold zS
 cases hk:ltB key k with
 | false=>simp [hk]
 | true =>
  have:(ks.filter fun j=>!ltB key j)=[]:=List.filter_eq_nil_iff.2 (fun j hj=>by simp [xB hk ((qF h).2 j hj)])
  simp [hk,this]
theorem kq {k:Bs} {ks:List Bs} (h0:k≠[]∧k.length≤32) (h:qC ks=true) (h1:∀ j∈ks,ltB k j=true):qC (k::ks)=true:=by
 cases ks with
 | nil=>simp [qC,h0.1,h0.2]
 | cons j r =>
  simp only [qC,Bool.and_eq_true,decide_eq_true_eq] at h ⊢
  exact ⟨⟨h0,h1 j (by simp)⟩,h⟩
def Rng (R:TP):Prop:=∀ p lo hi l S,R p lo hi l S→∀ x∈l,inR lo hi x.1
theorem qek {R:TP} (hR:Rng R):∀ (ks:List Bs) (ps:List Nat) (lo:Bs) (hi:Option Bs) (l:List Pr) (S:List Nat),qC ks=true→(∀ k∈ks,ltB lo k=true)→Fo R lo hi ks ps l S→∀ x∈l,ltB x.1 lo=false
 | [],[p],lo,hi,l,S,_,_,hf=>fun x hx=>(hR _ _ _ _ _ hf x hx).1
 | k::ks,p::ps,lo,hi,l,S,hr,hk,⟨l1,S1,l2,S2,h1,h2,h3,h4⟩=>fun x hx=>by
  subst h3
  rcases List.mem_append.1 hx with h|h
  ·exact (hR _ _ _ _ _ h1 x h).1
  ·have:=qek hR ks ps k hi l2 S2 (qF hr).1 (qF hr).2 h2 x h
   exact xm (xC (hk k (by simp)) this)
 | [],[],_,_,_,_,_,_,hf=>hf.elim
 | [],_::_::_,_,_,_,_,_,_,hf=>hf.elim
 | _::_,[],_,_,_,_,_,_,hf=>hf.elim
theorem WM {lo lo':Bs} {hi hi':Option Bs} {k:Bs} (h:inR lo' hi' k) (hl:ltB lo' lo=false) (hh:∀ e,hi=some e→∃ e',hi'=some e'∧ltB e e'=false):inR lo hi k:=by
 refine ⟨?_,fun e he=>?_⟩
 ·cases hc:ltB k lo with
  | false=>rfl
  | true=>have:=xC hc hl; rw [h.1] at this; cases this
 ·obtain ⟨e',h1,h2⟩:=hh e he
  exact xC (h.2 e' h1) h2
theorem qej {R:TP} (hR:Rng R):∀ (ks:List Bs) (ps:List Nat) (lo:Bs) (hi:Option Bs) (l:List Pr) (S:List Nat),qC ks=true→(∀ k∈ks,inR lo hi k)→Fo R lo hi ks ps l S→∀ x∈l,inR lo hi x.1
 | [],[p],lo,hi,l,S,_,_,hf=>fun x hx=>hR _ _ _ _ _ hf x hx
 | k::ks,p::ps,lo,hi,l,S,hr,hk,⟨l1,S1,l2,S2,h1,h2,h3,h4⟩=>fun x hx=>by
  subst h3
  have hkk:=hk k (by simp)
  rcases List.mem_append.1 hx with h|h
  ·exact WM (hR _ _ _ _ _ h1 x h) (jY lo) (fun e he=>⟨k,rfl,by
    have:=hkk.2 e he
    exact xm this⟩)
  ·refine WM (qej hR ks ps k hi l2 S2 (qF hr).1 (fun j hj=>⟨xm ((qF hr).2 j hj),(hk j (by simp [hj])).2⟩) h2 x h) hkk.1 (fun e he=>⟨e,he,jY e⟩)
 | [],[],_,_,_,_,_,_,hf=>hf.elim
 | [],_::_::_,_,_,_,_,_,_,hf=>hf.elim
 | _::_,[],_,_,_,_,_,_,hf=>hf.elim
theorem inK.r {lo:Bs} {hi:Option Bs} {k:Bs} (h:inK lo hi k):inR lo hi k:=⟨xm h.1,h.2⟩
theorem Ja (s:Nat→Option Bs):∀ h,Rng (Tr s h)
 | 0=>fun p lo hi l S ⟨_,_,_,_,h3,_⟩=>h3.2.1
 | h+1=>fun p lo hi l S ⟨n,S',hp,_,⟨ks,ps,e,hk,hf⟩,_⟩=>by
  subst e
  exact qej (Ja s h) ks ps lo hi l S' (zH hp.rt rfl).2.2.1 (fun k hk'=>(hk k hk').r) hf
theorem Hy {R:TP} {P:Nat→Prop} (hR:∀ p lo hi l S,R p lo hi l S→∀ q∈S,P q):∀ (ks:List Bs) (ps:List Nat) (lo:Bs) (hi:Option Bs) (l:List Pr) (S:List Nat),Fo R lo hi ks ps l S→∀ q∈S,P q
 | [],[p],lo,hi,l,S,hf=>hR _ _ _ _ _ hf
 | k::ks,p::ps,lo,hi,l,S,⟨l1,S1,l2,S2,h1,h2,h3,h4⟩=>fun q hq=>by
  subst h4
  rcases List.mem_append.1 hq with h|h
  ·exact hR _ _ _ _ _ h1 q h
  ·exact Hy hR ks ps _ _ _ _ h2 q h
 | [],[],_,_,_,_,hf=>hf.elim
 | [],_::_::_,_,_,_,_,hf=>hf.elim
 | _::_,[],_,_,_,_,hf=>hf.elim
theorem vX (s:Nat→Option Bs):∀ (h:Nat) (p:Nat) (lo:Bs) (hi:Option Bs) (l:List Pr) (S:List Nat),Tr s h p lo hi l S→∀ q∈S,s q≠none
 | 0,p,lo,hi,l,S,⟨n,S',hp,_,h3,hS⟩=>fun q hq=>by
  obtain ⟨_,_,h3⟩:=h3
  subst h3 hS
  simp at hq; subst hq; rw [hp.pg]; simp
 | h+1,p,lo,hi,l,S,⟨n,S',hp,_,⟨ks,ps,_,_,hf⟩,hS⟩=>fun q hq=>by
  subst hS
  rcases List.mem_cons.1 hq with rfl|hq
  ·rw [hp.pg]; simp
  ·exact Hy (vX s h) ks ps _ _ _ _ hf q hq
theorem qfw {s:Nat→Option Bs} {h:Nat} {n:Nd} {lo:Bs} {hi:Option Bs} {l:List Pr} {S:List Nat} (hn:Nt s h n lo hi l S):∀ q∈S,s q≠none:=by
 cases h with
 | zero=>rw [hn.2.2]; simp
 | succ h =>
  obtain ⟨ks,ps,_,_,hf⟩:=hn
  exact Hy (vX s h) ks ps _ _ _ _ hf
theorem Zq (w:List Nat) (most all W:Nat) (hW:∀ a∈w,a≤W):∀ (d i:Nat),w.length≤i+d→i≤w.length→2 * (w.take i).sum≤all+2 * W →
  2 * (w.take (xh w most all d i (w.take i).sum)).sum≤all+2 * W∧(most≤xh w most all d i (w.take i).sum∨all≤2 * (w.take (xh w most all d i (w.take i).sum)).sum∨w.length≤xh w most all d i (w.take i).sum)
 | 0,i,hd,hi,hs=>by unfold xh; exact ⟨hs,.inr (.inr (by omega))⟩
 | d+1,i,hd,hi,hs=>by
  unfold xh
  by_cases hc:i=0∨(i<most∧2 * (w.take i).sum<all)
  ·rw [if_pos hc]
   by_cases hlt:i<w.length
   ·have hg:w.getD i 0=w[i]:=by rw [List.getD_eq_getElem?_getD,List.getElem?_eq_getElem hlt]; rfl
    have hw:=hW _ (List.getElem_mem hlt)
    rw [hg,← jX w hlt]
    refine Zq w most all W hW d (i+1) (by omega) hlt ?_
    rw [jX w hlt]
    rcases hc with h|h
    ·subst h; simp; omega
    ·omega
   ·have hg:w.getD i 0=0:=by rw [List.getD_eq_getElem?_getD,List.getElem?_eq_none (by omega)]; rfl
    have h1:w.take (i+1)=w.take i:=by rw [List.take_of_length_le (by omega),List.take_of_length_le (by omega)]
    have hge:=QR w most all d (i+1) ((w.take i).sum+w.getD i 0)
    rw [hg,Nat.add_zero] at hge ⊢
    refine ⟨?_,.inr (.inr (by omega))⟩
    rw [List.take_of_length_le (by omega)]
    rw [List.take_of_length_le (by omega)] at hs
    exact hs
  ·rw [if_neg hc]
   refine ⟨hs,?_⟩
   by_cases h1:i<most
   ·exact .inr (.inl (by omega))
   ·exact .inl (by omega)
theorem XM {w:List Nat} {most W:Nat} (hW:∀ a∈w,a≤W):2 * (w.take (kE w most)).sum≤w.sum+2 * W∧(most≤kE w most∨w.sum≤2 * (w.take (kE w most)).sum∨w.length≤kE w most):=by
 have:=Zq w most w.sum W hW w.length 0 (by omega) (by omega) (by simp)
 simpa [kE] using this
theorem ko {k:Bs} {ks:List Bs} (h:qC (k::ks)=true):k≠[]∧k.length≤32:=by
 simp only [qC,Bool.and_eq_true,decide_eq_true_eq] at h
 exact h.1.1
theorem jw:∀ (l:List Bs) (i:Nat),qC l=true→qC (l.drop i)=true
 | l,0,h=>h
 | [],i+1,h=>h
 | k::l,i+1,h=>jw l i (qF h).1
theorem xF:∀ (l:List Bs) (i:Nat),qC l=true→qC (l.take i)=true
 | l,0,h=>by simp [qC]
 | [],i+1,h=>by simp [qC]
 | k::l,i+1,h=>by
  rw [List.take_succ_cons]
  exact kq (ko h) (xF l i (qF h).1) (fun j hj=>(qF h).2 j (List.mem_of_mem_take hj))
theorem wT {l:List Pr} (h1:qC (l.map (·.1))=true) (h2:∀ p∈l,p.2.length≤40):qT (Nd.lf l)=true:=by
 simp only [qT,Nd.lf,if_true,Bool.and_eq_true,List.all_eq_true,decide_eq_true_eq,List.isEmpty_iff]
 exact ⟨⟨⟨trivial,trivial⟩,h1⟩,h2⟩
theorem wS {ks:List Bs} {ps:List Nat} (h0:ps.length=ks.length+1) (h1:qC ks=true) (h2:∀ k∈ps,1≤k∧k≤65535):qT (Nd.nd ks ps)=true:=by
 simp only [qT,Nd.nd,Bool.false_eq_true,if_false,Bool.and_eq_true,List.all_eq_true,decide_eq_true_eq,List.isEmpty_iff]
 exact ⟨⟨⟨trivial,decide_eq_true h0⟩,h1⟩,h2⟩
theorem Yy {l:List Pr} (hr:qC (l.map (·.1))=true) (hv:∀ p∈l,p.2.length≤40) (h2:2≤l.length) (hs:(l.map qI).sum≤344) :
  1≤zg l∧zg l<l.length∧qT (Nd.lf (l.take (zg l)))=true∧zt (Nd.lf (l.take (zg l)))≤256∧qT (Nd.lf (l.drop (zg l)))=true∧zt (Nd.lf (l.drop (zg l)))≤256:=by
 have h1:1≤zg l:=Ql (by cases l with|nil=>simp at h2|cons a r=>simp)
 have hle:zg l≤l.length - 1:=Qk (by omega)
 have hW:∀ a∈l.map qI,a≤74:=by
  intro a ha
  obtain ⟨p,hp,rfl⟩:=List.mem_map.1 ha
  obtain ⟨i,hi,rfl⟩:=List.mem_iff_getElem.1 hp
  have:=(zK hr i (by simpa using hi)).2.1
  rw [List.getElem_map] at this
  have:=hv _ (List.getElem_mem hi)
  unfold qI; omega
 obtain ⟨s1,s2⟩:=XM (most:=l.length - 1) hW
 have hsum:=congrArg List.sum (List.take_append_drop (zg l) (l.map qI))
 rw [List.sum_append] at hsum
 have e1:(l.take (zg l)).map qI=(l.map qI).take (zg l):=List.map_take ..
 have e2:(l.drop (zg l)).map qI=(l.map qI).drop (zg l):=List.map_drop ..
 refine ⟨h1,by omega,wT (by rw [List.map_take]; exact xF _ _ hr) (fun p hp=>hv p (List.mem_of_mem_take hp)),?_,wT (by rw [List.map_drop]; exact jw _ _ hr) (fun p hp=>hv p (List.mem_of_mem_drop hp)),?_⟩
 ·show 2+((l.take (zg l)).map qI).sum≤256
  rw [e1]
  have:kE (l.map qI) (l.length - 1)=zg l:=rfl
  rw [this] at s1
  omega
 ·show 2+((l.drop (zg l)).map qI).sum≤256
  rw [e2]
  have hh:kE (l.map qI) (l.length - 1)=zg l:=rfl
  rw [hh] at s2
  by_cases hc:(l.map qI).sum≤2 * ((l.map qI).take (zg l)).sum
  ·omega
  ·have hx:l.length - 1≤zg l:=by
    rcases s2 with h|h|h
    ·exact h
    ·omega
    ·simp at h; omega
   have:=kG (fun a:Nat=>a) 74 ((l.map qI).drop (zg l)) (fun a ha=>hW a (List.mem_of_mem_drop ha))
   rw [List.map_id',List.length_drop,List.length_map] at this
   have:(l.length - zg l) * 74≤1 * 74:=Nat.mul_le_mul_right _ (by omega)
   omega
theorem VQ {ks:List Bs} {ps:List Nat} (hr:qC ks=true) (h0:ps.length=ks.length+1) (hp:∀ k∈ps,1≤k∧k≤65535) (h2:3≤ks.length) (hs:(ks.map fun k=>3+k.length).sum≤430) :
  1≤ze ks∧ze ks+1<ks.length∧qT (Nd.nd (ks.take (ze ks)) (ps.take (ze ks+1)))=true∧zt (Nd.nd (ks.take (ze ks)) (ps.take (ze ks+1)))≤256∧qT (Nd.nd (ks.drop (ze ks+1)) (ps.drop (ze ks+1)))=true∧zt (Nd.nd (ks.drop (ze ks+1)) (ps.drop (ze ks+1)))≤256:=by
 have h1:1≤ze ks:=Ql (by cases ks with|nil=>simp at h2|cons a r=>simp)
 have hle:ze ks≤ks.length - 2:=Qk (by omega)
 have hW:∀ a∈ks.map (fun k=>3+k.length),a≤35:=by
  intro a ha
  obtain ⟨p,hp,rfl⟩:=List.mem_map.1 ha
  obtain ⟨i,hi,rfl⟩:=List.mem_iff_getElem.1 hp
  have:=(zK hr i hi).2.1
  omega
 obtain ⟨s1,s2⟩:=XM (most:=ks.length - 2) hW
 have hh:kE (ks.map fun k=>3+k.length) (ks.length - 2)=ze ks:=rfl
 rw [hh] at s1 s2
 have hsum:=congrArg List.sum (List.take_append_drop (ze ks) (ks.map fun k=>3+k.length))
 rw [List.sum_append] at hsum
 have hd:(((ks.map fun k=>3+k.length).drop (ze ks+1)).sum)≤((ks.map fun k=>3+k.length).drop (ze ks)).sum:=by
  rw [List.drop_eq_getElem_cons (i:=ze ks) (by simp; omega),List.sum_cons]; omega
 have e1:(ks.take (ze ks)).map (fun k=>3+k.length)=(ks.map fun k=>3+k.length).take (ze ks):=List.map_take ..
 have e2:(ks.drop (ze ks+1)).map (fun k=>3+k.length)=(ks.map fun k=>3+k.length).drop (ze ks+1):=List.map_drop ..
 refine ⟨h1,by omega,wS (by rw [List.length_take,List.length_take]; omega) (xF _ _ hr) (fun k hk=>hp k (List.mem_of_mem_take hk)),?_,wS (by rw [List.length_drop,List.length_drop]; omega) (jw _ _ hr) (fun k hk=>hp k (List.mem_of_mem_drop hk)),?_⟩
 ·show 4+((ks.take (ze ks)).map fun k=>3+k.length).sum≤256
  rw [e1]; omega
 ·show 4+((ks.drop (ze ks+1)).map fun k=>3+k.length).sum≤256
  rw [e2]
  by_cases hc:(ks.map fun k=>3+k.length).sum≤2 * ((ks.map fun k=>3+k.length).take (ze ks)).sum
  ·omega
  ·have hx:ks.length - 2≤ze ks:=by
    rcases s2 with h|h|h
    ·exact h
    ·omega
    ·simp at h; omega
   have:=kG (fun a:Nat=>a) 35 ((ks.map fun k=>3+k.length).drop (ze ks+1)) (fun a ha=>hW a (List.mem_of_mem_drop ha))
   rw [List.map_id',List.length_drop,List.length_map] at this
   have:(ks.length - (ze ks+1)) * 35≤1 * 35:=Nat.mul_le_mul_right _ (by omega)
   omega
end Go.Fx.Tryz
namespace Go.Fx.Tryz
open Go Go.Fx
def Wo.s (o:Wo) (k:Nat):Option Bs:=if o.has k then lkL o.L k else none
def ji (s:Nat→Option Bs) (p:Nat) (d:Option Bs):Nat→Option Bs:=fun k=>if k=p then d else s k
theorem Wo.qfJ {o:Wo} {k:Nat} {d:Bs} (h:o.s k=some d):o.has k=true∧lkL o.L k=some d:=by
 unfold Wo.s at h
 split at h
 ·exact ⟨by assumption,h⟩
 ·cases h
theorem Wo.wO {o:Wo} {p:Nat} (h:o.has p=true) (d:Bs) (c:Nat):Wo.s { o with L:=upL o.L p d c } = ji o.s p (some d):=by
 funext k
 have e:Wo.has { o with L:=upL o.L p d c } k=o.has k:=rfl
 unfold Wo.s ji
 rw [e,qad]
 by_cases hk:k=p
 ·subst hk; rw [h]; simp
 ·simp [hk]
theorem Wo.WN {o:Wo} (hu:o.u.length=20) (hP:o.P≤160) {n:Nat} (hn:n<o.P) (k:Nat) (L:Pg):Wo.has { o with u:=xx o.u n,L:=L } k=(decide (1≤k)&&decide (k<o.P)&&(xX o.u k ^^ decide (k=n))):=by
 unfold Wo.has
 show (decide (1≤k)&&decide (k<o.P)&&xX (xx o.u n) k)=_
 rw [ZV o.u (by omega)]
theorem Wo.KG {o:Wo} (hu:o.u.length=20) (hP:o.P≤160) {n:Nat} (h1:1≤n) (hn:n<o.P) (hb:xX o.u n=false) (d:Bs) (c:Nat):Wo.s { o with u:=xx o.u n,L:=upL o.L n d c } = ji o.s n (some d):=by
 funext k
 unfold Wo.s ji
 rw [Wo.WN hu hP hn]
 by_cases hk:k=n
 ·subst hk; simp [h1,hn,hb,qad]
 ·simp only [decide_eq_false hk,Bool.xor_false,qad,if_neg hk]; rfl
end Go.Fx.Tryz
namespace Go.Fx.Tryz
open Go Go.Fx
theorem wu:∀ (a b:List Bs),qC a=true→qC b=true→(∀ i∈a,∀ j∈b,ltB i j=true)→qC (a++b)=true
 | [],b,_,hb,_=>hb
 | k::a,b,ha,hb,h=>by
  refine kq (ko ha) (wu a b (qF ha).1 hb (fun i hi j hj=>h i (by simp [hi]) j hj)) (fun j hj=>?_)
  rcases List.mem_append.1 hj with hj|hj
  ·exact (qF ha).2 j hj
  ·exact h k (by simp) j hj
theorem vL:∀ (a:List Bs) (k:Bs) (b:List Bs),qC (a++k::b)=true→(∀ j∈a,ltB j k=true)∧(∀ j∈b,ltB k j=true)∧qC a=true∧qC b=true∧k≠[]∧k.length≤32
 | [],k,b,h=>⟨by simp,(qF h).2,rfl,(qF h).1,ko h⟩
 | i::a,k,b,h=>by
  obtain ⟨h1,h2,h3,h4,h5⟩:=vL a k b (qF h).1
  refine ⟨fun j hj=>?_,h2,kq (ko h) h3 (fun j hj=>(qF h).2 j (by simp [hj])),h4,h5⟩
  rcases List.mem_cons.1 hj with rfl|hj
  ·exact (qF h).2 k (by simp)
  ·exact h1 j hj
theorem Xz {a:List Bs} {k:Bs} {b:List Bs} (ha:qC a=true) (hb:qC b=true) (hk:k≠[]∧k.length≤32) (h1:∀ j∈a,ltB j k=true) (h2:∀ j∈b,ltB k j=true):qC (a++k::b)=true :=
 wu a (k::b) ha (kq hk hb h2) (fun i hi j hj=>by
  rcases List.mem_cons.1 hj with rfl|hj
  ·exact h1 i hi
  ·exact xB (h1 i hi) (h2 j hj))
abbrev rowP (l:List Pr):Prop:=qC (l.map (·.1))=true∧∀ p∈l,p.2.length≤40
theorem Jy (key:Bs):∀ l:List Pr,qC (l.map (·.1))=true→∃ A B C,l=A++(B++C)∧(∀ x∈A,ltB x.1 key=true)∧(∀ x∈C,ltB key x.1=true)∧(B=[]∨∃ v,B=[(key,v)])
 | [],_=>⟨[],[],[],rfl,by simp,by simp,.inl rfl⟩
 | x::l,h=>by
  rw [List.map_cons] at h
  have ht:=(qF h).2
  cases h1:ltB x.1 key with
  | true =>
   obtain ⟨A,B,C,e,a,b,c⟩:=Jy key l (qF h).1
   refine ⟨x::A,B,C,by rw [e]; rfl,fun y hy=>?_,b,c⟩
   rcases List.mem_cons.1 hy with rfl|hy
   ·exact h1
   ·exact a y hy
  | false =>
   have hl:∀ y∈l,ltB key y.1=true:=fun y hy=>jR h1 (ht y.1 (List.mem_map_of_mem hy))
   cases h2:ltB key x.1 with
   | true =>
    refine ⟨[],[],x::l,rfl,by simp,fun y hy=>?_,.inl rfl⟩
    rcases List.mem_cons.1 hy with rfl|hy
    ·exact h2
    ·exact hl y hy
   | false =>
    have:=ZL h1 h2
    exact ⟨[],[x],l,rfl,by simp,hl,.inr ⟨x.2,by rw [← this]⟩⟩
theorem JD (key v:Bs):zx [(key,v)] key=0:=by simp [zx,jY]
theorem qbr (key v:Bs):zJ [(key,v)] key=true:=by simp [zJ,JD]
theorem qcW {key val:Bs} {A B C:List Pr} (hA:∀ x∈A,ltB x.1 key=true) (hC:∀ x∈C,ltB key x.1=true) (hB:B=[]∨∃ v,B=[(key,v)]):xD (A++(B++C)) key val=A++(key,val)::C:=by
 rw [HW hA (fun x hx=>⟨xm (hC x hx),(XI (hC x hx)).symm⟩)]
 rcases hB with rfl|⟨v,rfl⟩
 ·rfl
 ·simp [xD,yK,qbr,JD]
theorem Wy {l:List Pr} {key val:Bs} (h:rowP l) (hk:key≠[]∧key.length≤32) (hv:val.length≤40):rowP (xD l key val)∧(∀ x∈xD l key val,x∈l∨x=(key,val))∧((xD l key val).map qI).sum≤(l.map qI).sum+74∧xD l key val≠[]:=by
 obtain ⟨A,B,C,e,a,b,c⟩:=Jy key l h.1
 rw [e,qcW a b c]
 obtain ⟨h1,h2⟩:=h
 rw [e] at h1 h2
 simp only [List.map_append] at h1
 have hA:qC (A.map (·.1))=true:=by
  have:=xF _ A.length h1
  rwa [List.take_left' (by simp)] at this
 have hC:qC (C.map (·.1))=true:=by
  have:=jw _ (A.length+B.length) h1
  rwa [← List.append_assoc,List.drop_left' (by simp)] at this
 refine ⟨⟨?_,fun p hp=>?_⟩,fun x hx=>?_,?_,by simp⟩
 ·rw [List.map_append,List.map_cons]
  refine Xz hA hC hk (fun j hj=>?_) (fun j hj=>?_)
  ·obtain ⟨x,hx,rfl⟩:=List.mem_map.1 hj; exact a x hx
  ·obtain ⟨x,hx,rfl⟩:=List.mem_map.1 hj; exact b x hx
 ·rcases List.mem_append.1 hp with hp|hp
  ·exact h2 p (by simp [hp])
  ·rcases List.mem_cons.1 hp with rfl|hp
   ·exact hv
   ·exact h2 p (by simp [hp])
 ·rcases List.mem_append.1 hx with hx|hx
  ·exact .inl (by simp [hx])
  ·rcases List.mem_cons.1 hx with rfl|hx
   ·exact .inr rfl
   ·exact .inl (by simp [hx])
 ·have:qI (key,val)≤74:=by show 2+key.length+val.length≤74; omega
  simp only [List.map_append,List.map_cons,List.sum_append,List.sum_cons]
  omega
def FL (R:TP):Bs→List Bs→List Nat→Bs→List Pr→List Nat→Prop
 | lo,[],[],lo',l,S=>lo'=lo∧l=[]∧S=[]
 | lo,k::ks,p::ps,lo',l,S=>∃ l1 S1 l2 S2,R p lo (some k) l1 S1∧FL R k ks ps lo' l2 S2∧l=l1++l2∧S=S1++S2
 | _,_,_,_,_,_=>False
def FR (R:TP) (hi' hi:Option Bs) (ks:List Bs) (ps:List Nat) (l:List Pr) (S:List Nat):Prop :=
 match ks with
 | []=>ps=[]∧hi'=hi∧l=[]∧S=[]
 | k::ks=>hi'=some k∧Fo R k hi ks ps l S
theorem Yp {R:TP} {hi hi':Option Bs} {p:Nat} {l1 l2:List Pr} {S1 S2:List Nat} {kb:List Bs} {pb:List Nat}:∀ (ka:List Bs) (pa:List Nat) (lo lo':Bs) (l0:List Pr) (S0:List Nat),FL R lo ka pa lo' l0 S0→R p lo' hi' l1 S1→FR R hi' hi kb pb l2 S2→Fo R lo hi (ka++kb) (pa++p::pb) (l0++(l1++l2)) (S0++(S1++S2))
 | [],[],lo,lo',l0,S0,⟨e1,e2,e3⟩,h2,h3=>by
  subst e1 e2 e3
  cases kb with
  | nil=>obtain ⟨rfl,rfl,rfl,rfl⟩:=h3; simpa [Fo] using h2
  | cons k kb=>obtain ⟨rfl,h3⟩:=h3; exact ⟨l1,S1,l2,S2,h2,h3,rfl,rfl⟩
 | k::ka,q::pa,lo,lo',l0,S0,⟨m1,T1,m2,T2,a1,a2,a3,a4⟩,h2,h3=>by
  subst a3 a4
  exact ⟨m1,T1,_,_,a1,Yp ka pa k lo' m2 T2 a2 h2 h3,by simp,by simp⟩
 | [],_::_,_,_,_,_,h,_,_=>h.elim
 | _::_,[],_,_,_,_,h,_,_=>h.elim
theorem qem {R:TP} {hi:Option Bs}:∀ (c:Nat) (ks:List Bs) (ps:List Nat) (lo:Bs) (l:List Pr) (S:List Nat),Fo R lo hi ks ps l S→c≤ks.length →
  ∃ p lo' hi' l0 l1 l2 S0 S1 S2,ps=ps.take c++p::ps.drop (c+1)∧FL R lo (ks.take c) (ps.take c) lo' l0 S0∧R p lo' hi' l1 S1∧FR R hi' hi (ks.drop c) (ps.drop (c+1)) l2 S2∧l=l0++(l1++l2)∧S=S0++(S1++S2)
 | 0,[],[p],lo,l,S,h,_=>⟨p,lo,hi,[],l,[],[],S,[],rfl,⟨rfl,rfl,rfl⟩,h,⟨rfl,rfl,rfl,rfl⟩,by simp,by simp⟩
 | 0,k::ks,p::ps,lo,l,S,⟨l1,S1,l2,S2,h1,h2,h3,h4⟩,_=>⟨p,lo,some k,[],l1,l2,[],S1,S2,rfl,⟨rfl,rfl,rfl⟩,h1,⟨rfl,h2⟩,h3,h4⟩
 | c+1,k::ks,p::ps,lo,l,S,⟨l1,S1,l2,S2,h1,h2,h3,h4⟩,hc=>by
  obtain ⟨q,lo',hi',m0,m1,m2,T0,T1,T2,e1,e2,e3,e4,e5,e6⟩:=qem c ks ps k l2 S2 h2 (by simpa using hc)
  subst h3 h4 e5 e6
  exact ⟨q,lo',hi',l1++m0,m1,m2,S1++T0,T1,T2,by rw [List.take_succ_cons,List.drop_succ_cons,List.cons_append,← e1],⟨l1,S1,m0,T0,h1,e2,rfl,rfl⟩,e3,e4,by simp,by simp⟩
 | c+1,[],_,_,_,_,_,hc=>by simp at hc
 | 0,[],[],_,_,_,h,_=>h.elim
 | 0,[],_::_::_,_,_,_,h,_=>h.elim
 | _,_::_,[],_,_,_,h,_=>h.elim
theorem qaQ {R R':TP}:∀ (ka:List Bs) (pa:List Nat) (lo lo':Bs) (l:List Pr) (S:List Nat),(∀ p lo hi l T,(∀ q∈T,q∈S)→R p lo hi l T→R' p lo hi l T)→FL R lo ka pa lo' l S→FL R' lo ka pa lo' l S
 | [],[],_,_,_,_,_,h=>h
 | k::ka,p::pa,lo,lo',l,S,hm,⟨l1,S1,l2,S2,h1,h2,h3,h4⟩=>by
  subst h4
  exact ⟨l1,S1,l2,S2,hm _ _ _ _ _ (fun q hq=>List.mem_append.2 (.inl hq)) h1,qaQ ka pa _ _ _ _ (fun p lo hi l T hT hr=>hm p lo hi l T (fun q hq=>List.mem_append.2 (.inr (hT q hq))) hr) h2,h3,rfl⟩
 | [],_::_,_,_,_,_,_,h=>h.elim
 | _::_,[],_,_,_,_,_,h=>h.elim
theorem qfy {R R':TP} {hi' hi:Option Bs} {ks:List Bs} {ps:List Nat} {l:List Pr} {S:List Nat} (hm:∀ p lo hi l T,(∀ q∈T,q∈S)→R p lo hi l T→R' p lo hi l T) (h:FR R hi' hi ks ps l S):FR R' hi' hi ks ps l S:=by
 cases ks with
 | nil=>exact h
 | cons k ks=>exact ⟨h.1,VH ks ps _ _ _ _ hm h.2⟩
theorem qaR {R:TP}:∀ (ka:List Bs) (pa:List Nat) (lo lo':Bs) (l:List Pr) (S:List Nat),FL R lo ka pa lo' l S→qC ka=true→(∀ k∈ka,ltB lo k=true)→(lo'=lo∨lo'∈ka)∧ltB lo' lo=false∧∀ j∈ka,ltB lo' j=false
 | [],[],lo,lo',l,S,⟨e,_,_⟩,_,_=>by subst e; exact ⟨.inl rfl,jY _,by simp⟩
 | k::ka,p::pa,lo,lo',l,S,⟨_,_,_,_,_,h2,_,_⟩,hr,hk=>by
  obtain ⟨a,b,c⟩:=qaR ka pa k lo' _ _ h2 (qF hr).1 (qF hr).2
  refine ⟨.inr ?_,xm (xC (hk k (by simp)) b),fun j hj=>?_⟩
  ·rcases a with rfl|a
   ·simp
   ·exact List.mem_cons_of_mem _ a
  ·rcases List.mem_cons.1 hj with rfl|hj
   ·exact b
   ·exact c j hj
 | [],_::_,_,_,_,_,h,_,_=>h.elim
 | _::_,[],_,_,_,_,h,_,_=>h.elim
theorem qgQ {R:TP} (hR:Rng R):∀ (ka:List Bs) (pa:List Nat) (lo lo':Bs) (l:List Pr) (S:List Nat),FL R lo ka pa lo' l S→qC ka=true→∀ x∈l,ltB x.1 lo'=true
 | [],[],lo,lo',l,S,⟨_,e,_⟩,_=>by subst e; simp
 | k::ka,p::pa,lo,lo',l,S,⟨l1,S1,l2,S2,h1,h2,h3,h4⟩,hr=>fun x hx=>by
  subst h3
  rcases List.mem_append.1 hx with hx|hx
  ·exact xC ((hR _ _ _ _ _ h1 x hx).2 k rfl) (qaR ka pa k lo' _ _ h2 (qF hr).1 (qF hr).2).2.1
  ·exact qgQ hR ka pa k lo' l2 S2 h2 (qF hr).1 x hx
 | [],_::_,_,_,_,_,h,_=>h.elim
 | _::_,[],_,_,_,_,h,_=>h.elim
theorem qjF {R:TP} (hR:Rng R) {hi' hi:Option Bs} {ks:List Bs} {ps:List Nat} {l:List Pr} {S:List Nat} (h:FR R hi' hi ks ps l S) (hr:qC ks=true):∀ x∈l,∃ e,hi'=some e∧ltB x.1 e=false:=by
 cases ks with
 | nil=>rw [h.2.2.1]; simp
 | cons k ks=>exact fun x hx=>⟨k,h.1,qek hR ks ps k hi l S (qF hr).1 (qF hr).2 h.2 x hx⟩
theorem qjE {R:TP} {hi' hi:Option Bs} {ks:List Bs} {ps:List Nat} {l:List Pr} {S:List Nat} (h:FR R hi' hi ks ps l S) (hk:∀ k∈ks,∀ e,hi=some e→ltB k e=true):∀ e,hi=some e→∃ e',hi'=some e'∧ltB e e'=false:=by
 cases ks with
 | nil=>intro e he; exact ⟨e,h.2.1.trans he,jY e⟩
 | cons k ks=>intro e he; exact ⟨k,h.1,xm (hk k (by simp) e he)⟩
theorem qfb {R:TP} {lo lo':Bs} {hi hi':Option Bs} {ka kb:List Bs} {pa pb:List Nat} {l0 l2:List Pr} {S0 S2:List Nat} {k:Bs} (h0:FL R lo ka pa lo' l0 S0) (h2:FR R hi' hi kb pb l2 S2) (hr:qC (ka++kb)=true) (hk:∀ j∈ka++kb,inK lo hi j) (hkk:inK lo' hi' k) (h32:k≠[]∧k.length≤32) :
  qC (ka++k::kb)=true∧inK lo hi k:=by
 have hra:qC ka=true:=by have:=xF _ ka.length hr; rwa [List.take_left' rfl] at this
 have hrb:qC kb=true:=by have:=jw _ ka.length hr; rwa [List.drop_left' rfl] at this
 obtain ⟨a,b,c⟩:=qaR ka pa lo lo' l0 S0 h0 hra (fun j hj=>(hk j (by simp [hj])).1)
 refine ⟨Xz hra hrb h32 (fun j hj=>jR (c j hj) hkk.1) (fun j hj=>?_),jR b hkk.1,fun e he=>?_⟩
 ·cases kb with
  | nil=>simp at hj
  | cons i kb =>
   have:=hkk.2 i h2.1
   rcases List.mem_cons.1 hj with rfl|hj
   ·exact this
   ·exact xB this ((qF hrb).2 j hj)
 ·obtain ⟨e',h3,h4⟩:=qjE h2 (fun k hk' e he=>(hk k (by simp [hk'])).2 e he) e he
  exact xC (hkk.2 e' h3) h4
def wtN (n:Nd):Prop:=if n.leaf then (n.pairs.map qI).sum≤344 else (n.keys.map fun k=>3+k.length).sum≤430
theorem Kk {α:Type} (f:α→Nat) (h:∀ a,1≤f a):∀ l:List α,l.length≤(l.map f).sum
 | []=>by simp
 | a::l=>by have:=Kk f h l; have:=h a; simp only [List.map_cons,List.sum_cons,List.length_cons]; omega
theorem Kh {n:Nd} (h:qT n=true) (hw:wtN n):n.Fit:=by
 unfold wtN at hw
 cases hl:n.leaf with
 | true =>
  rw [hl,if_pos rfl] at hw
  have:=Kk qI (fun p=>by unfold qI; omega) n.pairs
  have:=(jn h hl).1
  exact vM h (by omega) (by rw [this]; simp)
 | false =>
  rw [hl,if_neg (by simp)] at hw
  have:=Kk (fun k:Bs=>3+k.length) (fun p=>by omega) n.keys
  have:=(zH h hl).1
  exact vM h (by rw [this]; simp) (by omega)
theorem Yo {s:Nat→Option Bs} {h:Nat} {n:Nd} {lo:Bs} {hi:Option Bs} {l:List Pr} {S:List Nat} (hn:Nt s h n lo hi l S) (hr:qT n=true) (hw:wtN n) (hs:¬ zt n≤256) :
  (if n.leaf then 2≤n.pairs.length else 3≤n.keys.length∧n.kids.length=n.keys.length+1) ∧
  qT (qM n).1=true∧zt (qM n).1≤256∧qT (qM n).2.1=true∧zt (qM n).2.1≤256∧neN (qM n).1∧neN (qM n).2.1 ∧
  inK lo hi (qM n).2.2∧((qM n).2.2≠[]∧(qM n).2.2.length≤32) ∧
  ∃ la lb Sa Sb,Nt s h (qM n).1 lo (some (qM n).2.2) la Sa∧Nt s h (qM n).2.1 (qM n).2.2 hi lb Sb∧l=la++lb∧S=Sa++Sb:=by
 cases h with
 | zero =>
  obtain ⟨rfl,h1,rfl⟩:=hn
  obtain ⟨_,_,r1,v1⟩:=jn hr rfl
  have r1:qC (l.map (·.1))=true:=r1
  have v1:∀ p∈l,p.1≠[]∧p.1.length≤32∧p.2.length≤40:=v1
  have hw:(l.map qI).sum≤344:=hw
  have hs:¬ 2+(l.map qI).sum≤256:=hs
  have h2:2≤l.length:=by
   have:=kG qI 74 l (fun p hp=>by have:=v1 p hp; unfold qI; omega)
   rcases Nat.lt_or_ge l.length 2 with h|h
   ·have:l.length * 74≤1 * 74:=Nat.mul_le_mul_right _ (by omega)
    omega
   ·exact h
  obtain ⟨a1,a2,a3,a4,a5,a6⟩:=Yy r1 (fun p hp=>(v1 p hp).2.2) h2 hw
  have e:qM (Nd.lf l)=(Nd.lf (l.take (zg l)),Nd.lf (l.drop (zg l)),l[zg l].1):=by
   simp [qM,Nd.lf,List.getElem?_eq_getElem a2]
  rw [e]
  have hd:l=l.take (zg l)++l[zg l]::l.drop (zg l+1):=by rw [← List.drop_eq_getElem_cons a2,List.take_append_drop]
  have hd':=hd
  generalize l[zg l]=x at hd ⊢
  have r2:=r1
  rw [hd,List.map_append,List.map_cons] at r2
  obtain ⟨b1,b2,b3,b4,b5⟩:=vL _ _ _ r2
  have hxl:x∈l:=by rw [hd]; simp
  have hdr:l.drop (zg l)=x::l.drop (zg l+1):=List.append_cancel_left ((List.take_append_drop _ _).trans hd)
  have h0:0<(l.take (zg l)).length:=by rw [List.length_take]; omega
  refine ⟨h2,a3,a4,a5,a6,?_,?_,⟨?_,(h1 x hxl).2⟩,b5,_,_,[],[],⟨rfl,fun y hy=>⟨(h1 y (List.mem_of_mem_take hy)).1,fun e he=>?_⟩,rfl⟩,⟨rfl,fun y hy=>⟨?_,(h1 y (List.mem_of_mem_drop hy)).2⟩,rfl⟩,(List.take_append_drop _ _).symm,rfl⟩
  ·simp only [neN,Nd.lf,if_true]; exact List.length_pos_iff.1 h0
  ·simp only [neN,Nd.lf,if_true,hdr]; simp
  ·have hm:=List.getElem_mem h0
   exact jR (h1 _ (List.mem_of_mem_take hm)).1 (b1 _ (List.mem_map_of_mem hm))
  ·cases he; exact b1 _ (List.mem_map_of_mem hy)
  ·rw [hdr] at hy
   rcases List.mem_cons.1 hy with rfl|hy
   ·exact jY _
   ·exact xm (b2 _ (List.mem_map_of_mem hy))
 | succ h =>
  obtain ⟨ks,ps,rfl,h1,f1⟩:=hn
  obtain ⟨_,i1,r1,v1,p1⟩:=zH hr rfl
  have i1:ps.length=ks.length+1:=i1
  have r1:qC ks=true:=r1
  have v1:∀ k∈ks,k≠[]∧k.length≤32:=v1
  have p1:∀ k∈ps,1≤k∧k≤65535:=p1
  have hw:(ks.map fun k=>3+k.length).sum≤430:=hw
  have hs:¬ 4+(ks.map fun k=>3+k.length).sum≤256:=hs
  have h2:3≤ks.length:=by
   have:=kG (fun k:Bs=>3+k.length) 35 ks (fun p hp=>by have:=v1 p hp; omega)
   rcases Nat.lt_or_ge ks.length 3 with h|h
   ·have:ks.length * 35≤2 * 35:=Nat.mul_le_mul_right _ (by omega)
    omega
   ·exact h
  obtain ⟨a1,a2,a3,a4,a5,a6⟩:=VQ r1 i1 p1 h2 hw
  have hlt:ze ks<ks.length:=by omega
  have e:qM (Nd.nd ks ps)=(Nd.nd (ks.take (ze ks)) (ps.take (ze ks+1)),Nd.nd (ks.drop (ze ks+1)) (ps.drop (ze ks+1)),ks[ze ks]):=by
   simp [qM,Nd.nd,List.getElem?_eq_getElem hlt]
  rw [e]
  have hd:ks=ks.take (ze ks)++ks[ze ks]::ks.drop (ze ks+1):=by rw [← List.drop_eq_getElem_cons hlt,List.take_append_drop]
  have hkd:=List.drop_eq_getElem_cons hlt
  have hxl:=List.getElem_mem hlt
  generalize ks[ze ks]=k at hd hkd hxl ⊢
  have r2:=r1
  rw [hd] at r2
  obtain ⟨b1,b2,b3,b4,b5⟩:=vL _ _ _ r2
  obtain ⟨p,lo',hi',l0,l1,l2,S0,S1,S2,c1,c2,c3,c4,c5,c6⟩:=qem (ze ks) ks ps lo l S f1 (by omega)
  rw [hkd] at c4
  obtain ⟨rfl,c4⟩:=c4
  have hpt:ps.take (ze ks+1)=ps.take (ze ks)++[p]:=by
   have hl:(ps.take (ze ks)).length=ze ks:=by rw [List.length_take]; omega
   have:=congrArg (List.take (ze ks+1)) c1
   rw [this,List.take_append,hl,show ze ks+1 - ze ks=1 by omega,List.take_take,Nat.min_eq_right (by omega)]
   rfl
  have f2:=Yp (kb:=[]) (pb:=[]) (hi:=some k) (l2:=[]) (S2:=[]) _ _ _ _ _ _ c2 c3 ⟨rfl,rfl,rfl,rfl⟩
  rw [List.append_nil,List.append_nil,List.append_nil,← hpt] at f2
  refine ⟨⟨h2,i1⟩,a3,a4,a5,a6,?_,?_,h1 k hxl,b5,_,_,_,_,⟨_,_,rfl,fun j hj=>⟨(h1 j (List.mem_of_mem_take hj)).1,fun e he=>?_⟩,f2⟩,⟨_,_,rfl,fun j hj=>⟨b2 j hj,(h1 j (List.mem_of_mem_drop hj)).2⟩,c4⟩,by rw [c5,List.append_assoc],by rw [c6,List.append_assoc]⟩
  ·have:0<(ks.take (ze ks)).length:=by rw [List.length_take]; omega
   simp only [neN,Nd.nd,Bool.false_eq_true,if_false]; exact List.length_pos_iff.1 this
  ·have:0<(ks.drop (ze ks+1)).length:=by rw [List.length_drop]; omega
   simp only [neN,Nd.nd,Bool.false_eq_true,if_false]; exact List.length_pos_iff.1 this
  ·cases he; exact b1 j hj
end Go.Fx.Tryz
namespace Go.Fx.Tryz
open Go Go.Fx
structure Kin (x x':Wx):Prop where
 w:x'.o.w=x.o.w
 pm:x'.o.pm=x.o.pm
 c:x'.o.c=x.o.c
 p:x'.o.p=x.o.p
 P:x'.o.P=x.o.P
 nt:x'.o.nt=x.o.nt
 hd:x'.o.hd=x.o.hd
 xb:x'.xb=x.xb
 rest:x'.rest=x.rest
 t:x'.t=x.t
theorem Kin.refl (x:Wx):Kin x x:=⟨rfl,rfl,rfl,rfl,rfl,rfl,rfl,rfl,rfl,rfl⟩
theorem Kin.trans {x y z:Wx} (h:Kin x y) (k:Kin y z):Kin x z :=
 ⟨k.w.trans h.w,k.pm.trans h.pm,k.c.trans h.c,k.p.trans h.p,k.P.trans h.P,k.nt.trans h.nt,k.hd.trans h.hd,k.xb.trans h.xb,k.rest.trans h.rest,k.t.trans h.t⟩
abbrev Wx.fp (x:Wx):List Nat:=[x.o.w,x.o.pm,x.xb]
theorem Kin.fp {x y:Wx} (h:Kin x y):y.fp=x.fp:=by unfold Wx.fp; rw [h.w,h.pm,h.xb]
theorem Kin.v {x y:Wx} (h:Kin x y):y.v=x.v:=by unfold Wx.v; rw [h.xb]
theorem XR.JP {x:Wx} {m:Mem} (h:XR x m):∀ b∈x.fp,b<m.next:=fun b hb=>by
 have:=h.wr.lw; have:=h.wr.lm; have:=h.lx
 simp only [Wx.fp,List.mem_cons,List.not_mem_nil,or_false] at hb
 rcases hb with rfl|rfl|rfl<;>assumption
def Fu (o:Wo):Prop:=∀ k,o.has k=(o.s k).isSome
theorem Fu.some {o:Wo} {k:Nat} (h:o.s k≠none):o.has k=true:=by
 cases hs:o.s k with
 | none=>exact absurd hs h
 | some d=>exact (Wo.qfJ hs).1
theorem kT {o:Wo} {k:Nat} (h:o.has k=true):1≤k∧k<o.P:=by
 unfold Wo.has at h
 simp only [Bool.and_eq_true,decide_eq_true_eq] at h
 exact h.1
structure Stp (s s':Nat→Option Bs) (S S':List Nat):Prop where
 out:∀ q,q∉S→q∉S'→s' q=s q
 new:∀ q∈S',q∈S∨s q=none
 gone:∀ q∈S,q∉S'→s' q=none
theorem Stp.refl (s:Nat→Option Bs) (S:List Nat):Stp s s S S:=⟨fun _ _ _=>rfl,fun q h=>.inl h,fun q h h'=>absurd h h'⟩
theorem Stp.trans {s s' s'':Nat→Option Bs} {S S' S'':List Nat} (h:Stp s s' S S') (k:Stp s' s'' S' S''):Stp s s'' S S'':=by
 refine ⟨fun q h1 h2=>?_,fun q hq=>?_,fun q h1 h2=>?_⟩
 ·by_cases h3:q∈S'
  ·rw [k.gone q h3 h2]; exact ((h.new q h3).resolve_left h1).symm
  ·rw [k.out q h3 h2,h.out q h1 h3]
 ·rcases k.new q hq with h1|h1
  ·exact h.new q h1
  ·by_cases h2:q∈S
   ·exact .inl h2
   ·by_cases h3:q∈S'
    ·exact h.new q h3
    ·exact .inr ((h.out q h2 h3).symm.trans h1)
 ·by_cases h3:q∈S'
  ·exact k.gone q h3 h2
  ·rw [k.out q h3 h2]; exact h.gone q h1 h3
theorem Stp.ctx {s s':Nat→Option Bs} {S S' T U U':List Nat} (h:Stp s s' S S') (hU:∀ q,q∈U↔q∈S∨q∈T) (hU':∀ q,q∈U'↔q∈S'∨q∈T):Stp s s' U U':=by
 refine ⟨fun q h1 h2=>h.out q (fun h=>h1 ((hU q).2 (.inl h))) (fun h=>h2 ((hU' q).2 (.inl h))),fun q hq=>?_,fun q h1 h2=>?_⟩
 ·rcases (hU' q).1 hq with h1|h1
  ·exact (h.new q h1).imp (fun h=>(hU q).2 (.inl h)) id
  ·exact .inl ((hU q).2 (.inr h1))
 ·rcases (hU q).1 h1 with h3|h3
  ·exact h.gone q h3 (fun h=>h2 ((hU' q).2 (.inl h)))
  ·exact absurd ((hU' q).2 (.inr h3)) h2
theorem Stp.jB {s s':Nat→Option Bs} {S S':List Nat} (h:Stp s s' S S') {q:Nat} (h1:q∉S) (h2:s q≠none):s' q=s q∧q∉S':=by
 have:q∉S':=fun hq=>(h.new q hq).elim h1 h2
 exact ⟨h.out q h1 this,this⟩
def Pts (s:Nat→Option Bs) (R:TP) (h page:Nat) (lo:Bs) (hi:Option Bs) (ps:List Pt) (l:List Pr) (S:List Nat):Prop :=
 (ps=[([],page)]∧R page lo hi l S) ∨
 ∃ k q la lb Sa Sb,ps=[([],page),(k,q)]∧inK lo hi k∧(k≠[]∧k.length≤32)∧Tr s h page lo (some k) la Sa∧Tr s h q k hi lb Sb∧l=la++lb∧S=Sa++Sb∧4≤l.length
theorem Kin.o (x:Wx) {o':Wo} (h:o'.w=x.o.w∧o'.pm=x.o.pm∧o'.c=x.o.c∧o'.p=x.o.p∧o'.P=x.o.P∧o'.nt=x.o.nt∧o'.hd=x.o.hd):Kin x { x with o:=o' } :=
 ⟨h.1,h.2.1,h.2.2.1,h.2.2.2.1,h.2.2.2.2.1,h.2.2.2.2.2.1,h.2.2.2.2.2.2,rfl,rfl,rfl⟩
theorem Fu.write {o:Wo} (h:Fu o) {p:Nat} (hp:o.has p=true) (d:Bs) (c:Nat):Fu { o with L:=upL o.L p d c }:=by
 intro k
 rw [Wo.wO hp]
 unfold ji
 have e:Wo.has { o with L:=upL o.L p d c } k=o.has k:=rfl
 rw [e]
 by_cases hk:k=p
 ·subst hk; simp [hp]
 ·rw [if_neg hk]; exact h k
theorem Fu.take {o:Wo} (h:Fu o) (hu:o.u.length=20) (hP:o.P≤160) {n:Nat} (h1:1≤n) (hn:n<o.P) (hb:xX o.u n=false) (d:Bs) (c:Nat):Fu { o with u:=xx o.u n,L:=upL o.L n d c }:=by
 intro k
 rw [Wo.KG hu hP h1 hn hb,Wo.WN hu hP hn]
 unfold ji
 by_cases hk:k=n
 ·subst hk; simp [h1,hn,hb]
 ·rw [if_neg hk,decide_eq_false hk,Bool.xor_false]; exact h k
theorem YI {o:Wo} {n:Nat} (hb:xX o.u n=false):o.s n=none:=by
 unfold Wo.s Wo.has; simp [hb]
end Go.Fx.Tryz
namespace Go.Fx.Tryz
open Go Go.Fx
theorem wY {α:Type} [DecidableEq α]:∀ (S T:List α),S.Nodup→(∀ q∈S,q∈T)→S.length≤T.length
 | [],_,_,_=>Nat.zero_le _
 | a::S,T,h,hs=>by
  rw [List.nodup_cons] at h
  have ha:=hs a (by simp)
  have:=wY S (T.erase a) h.2 (fun q hq=>(List.mem_erase_of_ne (by rintro rfl; exact h.1 hq)).2 (hs q (by simp [hq])))
  rw [List.length_erase_of_mem ha] at this
  have:=List.length_pos_of_mem ha
  simp only [List.length_cons]; omega
theorem Hw {R:TP} {c:Nat} (hR:∀ p lo hi l S,R p lo hi l S→c≤l.length∧c≤S.length∧S.length+1≤2 * l.length):∀ (ks:List Bs) (ps:List Nat) (lo:Bs) (hi:Option Bs) (l:List Pr) (S:List Nat),Fo R lo hi ks ps l S→(ks.length+1) * c≤l.length∧(ks.length+1) * c≤S.length∧S.length+(ks.length+1)≤2 * l.length
 | [],[p],lo,hi,l,S,h=>by have:=hR _ _ _ _ _ h; simpa using this
 | k::ks,p::ps,lo,hi,l,S,⟨l1,S1,l2,S2,h1,h2,h3,h4⟩=>by
  subst h3 h4
  have a:=hR _ _ _ _ _ h1
  have b:=Hw hR ks ps _ _ _ _ h2
  simp only [List.length_cons,List.length_append]
  rw [Nat.add_mul (ks.length+1) 1 c]
  omega
 | [],[],_,_,_,_,hf=>hf.elim
 | [],_::_::_,_,_,_,_,hf=>hf.elim
 | _::_,[],_,_,_,_,hf=>hf.elim
theorem Vn (s:Nat→Option Bs):∀ (h p:Nat) (lo:Bs) (hi:Option Bs) (l:List Pr) (S:List Nat),Tr s h p lo hi l S→2 ^ h≤l.length∧2 ^ h≤S.length∧S.length+1≤2 * l.length
 | 0,p,lo,hi,l,S,⟨n,S',hp,hn,⟨e1,_,e2⟩,e3⟩=>by
  subst e1 e2 e3
  have:l≠[]:=by simpa [neN,Nd.lf] using hn
  have:=List.length_pos_iff.2 this
  simp; omega
 | h+1,p,lo,hi,l,S,⟨n,S',hp,hn,⟨ks,ps,e1,hk,hf⟩,e3⟩=>by
  subst e1 e3
  have:ks≠[]:=by simpa [neN,Nd.nd] using hn
  have:=List.length_pos_iff.2 this
  obtain ⟨a,b,c⟩:=Hw (c:=2 ^ h) (Vn s h) ks ps lo hi l S' hf
  have h2:2 * 2 ^ h≤(ks.length+1) * 2 ^ h:=Nat.mul_le_mul_right _ (by omega)
  rw [Nat.pow_succ]
  simp only [List.length_cons]
  omega
theorem qei {R:TP} (hR:Rng R) (hw:∀ p lo hi l S,R p lo hi l S→rowP l):∀ (ks:List Bs) (ps:List Nat) (lo:Bs) (hi:Option Bs) (l:List Pr) (S:List Nat),qC ks=true→Fo R lo hi ks ps l S→rowP l
 | [],[p],lo,hi,l,S,_,h=>hw _ _ _ _ _ h
 | k::ks,p::ps,lo,hi,l,S,hr,⟨l1,S1,l2,S2,h1,h2,h3,h4⟩=>by
  subst h3 h4
  have a:=hw _ _ _ _ _ h1
  have b:=qei hR hw ks ps _ _ _ _ (qF hr).1 h2
  refine ⟨?_,fun x hx=>?_⟩
  ·rw [List.map_append]
   refine wu _ _ a.1 b.1 (fun i hi j hj=>?_)
   obtain ⟨x,hx,rfl⟩:=List.mem_map.1 hi
   obtain ⟨y,hy,rfl⟩:=List.mem_map.1 hj
   exact xC ((hR _ _ _ _ _ h1 x hx).2 k rfl) (qek hR ks ps k _ l2 S2 (qF hr).1 (qF hr).2 h2 y hy)
  ·rcases List.mem_append.1 hx with hx|hx
   ·exact a.2 x hx
   ·exact b.2 x hx
 | [],[],_,_,_,_,_,hf=>hf.elim
 | [],_::_::_,_,_,_,_,_,hf=>hf.elim
 | _::_,[],_,_,_,_,_,hf=>hf.elim
theorem qeb (s:Nat→Option Bs):∀ (h p:Nat) (lo:Bs) (hi:Option Bs) (l:List Pr) (S:List Nat),Tr s h p lo hi l S→rowP l
 | 0,p,lo,hi,l,S,⟨n,S',hp,hn,⟨e1,_,e2⟩,e3⟩=>by
  subst e1
  obtain ⟨_,_,a,b⟩:=jn hp.rt rfl
  exact ⟨a,fun x hx=>(b x hx).2.2⟩
 | h+1,p,lo,hi,l,S,⟨n,S',hp,hn,⟨ks,ps,e1,hk,hf⟩,e3⟩=>by
  subst e1
  exact qei (Ja s h) (qeb s h) ks ps lo hi l S' (zH hp.rt rfl).2.2.1 hf
theorem qhF {s:Nat→Option Bs} {h:Nat} {n:Nd} {lo:Bs} {hi:Option Bs} {l:List Pr} {S:List Nat} (hn:Nt s h n lo hi l S) (hr:qT n=true) (hs:¬ zt n≤256):4≤l.length:=by
 cases h with
 | zero =>
  obtain ⟨rfl,_,_⟩:=hn
  obtain ⟨_,_,_,v1⟩:=jn hr rfl
  have v1:∀ p∈l,p.1≠[]∧p.1.length≤32∧p.2.length≤40:=v1
  have hs:¬ 2+(l.map qI).sum≤256:=hs
  have:=kG qI 74 l (fun p hp=>by have:=v1 p hp; unfold qI; omega)
  omega
 | succ h =>
  obtain ⟨ks,ps,rfl,_,hf⟩:=hn
  obtain ⟨_,_,_,v1,_⟩:=zH hr rfl
  have v1:∀ k∈ks,k≠[]∧k.length≤32:=v1
  have hs:¬ 4+(ks.map fun k=>3+k.length).sum≤256:=hs
  have:=kG (fun k:Bs=>3+k.length) 35 ks (fun p hp=>by have:=v1 p hp; omega)
  have h1:=(Hw (c:=2 ^ h) (Vn s h) ks ps lo hi l S hf).1
  have h2:=Nat.two_pow_pos h
  have h3:(ks.length+1) * 1≤(ks.length+1) * 2 ^ h:=Nat.mul_le_mul_left _ h2
  omega
theorem Vm {o:Wo} (hP:o.P≤160) {h p:Nat} {lo:Bs} {hi:Option Bs} {l:List Pr} {S:List Nat} (ht:Tr o.s h p lo hi l S) (hnd:S.Nodup):h≤7∧S.length≤159:=by
 have h1:S.length≤159:=by
  have:=wY S ((List.range 160).erase 0) hnd (fun q hq=>by
   have:=kT (Fu.some (vX o.s h p lo hi l S ht q hq))
   rw [List.mem_erase_of_ne (by omega)]
   exact List.mem_range.2 (by omega))
  rwa [List.length_erase_of_mem (by simp),List.length_range] at this
 refine ⟨?_,h1⟩
 have h2:=(Vn o.s h p lo hi l S ht).2.1
 rcases Nat.lt_or_ge h 8 with h3|h3
 ·omega
 ·have:2 ^ 8≤2 ^ h:=Nat.pow_le_pow_right (by omega) h3
  omega
end Go.Fx.Tryz
namespace Go.Fx.Tryz
open Go Go.Fx
section
variable {x:Wx} {m:Mem}
theorem Ww {lo0:Nat} (h:XR x m) (he:x.err=0) (hf:Fu x.o) {page:Nat} (hp:x.o.s page≠none) {n:Nd} {v:Value} (ht:TN lo0 m v n) (hr:qT n=true) (hw:wtN n) {g:Nat} {lo:Bs} {hi:Option Bs} {l:List Pr} {U:List Nat} (hn:Nt x.o.s g n lo hi l U) (hpS:page∉U) (hnd:U.Nodup) :
  W (Call S tab 125 [x.v,.int .i64 (page:Int),v] m) fun r m' =>
   (¬ zt n≤256∧∃ x',XR x' m'∧Kin x x'∧x'.err=8∧Upd x.fp m m') ∨
   ∃ x' ps S',XR x' m'∧Kin x x'∧x'.err=0∧x'.rd=x.rd∧Fu x'.o∧RSl m.next xg m' r ps ∧
    Pts x'.o.s (fun p lo hi l S=>∃ S0,Pn x'.o.s p n∧Nt x'.o.s g n lo hi l S0∧S=p::S0) g page lo hi ps l S'∧Stp x.o.s x'.o.s (page::U) S'∧S'.Nodup∧Upd x.fp m m':=by
 have hh:=Fu.some hp
 have hlt:=kT hh
 have hP:=h.wr.hP
 have hu20:=h.wr.hu
 have sub1:∀ b,b∈[x.o.pm,x.xb]→b∈x.fp:=fun b hb=>List.mem_cons.2 (.inr hb)
 have sub2:∀ b,b∈[x.xb]→b∈x.fp:=fun b hb=>List.mem_cons.2 (.inr (List.mem_cons.2 (.inr hb)))
 refine (qjK h he (by omega) ht (Kh hr hw) hh hr (fun hs=>by
  obtain ⟨a1,a2,a3,a4,a5,_⟩:=Yo hn hr hw hs
  exact ⟨a1,a2,a3,a4,a5⟩)).mono fun r m' hc=>?_
 rcases hc with ⟨hs,hv,⟨c,hx⟩,hu⟩|⟨hs,hx,hu⟩|⟨hs,q,c1,c2,c3,y1,y2,y3,hv,hx,hu⟩
 ·have es:=Wo.wO hh (xv n) c
  have hout:∀ k∈U,ji x.o.s page (some (xv n)) k=x.o.s k:=fun k hk=>by unfold ji; rw [if_neg (by rintro rfl; exact hpS hk)]
  refine .inr ⟨_,_,page::U,hx,Kin.o x ⟨rfl,rfl,rfl,rfl,rfl,rfl,rfl⟩,he,rfl,hf.write hh _ c,hv,.inl ⟨rfl,U,⟨?_,hr,hs⟩,?_,rfl⟩,?_,List.nodup_cons.2 ⟨hpS,hnd⟩,hu.mono fun b hb _=>sub1 b hb⟩
  ·rw [es]; unfold ji; rw [if_pos rfl]
  ·rw [es]; exact Jh g hout hn
  ·rw [es]
   exact ⟨fun k hk _=>by unfold ji; rw [if_neg (by rintro rfl; simp at hk)],fun k hk=>.inl hk,fun k hk hk'=>absurd hk hk'⟩
 ·exact .inl ⟨hs,_,hx,⟨rfl,rfl,rfl,rfl,rfl,rfl,rfl,rfl,rfl,rfl⟩,rfl,hu.mono fun b hb _=>sub2 b hb⟩
 ·obtain ⟨_,a2,a3,a4,a5,a6,a7,a8,a9,la,lb,Sa,Sb,b1,b2,b3,b4⟩:=Yo hn hr hw hs
  have hq0:x.o.s q=none:=YI y3
  have hpq:page≠q:=by rintro rfl; exact hp hq0
  have hqS:q∉U:=fun hm=>qfw hn q hm hq0
  have e1:=Wo.KG hu20 hP y1 y2 y3 (qp 256) c1
  have f1:=hf.take hu20 hP y1 y2 y3 (qp 256) c1
  have hh1:Wo.has { x.o with u:=xx x.o.u q,L:=upL x.o.L q (qp 256) c1 } page=true:=by
   apply Fu.some; rw [e1]; unfold ji; rw [if_neg hpq]; exact hp
  have e2:=Wo.wO hh1 (xv (qM n).1) c2
  have f2:=f1.write hh1 (xv (qM n).1) c2
  have hh2:Wo.has { x.o with u:=xx x.o.u q,L:=upL (upL x.o.L q (qp 256) c1) page (xv (qM n).1) c2 } q=true:=by
   apply Fu.some; rw [e2]; unfold ji; rw [if_neg (fun e=>hpq e.symm),e1]; simp [ji]
  have e3:=Wo.wO hh2 (xv (qM n).2.1) c3
  have f3:=f2.write hh2 (xv (qM n).2.1) c3
  rw [e2,e1] at e3
  have hout:∀ k,k≠page→k≠q→ji (ji (ji x.o.s q (some (qp 256))) page (some (xv (qM n).1))) q (some (xv (qM n).2.1)) k=x.o.s k:=fun k h1 h2=>by
   unfold ji; rw [if_neg h2,if_neg h1,if_neg h2]
  have hSk:∀ k∈U,ji (ji (ji x.o.s q (some (qp 256))) page (some (xv (qM n).1))) q (some (xv (qM n).2.1)) k=x.o.s k:=fun k hk=>hout k (by rintro rfl; exact hpS hk) (by rintro rfl; exact hqS hk)
  have hmem:∀ k,k∈page::(Sa++q::Sb)↔k=page∨k=q∨k∈U:=fun k=>by
   rw [b4]; simp only [List.mem_cons,List.mem_append]
   constructor
   ·rintro (h|h|h|h)<;>simp [h]
   ·rintro (h|h|h|h)<;>simp [h]
  refine .inr ⟨_,_,(page::Sa)++(q::Sb),hx,Kin.o x ⟨rfl,rfl,rfl,rfl,rfl,rfl,rfl⟩,he,rfl,f3,hv,.inr ⟨_,q,la,lb,page::Sa,q::Sb,rfl,a8,a9,js.2 ⟨_,Sa,⟨?_,a2,a3⟩,a6,?_,rfl⟩,js.2 ⟨_,Sb,⟨?_,a4,a5⟩,a7,?_,rfl⟩,b3,rfl,qhF hn hr hs⟩,?_,?_,hu⟩
  ·rw [e3]; unfold ji; rw [if_neg hpq,if_pos rfl]
  ·rw [e3]; exact Jh g (fun k hk=>hSk k (by rw [b4]; exact List.mem_append.2 (.inl hk))) b1
  ·rw [e3]; unfold ji; rw [if_pos rfl]
  ·rw [e3]; exact Jh g (fun k hk=>hSk k (by rw [b4]; exact List.mem_append.2 (.inr hk))) b2
  ·rw [e3]
   refine ⟨fun k h1 h2=>?_,fun k hk=>?_,fun k hk hk'=>?_⟩
   ·have:=mt (hmem k).2 h2
    exact hout k (fun e=>this (.inl e)) (fun e=>this (.inr (.inl e)))
   ·rcases (hmem k).1 hk with h|h|h
    ·exact .inl (by simp [h])
    ·exact .inr (by rw [h]; exact hq0)
    ·exact .inl (by simp [h])
   ·exfalso
    apply hk'
    refine (hmem k).2 ?_
    rcases List.mem_cons.1 hk with h|h
    ·exact .inl h
    ·exact .inr (.inr h)
  ·rw [b4] at hnd hpS hqS
   rw [List.nodup_append] at hnd
   obtain ⟨n1,n2,n3⟩:=hnd
   simp only [List.mem_append,not_or] at hpS hqS
   rw [List.cons_append,List.nodup_cons,List.nodup_append,List.nodup_cons]
   refine ⟨?_,n1,⟨hqS.2,n2⟩,fun a ha b hb=>?_⟩
   ·simp only [List.mem_append,List.mem_cons,not_or]
    exact ⟨hpS.1,hpq,hpS.2⟩
   ·rcases List.mem_cons.1 hb with rfl|hb
    ·rintro rfl; exact hqS.1 ha
    ·exact n3 a ha b hb
end
end Go.Fx.Tryz
namespace Go.Fx.Tryz
open Go Go.Fx
theorem vU (key:Bs):∀ ks:List Bs,qC ks=true→(∀ k∈ks.take (zS ks key),ltB key k=false)∧(∀ k∈ks.drop (zS ks key),ltB key k=true)∧zS ks key≤ks.length
 | [],_=>⟨by simp,by simp,by simp [zS]⟩
 | k::ks,h=>by
  obtain ⟨a,b,c⟩:=vU key ks (qF h).1
  rw [Hl h]
  cases hk:ltB key k with
  | true =>
   refine ⟨by simp,fun j hj=>?_,by simp⟩
   rcases List.mem_cons.1 hj with rfl|hj
   ·exact hk
   ·exact xB hk ((qF h).2 j hj)
  | false =>
   simp only [Bool.false_eq_true,if_false,List.take_succ_cons,List.drop_succ_cons,List.length_cons]
   refine ⟨fun j hj=>?_,b,by omega⟩
   rcases List.mem_cons.1 hj with rfl|hj
   ·exact hk
   ·exact a j hj
theorem qel {R:TP} (hR:Rng R) {key lo:Bs} {hi:Option Bs} {ks:List Bs} {ps:List Nat} {l:List Pr} {S:List Nat} (hf:Fo R lo hi ks ps l S) (hr:qC ks=true) (hk:∀ k∈ks,inK lo hi k) (hkey:inR lo hi key) :
  ∃ p lo' hi' l0 l1 l2 S0 S1 S2,ps=ps.take (zS ks key)++p::ps.drop (zS ks key+1)∧FL R lo (ks.take (zS ks key)) (ps.take (zS ks key)) lo' l0 S0∧R p lo' hi' l1 S1 ∧
   FR R hi' hi (ks.drop (zS ks key)) (ps.drop (zS ks key+1)) l2 S2∧l=l0++(l1++l2)∧S=S0++(S1++S2)∧inR lo' hi' key∧(∀ x∈l0,ltB x.1 key=true)∧(∀ x∈l2,ltB key x.1=true):=by
 obtain ⟨c1,c2,c3⟩:=vU key ks hr
 obtain ⟨p,lo',hi',l0,l1,l2,S0,S1,S2,e1,e2,e3,e4,e5,e6⟩:=qem _ ks ps lo l S hf c3
 have hlo:=qaR _ _ _ _ _ _ e2 (xF _ _ hr) (fun k hk'=>(hk k (List.mem_of_mem_take hk')).1)
 have h1:ltB key lo'=false:=by
  rcases hlo.1 with h|h
  ·rw [h]; exact hkey.1
  ·exact c1 lo' h
 refine ⟨p,lo',hi',l0,l1,l2,S0,S1,S2,e1,e2,e3,e4,e5,e6,⟨h1,fun e he=>?_⟩,fun x hx=>xC (qgQ hR _ _ _ _ _ _ e2 (xF _ _ hr) x hx) h1,fun x hx=>?_⟩
 ·generalize ks.drop (zS ks key)=kb at e4 c2
  cases kb with
  | nil=>exact hkey.2 e (e4.2.1.symm.trans he)
  | cons k kb=>have:=e4.1.symm.trans he; cases this; exact c2 e (by simp)
 ·obtain ⟨e,he,hx'⟩:=qjF hR e4 (jw _ _ hr) x hx
  refine xC ?_ hx'
  generalize ks.drop (zS ks key)=kb at e4 c2
  cases kb with
  | nil=>rw [e4.2.2.1] at hx; simp at hx
  | cons k kb=>have:=e4.1.symm.trans he; cases this; exact c2 e (by simp)
theorem qhW {ks:List Bs} {ps:List Nat} {c p:Nat} (h:ps=ps.take c++p::ps.drop (c+1)) (hc:c≤ks.length) (hl:ps.length=ks.length+1):wg (Nd.nd ks ps) c [([],p)]=Nd.nd ks ps:=by
 rw [withN_eq (Nd.nd ks ps) c _ (by show c<ps.length; omega) hl]
 show Nd.nd (ks.take c++([]++ks.drop c)) (ps.take c++([p]++ps.drop (c+1)))=_
 rw [List.nil_append,List.take_append_drop,List.singleton_append,← h]
theorem qhV {ks:List Bs} {ps:List Nat} {c p q:Nat} {k:Bs} (hc:c≤ks.length) (hl:ps.length=ks.length+1):wg (Nd.nd ks ps) c [([],p),(k,q)]=Nd.nd (ks.take c++k::ks.drop c) (ps.take c++p::q::ps.drop (c+1)):=by
 rw [withN_eq (Nd.nd ks ps) c _ (by show c<ps.length; omega) hl]
 rfl
theorem qeE (f:Bs→Nat) (a:List Bs) (k:Bs) (b:List Bs):((a++k::b).map f).sum=((a++b).map f).sum+f k:=by
 simp only [List.map_append,List.map_cons,List.sum_append,List.sum_cons]; omega
theorem qaU {s':Nat→Option Bs} {h:Nat} {lo lo' k:Bs} {hi hi':Option Bs} {ka kb:List Bs} {pa pb:List Nat} {p q p0:Nat} {l0 la lb l2:List Pr} {S0 Sa Sb S2:List Nat} (hr:qT (Nd.nd (ka++kb) (pa++p0::pb))=true) (hw:((ka++kb).map fun k=>3+k.length).sum≤252)
  (hk:∀ j∈ka++kb,inK lo hi j) (hs:∀ q,s' q≠none→1≤q∧q≤65535) (h0:FL (Tr s' h) lo ka pa lo' l0 S0) (h2:FR (Tr s' h) hi' hi kb pb l2 S2) (hkk:inK lo' hi' k) (h32:k≠[]∧k.length≤32) (ha:Tr s' h p lo' (some k) la Sa) (hb:Tr s' h q k hi' lb Sb) :
  Nt s' (h+1) (Nd.nd (ka++k::kb) (pa++p::q::pb)) lo hi (l0++((la++lb)++l2)) (S0++((Sa++Sb)++S2))∧qT (Nd.nd (ka++k::kb) (pa++p::q::pb))=true∧wtN (Nd.nd (ka++k::kb) (pa++p::q::pb))∧neN (Nd.nd (ka++k::kb) (pa++p::q::pb)):=by
 obtain ⟨_,i1,r1,v1,p1⟩:=zH hr rfl
 have i1:(pa++p0::pb).length=(ka++kb).length+1:=i1
 have r1:qC (ka++kb)=true:=r1
 have p1:∀ k∈pa++p0::pb,1≤k∧k≤65535:=p1
 obtain ⟨m1,m2⟩:=qfb h0 h2 r1 hk hkk h32
 have f:=Yp (R:=Tr s' h) (hi:=hi) (kb:=kb) (pb:=pb) [] [] k k [] [] ⟨rfl,rfl,rfl⟩ hb h2
 have f2:FR (Tr s' h) (some k) hi (k::kb) (q::pb) (lb++l2) (Sb++S2):=⟨rfl,f⟩
 have f3:=Yp (R:=Tr s' h) ka pa lo lo' l0 S0 h0 ha f2
 rw [← List.append_assoc la,← List.append_assoc Sa] at f3
 have mp:∀ p lo hi l S,Tr s' h p lo hi l S→1≤p∧p≤65535:=fun p lo hi l S ht=>by
  obtain ⟨n,S',hp,_⟩:=js.1 ht
  exact hs p (by rw [hp.pg]; simp)
 refine ⟨⟨_,_,rfl,fun j hj=>?_,f3⟩,wS ?_ m1 (fun j hj=>?_),?_,by simp [neN,Nd.nd]⟩
 ·rcases List.mem_append.1 hj with hj|hj
  ·exact hk j (by simp [hj])
  ·rcases List.mem_cons.1 hj with rfl|hj
   ·exact m2
   ·exact hk j (by simp [hj])
 ·simp only [List.length_append,List.length_cons] at i1 ⊢; omega
 ·rcases List.mem_append.1 hj with hj|hj
  ·exact p1 j (by simp [hj])
  ·rcases List.mem_cons.1 hj with rfl|hj
   ·exact mp _ _ _ _ _ ha
   ·rcases List.mem_cons.1 hj with rfl|hj
    ·exact mp _ _ _ _ _ hb
    ·exact p1 j (by simp [hj])
 ·show ((ka++k::kb).map fun k=>3+k.length).sum≤430
  rw [qeE]; omega
end Go.Fx.Tryz
