/- Parts of a proof: TreeU, TreeV, TreeW, TreeXb, TreeXa, TreeX, TreeY. Conditions: none. -/
import Derived.Test.YtnngjdfadfblmaaGreatDoorQd20
namespace Go.Fx.Tryz
open Go Go.Fx
set_option linter.unusedSimpArgs false
set_option linter.unusedVariables false
theorem ltB_iff {a b:Bs}:ltB a b=true↔a<b:=by simp [ltB]
theorem ltB_not {a b:Bs}:ltB a b=false↔¬ a<b:=by simp [ltB]
theorem ltB_irr (a:Bs):ltB a a=false:=ltB_not.2 (List.lt_irrefl a)
theorem ltB_trans {a b c:Bs} (h1:ltB a b=true) (h2:ltB b c=true):ltB a c=true:=ltB_iff.2 (List.lt_trans (ltB_iff.1 h1) (ltB_iff.1 h2))
theorem ltB_asymm {a b:Bs} (h:ltB a b=true):ltB b a=false:=by
 cases hb:ltB b a with
 | false=>rfl
 | true=>have:=ltB_trans h hb; rw [ltB_irr] at this; cases this
theorem ltB_tri {a b:Bs} (h1:ltB a b=false) (h2:ltB b a=false):a=b:=by
 have:=leB_eq a b
 rw [h1,h2] at this
 simpa using this
theorem ltB_lt_le {a b c:Bs} (h1:ltB a b=true) (h2:ltB c b=false):ltB a c=true:=by
 cases h:ltB b c with
 | true=>exact ltB_trans h1 h
 | false=>rw [← ltB_tri h h2]; exact h1
theorem ltB_le_lt {a b c:Bs} (h1:ltB b a=false) (h2:ltB b c=true):ltB a c=true:=by
 cases h:ltB a b with
 | true=>exact ltB_trans h h2
 | false=>rw [ltB_tri h h1]; exact h2
theorem ltB_ne {a b:Bs} (h:ltB a b=true):a≠b:=by rintro rfl; rw [ltB_irr] at h; cases h
theorem rising_tail {k:Bs} {ks:List Bs} (h:risingK (k::ks)=true):risingK ks=true∧∀ j∈ks,ltB k j=true:=by
 induction ks generalizing k with
 | nil=>exact ⟨rfl,by simp⟩
 | cons j ks ih =>
  simp only [risingK,Bool.and_eq_true,decide_eq_true_eq] at h
  have hr:risingK (j::ks)=true:=by simp only [risingK,Bool.and_eq_true,decide_eq_true_eq]; exact h.2
  refine ⟨hr,fun x hx=>?_⟩
  rcases List.mem_cons.1 hx with rfl|hx
  ·exact h.1.2
  ·exact ltB_trans h.1.2 ((ih hr).2 x hx)
theorem child_cons {k key:Bs} {ks:List Bs} (h:risingK (k::ks)=true):childN (k::ks) key=if ltB key k then 0 else childN ks key+1:=by
 unfold childN
 cases hk:ltB key k with
 | false=>simp [hk]
 | true =>
  have:(ks.filter fun j=>!ltB key j)=[]:=List.filter_eq_nil_iff.2 (fun j hj=>by simp [ltB_trans hk ((rising_tail h).2 j hj)])
  simp [hk,this]
theorem rising_cons {k:Bs} {ks:List Bs} (h0:k≠[]∧k.length≤32) (h:risingK ks=true) (h1:∀ j∈ks,ltB k j=true):risingK (k::ks)=true:=by
 cases ks with
 | nil=>simp [risingK,h0.1,h0.2]
 | cons j r =>
  simp only [risingK,Bool.and_eq_true,decide_eq_true_eq] at h ⊢
  exact ⟨⟨h0,h1 j (by simp)⟩,h⟩
def Rng (R:TP):Prop:=∀ p lo hi l S,R p lo hi l S→∀ x∈l,inR lo hi x.1
theorem Fo_lo {R:TP} (hR:Rng R):∀ (ks:List Bs) (ps:List Nat) (lo:Bs) (hi:Option Bs) (l:List Pr) (S:List Nat),risingK ks=true→(∀ k∈ks,ltB lo k=true)→Fo R lo hi ks ps l S→∀ x∈l,ltB x.1 lo=false
 | [],[p],lo,hi,l,S,_,_,hf=>fun x hx=>(hR _ _ _ _ _ hf x hx).1
 | k::ks,p::ps,lo,hi,l,S,hr,hk,⟨l1,S1,l2,S2,h1,h2,h3,h4⟩=>fun x hx=>by
  subst h3
  rcases List.mem_append.1 hx with h|h
  ·exact (hR _ _ _ _ _ h1 x h).1
  ·have:=Fo_lo hR ks ps k hi l2 S2 (rising_tail hr).1 (rising_tail hr).2 h2 x h
   exact ltB_asymm (ltB_lt_le (hk k (by simp)) this)
 | [],[],_,_,_,_,_,_,hf=>hf.elim
 | [],_::_::_,_,_,_,_,_,_,hf=>hf.elim
 | _::_,[],_,_,_,_,_,_,hf=>hf.elim
theorem inR_mono {lo lo':Bs} {hi hi':Option Bs} {k:Bs} (h:inR lo' hi' k) (hl:ltB lo' lo=false) (hh:∀ e,hi=some e→∃ e',hi'=some e'∧ltB e e'=false):inR lo hi k:=by
 refine ⟨?_,fun e he=>?_⟩
 ·cases hc:ltB k lo with
  | false=>rfl
  | true=>have:=ltB_lt_le hc hl; rw [h.1] at this; cases this
 ·obtain ⟨e',h1,h2⟩:=hh e he
  exact ltB_lt_le (h.2 e' h1) h2
theorem Fo_rng {R:TP} (hR:Rng R):∀ (ks:List Bs) (ps:List Nat) (lo:Bs) (hi:Option Bs) (l:List Pr) (S:List Nat),risingK ks=true→(∀ k∈ks,inR lo hi k)→Fo R lo hi ks ps l S→∀ x∈l,inR lo hi x.1
 | [],[p],lo,hi,l,S,_,_,hf=>fun x hx=>hR _ _ _ _ _ hf x hx
 | k::ks,p::ps,lo,hi,l,S,hr,hk,⟨l1,S1,l2,S2,h1,h2,h3,h4⟩=>fun x hx=>by
  subst h3
  have hkk:=hk k (by simp)
  rcases List.mem_append.1 hx with h|h
  ·exact inR_mono (hR _ _ _ _ _ h1 x h) (ltB_irr lo) (fun e he=>⟨k,rfl,by
    have:=hkk.2 e he
    exact ltB_asymm this⟩)
  ·refine inR_mono (Fo_rng hR ks ps k hi l2 S2 (rising_tail hr).1 (fun j hj=>⟨ltB_asymm ((rising_tail hr).2 j hj),(hk j (by simp [hj])).2⟩) h2 x h) hkk.1 (fun e he=>⟨e,he,ltB_irr e⟩)
 | [],[],_,_,_,_,_,_,hf=>hf.elim
 | [],_::_::_,_,_,_,_,_,_,hf=>hf.elim
 | _::_,[],_,_,_,_,_,_,hf=>hf.elim
theorem inK.r {lo:Bs} {hi:Option Bs} {k:Bs} (h:inK lo hi k):inR lo hi k:=⟨ltB_asymm h.1,h.2⟩
theorem Tr_rng (s:Nat→Option Bs):∀ h,Rng (Tr s h)
 | 0=>fun p lo hi l S ⟨_,_,_,_,h3,_⟩=>h3.2.1
 | h+1=>fun p lo hi l S ⟨n,S',hp,_,⟨ks,ps,e,hk,hf⟩,_⟩=>by
  subst e
  exact Fo_rng (Tr_rng s h) ks ps lo hi l S' (right_inner hp.rt rfl).2.2.1 (fun k hk'=>(hk k hk').r) hf
theorem Nt_rng {s:Nat→Option Bs} {h:Nat} {n:Nd} {lo:Bs} {hi:Option Bs} {l:List Pr} {S:List Nat} (hr:rightN n=true) (hn:Nt s h n lo hi l S):∀ x∈l,inR lo hi x.1:=by
 cases h with
 | zero=>exact hn.2.1
 | succ h =>
  obtain ⟨ks,ps,e,hk,hf⟩:=hn
  subst e
  exact Fo_rng (Tr_rng s h) ks ps lo hi l S (right_inner hr rfl).2.2.1 (fun k hk'=>(hk k hk').r) hf
theorem Fo_all {R:TP} {P:Nat→Prop} (hR:∀ p lo hi l S,R p lo hi l S→∀ q∈S,P q):∀ (ks:List Bs) (ps:List Nat) (lo:Bs) (hi:Option Bs) (l:List Pr) (S:List Nat),Fo R lo hi ks ps l S→∀ q∈S,P q
 | [],[p],lo,hi,l,S,hf=>hR _ _ _ _ _ hf
 | k::ks,p::ps,lo,hi,l,S,⟨l1,S1,l2,S2,h1,h2,h3,h4⟩=>fun q hq=>by
  subst h4
  rcases List.mem_append.1 hq with h|h
  ·exact hR _ _ _ _ _ h1 q h
  ·exact Fo_all hR ks ps _ _ _ _ h2 q h
 | [],[],_,_,_,_,hf=>hf.elim
 | [],_::_::_,_,_,_,_,hf=>hf.elim
 | _::_,[],_,_,_,_,hf=>hf.elim
theorem Tr_used (s:Nat→Option Bs):∀ (h:Nat) (p:Nat) (lo:Bs) (hi:Option Bs) (l:List Pr) (S:List Nat),Tr s h p lo hi l S→∀ q∈S,s q≠none
 | 0,p,lo,hi,l,S,⟨n,S',hp,_,h3,hS⟩=>fun q hq=>by
  obtain ⟨_,_,h3⟩:=h3
  subst h3 hS
  simp at hq; subst hq; rw [hp.pg]; simp
 | h+1,p,lo,hi,l,S,⟨n,S',hp,_,⟨ks,ps,_,_,hf⟩,hS⟩=>fun q hq=>by
  subst hS
  rcases List.mem_cons.1 hq with rfl|hq
  ·rw [hp.pg]; simp
  ·exact Fo_all (Tr_used s h) ks ps _ _ _ _ hf q hq
theorem Nt_used {s:Nat→Option Bs} {h:Nat} {n:Nd} {lo:Bs} {hi:Option Bs} {l:List Pr} {S:List Nat} (hn:Nt s h n lo hi l S):∀ q∈S,s q≠none:=by
 cases h with
 | zero=>rw [hn.2.2]; simp
 | succ h =>
  obtain ⟨ks,ps,_,_,hf⟩:=hn
  exact Fo_all (Tr_used s h) ks ps _ _ _ _ hf
theorem halfGo_spec (w:List Nat) (most all W:Nat) (hW:∀ a∈w,a≤W):∀ (d i:Nat),w.length≤i+d→i≤w.length→2 * (w.take i).sum≤all+2 * W →
  2 * (w.take (halfGo w most all d i (w.take i).sum)).sum≤all+2 * W∧(most≤halfGo w most all d i (w.take i).sum∨all≤2 * (w.take (halfGo w most all d i (w.take i).sum)).sum∨w.length≤halfGo w most all d i (w.take i).sum)
 | 0,i,hd,hi,hs=>by unfold halfGo; exact ⟨hs,.inr (.inr (by omega))⟩
 | d+1,i,hd,hi,hs=>by
  unfold halfGo
  by_cases hc:i=0∨(i<most∧2 * (w.take i).sum<all)
  ·rw [if_pos hc]
   by_cases hlt:i<w.length
   ·have hg:w.getD i 0=w[i]:=by rw [List.getD_eq_getElem?_getD,List.getElem?_eq_getElem hlt]; rfl
    have hw:=hW _ (List.getElem_mem hlt)
    rw [hg,← sum_take_succ w hlt]
    refine halfGo_spec w most all W hW d (i+1) (by omega) hlt ?_
    rw [sum_take_succ w hlt]
    rcases hc with h|h
    ·subst h; simp; omega
    ·omega
   ·have hg:w.getD i 0=0:=by rw [List.getD_eq_getElem?_getD,List.getElem?_eq_none (by omega)]; rfl
    have h1:w.take (i+1)=w.take i:=by rw [List.take_of_length_le (by omega),List.take_of_length_le (by omega)]
    have hge:=halfGo_ge w most all d (i+1) ((w.take i).sum+w.getD i 0)
    rw [hg,Nat.add_zero] at hge ⊢
    refine ⟨?_,.inr (.inr (by omega))⟩
    rw [List.take_of_length_le (by omega)]
    rw [List.take_of_length_le (by omega)] at hs
    exact hs
  ·rw [if_neg hc]
   refine ⟨hs,?_⟩
   by_cases h1:i<most
   ·exact .inr (.inl (by omega))
   ·exact .inl (by omega)
theorem halfN_spec {w:List Nat} {most W:Nat} (hW:∀ a∈w,a≤W):2 * (w.take (halfN w most)).sum≤w.sum+2 * W∧(most≤halfN w most∨w.sum≤2 * (w.take (halfN w most)).sum∨w.length≤halfN w most):=by
 have:=halfGo_spec w most w.sum W hW w.length 0 (by omega) (by omega) (by simp)
 simpa [halfN] using this
theorem rising_head {k:Bs} {ks:List Bs} (h:risingK (k::ks)=true):k≠[]∧k.length≤32:=by
 simp only [risingK,Bool.and_eq_true,decide_eq_true_eq] at h
 exact h.1.1
theorem rising_drop:∀ (l:List Bs) (i:Nat),risingK l=true→risingK (l.drop i)=true
 | l,0,h=>h
 | [],i+1,h=>h
 | k::l,i+1,h=>rising_drop l i (rising_tail h).1
theorem rising_take:∀ (l:List Bs) (i:Nat),risingK l=true→risingK (l.take i)=true
 | l,0,h=>by simp [risingK]
 | [],i+1,h=>by simp [risingK]
 | k::l,i+1,h=>by
  rw [List.take_succ_cons]
  exact rising_cons (rising_head h) (rising_take l i (rising_tail h).1) (fun j hj=>(rising_tail h).2 j (List.mem_of_mem_take hj))
theorem rightN_lf {l:List Pr} (h1:risingK (l.map (·.1))=true) (h2:∀ p∈l,p.2.length≤40):rightN (Nd.lf l)=true:=by
 simp only [rightN,Nd.lf,if_true,Bool.and_eq_true,List.all_eq_true,decide_eq_true_eq,List.isEmpty_iff]
 exact ⟨⟨⟨trivial,trivial⟩,h1⟩,h2⟩
theorem rightN_nd {ks:List Bs} {ps:List Nat} (h0:ps.length=ks.length+1) (h1:risingK ks=true) (h2:∀ k∈ps,1≤k∧k≤65535):rightN (Nd.nd ks ps)=true:=by
 simp only [rightN,Nd.nd,Bool.false_eq_true,if_false,Bool.and_eq_true,List.all_eq_true,decide_eq_true_eq,List.isEmpty_iff]
 exact ⟨⟨⟨trivial,decide_eq_true h0⟩,h1⟩,h2⟩
theorem split_leaf {l:List Pr} (hr:risingK (l.map (·.1))=true) (hv:∀ p∈l,p.2.length≤40) (h2:2≤l.length) (hs:(l.map weighP).sum≤344) :
  1≤halfP l∧halfP l<l.length∧rightN (Nd.lf (l.take (halfP l)))=true∧sizeN (Nd.lf (l.take (halfP l)))≤256∧rightN (Nd.lf (l.drop (halfP l)))=true∧sizeN (Nd.lf (l.drop (halfP l)))≤256:=by
 have h1:1≤halfP l:=halfN_ge (by cases l with|nil=>simp at h2|cons a r=>simp)
 have hle:halfP l≤l.length - 1:=halfN_le (by omega)
 have hW:∀ a∈l.map weighP,a≤74:=by
  intro a ha
  obtain ⟨p,hp,rfl⟩:=List.mem_map.1 ha
  obtain ⟨i,hi,rfl⟩:=List.mem_iff_getElem.1 hp
  have:=(risingK_at hr i (by simpa using hi)).2.1
  rw [List.getElem_map] at this
  have:=hv _ (List.getElem_mem hi)
  unfold weighP; omega
 obtain ⟨s1,s2⟩:=halfN_spec (most:=l.length - 1) hW
 have hsum:=congrArg List.sum (List.take_append_drop (halfP l) (l.map weighP))
 rw [List.sum_append] at hsum
 have e1:(l.take (halfP l)).map weighP=(l.map weighP).take (halfP l):=List.map_take ..
 have e2:(l.drop (halfP l)).map weighP=(l.map weighP).drop (halfP l):=List.map_drop ..
 refine ⟨h1,by omega,rightN_lf (by rw [List.map_take]; exact rising_take _ _ hr) (fun p hp=>hv p (List.mem_of_mem_take hp)),?_,rightN_lf (by rw [List.map_drop]; exact rising_drop _ _ hr) (fun p hp=>hv p (List.mem_of_mem_drop hp)),?_⟩
 ·show 2+((l.take (halfP l)).map weighP).sum≤256
  rw [e1]
  have:halfN (l.map weighP) (l.length - 1)=halfP l:=rfl
  rw [this] at s1
  omega
 ·show 2+((l.drop (halfP l)).map weighP).sum≤256
  rw [e2]
  have hh:halfN (l.map weighP) (l.length - 1)=halfP l:=rfl
  rw [hh] at s2
  by_cases hc:(l.map weighP).sum≤2 * ((l.map weighP).take (halfP l)).sum
  ·omega
  ·have hx:l.length - 1≤halfP l:=by
    rcases s2 with h|h|h
    ·exact h
    ·omega
    ·simp at h; omega
   have:=sum_leC (fun a:Nat=>a) 74 ((l.map weighP).drop (halfP l)) (fun a ha=>hW a (List.mem_of_mem_drop ha))
   rw [List.map_id',List.length_drop,List.length_map] at this
   have:(l.length - halfP l) * 74≤1 * 74:=Nat.mul_le_mul_right _ (by omega)
   omega
theorem split_inner {ks:List Bs} {ps:List Nat} (hr:risingK ks=true) (h0:ps.length=ks.length+1) (hp:∀ k∈ps,1≤k∧k≤65535) (h2:3≤ks.length) (hs:(ks.map fun k=>3+k.length).sum≤430) :
  1≤halfK ks∧halfK ks+1<ks.length∧rightN (Nd.nd (ks.take (halfK ks)) (ps.take (halfK ks+1)))=true∧sizeN (Nd.nd (ks.take (halfK ks)) (ps.take (halfK ks+1)))≤256∧rightN (Nd.nd (ks.drop (halfK ks+1)) (ps.drop (halfK ks+1)))=true∧sizeN (Nd.nd (ks.drop (halfK ks+1)) (ps.drop (halfK ks+1)))≤256:=by
 have h1:1≤halfK ks:=halfN_ge (by cases ks with|nil=>simp at h2|cons a r=>simp)
 have hle:halfK ks≤ks.length - 2:=halfN_le (by omega)
 have hW:∀ a∈ks.map (fun k=>3+k.length),a≤35:=by
  intro a ha
  obtain ⟨p,hp,rfl⟩:=List.mem_map.1 ha
  obtain ⟨i,hi,rfl⟩:=List.mem_iff_getElem.1 hp
  have:=(risingK_at hr i hi).2.1
  omega
 obtain ⟨s1,s2⟩:=halfN_spec (most:=ks.length - 2) hW
 have hh:halfN (ks.map fun k=>3+k.length) (ks.length - 2)=halfK ks:=rfl
 rw [hh] at s1 s2
 have hsum:=congrArg List.sum (List.take_append_drop (halfK ks) (ks.map fun k=>3+k.length))
 rw [List.sum_append] at hsum
 have hd:(((ks.map fun k=>3+k.length).drop (halfK ks+1)).sum)≤((ks.map fun k=>3+k.length).drop (halfK ks)).sum:=by
  rw [List.drop_eq_getElem_cons (i:=halfK ks) (by simp; omega),List.sum_cons]; omega
 have e1:(ks.take (halfK ks)).map (fun k=>3+k.length)=(ks.map fun k=>3+k.length).take (halfK ks):=List.map_take ..
 have e2:(ks.drop (halfK ks+1)).map (fun k=>3+k.length)=(ks.map fun k=>3+k.length).drop (halfK ks+1):=List.map_drop ..
 refine ⟨h1,by omega,rightN_nd (by rw [List.length_take,List.length_take]; omega) (rising_take _ _ hr) (fun k hk=>hp k (List.mem_of_mem_take hk)),?_,rightN_nd (by rw [List.length_drop,List.length_drop]; omega) (rising_drop _ _ hr) (fun k hk=>hp k (List.mem_of_mem_drop hk)),?_⟩
 ·show 4+((ks.take (halfK ks)).map fun k=>3+k.length).sum≤256
  rw [e1]; omega
 ·show 4+((ks.drop (halfK ks+1)).map fun k=>3+k.length).sum≤256
  rw [e2]
  by_cases hc:(ks.map fun k=>3+k.length).sum≤2 * ((ks.map fun k=>3+k.length).take (halfK ks)).sum
  ·omega
  ·have hx:ks.length - 2≤halfK ks:=by
    rcases s2 with h|h|h
    ·exact h
    ·omega
    ·simp at h; omega
   have:=sum_leC (fun a:Nat=>a) 35 ((ks.map fun k=>3+k.length).drop (halfK ks+1)) (fun a ha=>hW a (List.mem_of_mem_drop ha))
   rw [List.map_id',List.length_drop,List.length_map] at this
   have:(ks.length - (halfK ks+1)) * 35≤1 * 35:=Nat.mul_le_mul_right _ (by omega)
   omega
end Go.Fx.Tryz
namespace Go.Fx.Tryz
open Go Go.Fx
set_option linter.unusedSimpArgs false
set_option linter.unusedVariables false
def Wo.s (o:Wo) (k:Nat):Option Bs:=if o.has k then lkL o.L k else none
def setS (s:Nat→Option Bs) (p:Nat) (d:Option Bs):Nat→Option Bs:=fun k=>if k=p then d else s k
theorem Wo.s_has {o:Wo} {k:Nat} {d:Bs} (h:o.s k=some d):o.has k=true∧lkL o.L k=some d:=by
 unfold Wo.s at h
 split at h
 ·exact ⟨by assumption,h⟩
 ·cases h
theorem Wo.s_write {o:Wo} {p:Nat} (h:o.has p=true) (d:Bs) (c:Nat):Wo.s { o with L:=upL o.L p d c } = setS o.s p (some d):=by
 funext k
 have e:Wo.has { o with L:=upL o.L p d c } k=o.has k:=rfl
 unfold Wo.s setS
 rw [e,lk_up]
 by_cases hk:k=p
 ·subst hk; rw [h]; simp
 ·simp [hk]
theorem Wo.has_turn {o:Wo} (hu:o.u.length=20) (hP:o.P≤160) {n:Nat} (hn:n<o.P) (k:Nat) (L:Pg):Wo.has { o with u:=turnU o.u n,L:=L } k=(decide (1≤k)&&decide (k<o.P)&&(bitU o.u k ^^ decide (k=n))):=by
 unfold Wo.has
 show (decide (1≤k)&&decide (k<o.P)&&bitU (turnU o.u n) k)=_
 rw [turn_bit o.u (by omega)]
theorem Wo.s_take {o:Wo} (hu:o.u.length=20) (hP:o.P≤160) {n:Nat} (h1:1≤n) (hn:n<o.P) (hb:bitU o.u n=false) (d:Bs) (c:Nat):Wo.s { o with u:=turnU o.u n,L:=upL o.L n d c } = setS o.s n (some d):=by
 funext k
 unfold Wo.s setS
 rw [Wo.has_turn hu hP hn]
 by_cases hk:k=n
 ·subst hk; simp [h1,hn,hb,lk_up]
 ·simp only [decide_eq_false hk,Bool.xor_false,lk_up,if_neg hk]; rfl
theorem Wo.s_drop {o:Wo} (hu:o.u.length=20) (hP:o.P≤160) {n:Nat} (h:o.has n=true):Wo.s { o with u:=turnU o.u n } = setS o.s n none:=by
 have h':=h
 unfold Wo.has at h'
 simp only [Bool.and_eq_true,decide_eq_true_eq] at h'
 funext k
 unfold Wo.s setS
 have:=Wo.has_turn hu hP h'.1.2 k o.L
 rw [this]
 by_cases hk:k=n
 ·subst hk; simp [h'.2]
 ·simp only [decide_eq_false hk,Bool.xor_false,if_neg hk]; rfl
end Go.Fx.Tryz
namespace Go.Fx.Tryz
open Go Go.Fx
set_option linter.unusedSimpArgs false
set_option linter.unusedVariables false
theorem rising_join:∀ (a b:List Bs),risingK a=true→risingK b=true→(∀ i∈a,∀ j∈b,ltB i j=true)→risingK (a++b)=true
 | [],b,_,hb,_=>hb
 | k::a,b,ha,hb,h=>by
  refine rising_cons (rising_head ha) (rising_join a b (rising_tail ha).1 hb (fun i hi j hj=>h i (by simp [hi]) j hj)) (fun j hj=>?_)
  rcases List.mem_append.1 hj with hj|hj
  ·exact (rising_tail ha).2 j hj
  ·exact h k (by simp) j hj
theorem rising_split:∀ (a:List Bs) (k:Bs) (b:List Bs),risingK (a++k::b)=true→(∀ j∈a,ltB j k=true)∧(∀ j∈b,ltB k j=true)∧risingK a=true∧risingK b=true∧k≠[]∧k.length≤32
 | [],k,b,h=>⟨by simp,(rising_tail h).2,rfl,(rising_tail h).1,rising_head h⟩
 | i::a,k,b,h=>by
  obtain ⟨h1,h2,h3,h4,h5⟩:=rising_split a k b (rising_tail h).1
  refine ⟨fun j hj=>?_,h2,rising_cons (rising_head h) h3 (fun j hj=>(rising_tail h).2 j (by simp [hj])),h4,h5⟩
  rcases List.mem_cons.1 hj with rfl|hj
  ·exact (rising_tail h).2 k (by simp)
  ·exact h1 j hj
theorem rising_mid {a:List Bs} {k:Bs} {b:List Bs} (ha:risingK a=true) (hb:risingK b=true) (hk:k≠[]∧k.length≤32) (h1:∀ j∈a,ltB j k=true) (h2:∀ j∈b,ltB k j=true):risingK (a++k::b)=true :=
 rising_join a (k::b) ha (rising_cons hk hb h2) (fun i hi j hj=>by
  rcases List.mem_cons.1 hj with rfl|hj
  ·exact h1 i hi
  ·exact ltB_trans (h1 i hi) (h2 j hj))
abbrev rowP (l:List Pr):Prop:=risingK (l.map (·.1))=true∧∀ p∈l,p.2.length≤40
theorem row_cases (key:Bs):∀ l:List Pr,risingK (l.map (·.1))=true→∃ A B C,l=A++(B++C)∧(∀ x∈A,ltB x.1 key=true)∧(∀ x∈C,ltB key x.1=true)∧(B=[]∨∃ v,B=[(key,v)])
 | [],_=>⟨[],[],[],rfl,by simp,by simp,.inl rfl⟩
 | x::l,h=>by
  rw [List.map_cons] at h
  have ht:=(rising_tail h).2
  cases h1:ltB x.1 key with
  | true =>
   obtain ⟨A,B,C,e,a,b,c⟩:=row_cases key l (rising_tail h).1
   refine ⟨x::A,B,C,by rw [e]; rfl,fun y hy=>?_,b,c⟩
   rcases List.mem_cons.1 hy with rfl|hy
   ·exact h1
   ·exact a y hy
  | false =>
   have hl:∀ y∈l,ltB key y.1=true:=fun y hy=>ltB_le_lt h1 (ht y.1 (List.mem_map_of_mem hy))
   cases h2:ltB key x.1 with
   | true =>
    refine ⟨[],[],x::l,rfl,by simp,fun y hy=>?_,.inl rfl⟩
    rcases List.mem_cons.1 hy with rfl|hy
    ·exact h2
    ·exact hl y hy
   | false =>
    have:=ltB_tri h1 h2
    exact ⟨[],[x],l,rfl,by simp,hl,.inr ⟨x.2,by rw [← this]⟩⟩
theorem one_ahead (key v:Bs):aheadN [(key,v)] key=0:=by simp [aheadN,ltB_irr]
theorem one_there (key v:Bs):thereN [(key,v)] key=true:=by simp [thereN,one_ahead]
theorem put_spec {key val:Bs} {A B C:List Pr} (hA:∀ x∈A,ltB x.1 key=true) (hC:∀ x∈C,ltB key x.1=true) (hB:B=[]∨∃ v,B=[(key,v)]):putN (A++(B++C)) key val=A++(key,val)::C:=by
 rw [put_mid hA (fun x hx=>⟨ltB_asymm (hC x hx),(ltB_ne (hC x hx)).symm⟩)]
 rcases hB with rfl|⟨v,rfl⟩
 ·rfl
 ·simp [putN,cutN,one_there,one_ahead]
theorem cut_spec {key:Bs} {A B C:List Pr} (hA:∀ x∈A,ltB x.1 key=true) (hC:∀ x∈C,ltB key x.1=true) (hB:B=[]∨∃ v,B=[(key,v)]):cutN (A++(B++C)) key=A++C:=by
 rw [cut_mid hA (fun x hx=>⟨ltB_asymm (hC x hx),(ltB_ne (hC x hx)).symm⟩)]
 rcases hB with rfl|⟨v,rfl⟩
 ·rfl
 ·simp [cutN,one_there,one_ahead]
theorem putN_row {l:List Pr} {key val:Bs} (h:rowP l) (hk:key≠[]∧key.length≤32) (hv:val.length≤40):rowP (putN l key val)∧(∀ x∈putN l key val,x∈l∨x=(key,val))∧((putN l key val).map weighP).sum≤(l.map weighP).sum+74∧putN l key val≠[]:=by
 obtain ⟨A,B,C,e,a,b,c⟩:=row_cases key l h.1
 rw [e,put_spec a b c]
 obtain ⟨h1,h2⟩:=h
 rw [e] at h1 h2
 simp only [List.map_append] at h1
 have hA:risingK (A.map (·.1))=true:=by
  have:=rising_take _ A.length h1
  rwa [List.take_left' (by simp)] at this
 have hC:risingK (C.map (·.1))=true:=by
  have:=rising_drop _ (A.length+B.length) h1
  rwa [← List.append_assoc,List.drop_left' (by simp)] at this
 refine ⟨⟨?_,fun p hp=>?_⟩,fun x hx=>?_,?_,by simp⟩
 ·rw [List.map_append,List.map_cons]
  refine rising_mid hA hC hk (fun j hj=>?_) (fun j hj=>?_)
  ·obtain ⟨x,hx,rfl⟩:=List.mem_map.1 hj; exact a x hx
  ·obtain ⟨x,hx,rfl⟩:=List.mem_map.1 hj; exact b x hx
 ·rcases List.mem_append.1 hp with hp|hp
  ·exact h2 p (by simp [hp])
  ·rcases List.mem_cons.1 hp with rfl|hp
   ·exact hv
   ·exact h2 p (by simp [hp])
 ·rcases List.mem_append.1 hx with hx|hx
  ·exact .inl (by simp [hx])
  ·rcases List.mem_cons.1 hx with rfl|hx
   ·exact .inr rfl
   ·exact .inl (by simp [hx])
 ·have:weighP (key,val)≤74:=by show 2+key.length+val.length≤74; omega
  simp only [List.map_append,List.map_cons,List.sum_append,List.sum_cons]
  omega
theorem cutN_row {l:List Pr} {key:Bs} (h:rowP l):rowP (cutN l key)∧(∀ x∈cutN l key,x∈l)∧((cutN l key).map weighP).sum≤(l.map weighP).sum∧(cutN l key).length≤l.length:=by
 obtain ⟨A,B,C,e,a,b,c⟩:=row_cases key l h.1
 rw [e,cut_spec a b c]
 obtain ⟨h1,h2⟩:=h
 rw [e] at h1 h2
 simp only [List.map_append] at h1
 have hA:risingK (A.map (·.1))=true:=by
  have:=rising_take _ A.length h1
  rwa [List.take_left' (by simp)] at this
 have hC:risingK (C.map (·.1))=true:=by
  have:=rising_drop _ (A.length+B.length) h1
  rwa [← List.append_assoc,List.drop_left' (by simp)] at this
 have hm:∀ x∈A++C,x∈A++(B++C):=fun x hx=>by
  rcases List.mem_append.1 hx with hx|hx<;>simp [hx]
 refine ⟨⟨?_,fun p hp=>h2 p (hm p hp)⟩,hm,?_,by simp only [List.length_append]; omega⟩
 ·rw [List.map_append]
  refine rising_join _ _ hA hC (fun i hi j hj=>?_)
  obtain ⟨x,hx,rfl⟩:=List.mem_map.1 hi
  obtain ⟨y,hy,rfl⟩:=List.mem_map.1 hj
  exact ltB_trans (a x hx) (b y hy)
 ·simp only [List.map_append,List.sum_append]; omega
def FL (R:TP):Bs→List Bs→List Nat→Bs→List Pr→List Nat→Prop
 | lo,[],[],lo',l,S=>lo'=lo∧l=[]∧S=[]
 | lo,k::ks,p::ps,lo',l,S=>∃ l1 S1 l2 S2,R p lo (some k) l1 S1∧FL R k ks ps lo' l2 S2∧l=l1++l2∧S=S1++S2
 | _,_,_,_,_,_=>False
def FR (R:TP) (hi' hi:Option Bs) (ks:List Bs) (ps:List Nat) (l:List Pr) (S:List Nat):Prop :=
 match ks with
 | []=>ps=[]∧hi'=hi∧l=[]∧S=[]
 | k::ks=>hi'=some k∧Fo R k hi ks ps l S
theorem FL_len {R:TP}:∀ (ka:List Bs) (pa:List Nat) (lo lo':Bs) (l:List Pr) (S:List Nat),FL R lo ka pa lo' l S→pa.length=ka.length
 | [],[],_,_,_,_,_=>rfl
 | k::ka,p::pa,_,_,_,_,⟨_,_,_,_,_,h,_,_⟩=>by simp [FL_len ka pa _ _ _ _ h]
 | [],_::_,_,_,_,_,h=>h.elim
 | _::_,[],_,_,_,_,h=>h.elim
theorem Fo_of {R:TP} {hi hi':Option Bs} {p:Nat} {l1 l2:List Pr} {S1 S2:List Nat} {kb:List Bs} {pb:List Nat}:∀ (ka:List Bs) (pa:List Nat) (lo lo':Bs) (l0:List Pr) (S0:List Nat),FL R lo ka pa lo' l0 S0→R p lo' hi' l1 S1→FR R hi' hi kb pb l2 S2→Fo R lo hi (ka++kb) (pa++p::pb) (l0++(l1++l2)) (S0++(S1++S2))
 | [],[],lo,lo',l0,S0,⟨e1,e2,e3⟩,h2,h3=>by
  subst e1 e2 e3
  cases kb with
  | nil=>obtain ⟨rfl,rfl,rfl,rfl⟩:=h3; simpa [Fo] using h2
  | cons k kb=>obtain ⟨rfl,h3⟩:=h3; exact ⟨l1,S1,l2,S2,h2,h3,rfl,rfl⟩
 | k::ka,q::pa,lo,lo',l0,S0,⟨m1,T1,m2,T2,a1,a2,a3,a4⟩,h2,h3=>by
  subst a3 a4
  exact ⟨m1,T1,_,_,a1,Fo_of ka pa k lo' m2 T2 a2 h2 h3,by simp,by simp⟩
 | [],_::_,_,_,_,_,h,_,_=>h.elim
 | _::_,[],_,_,_,_,h,_,_=>h.elim
theorem Fo_at {R:TP} {hi:Option Bs}:∀ (c:Nat) (ks:List Bs) (ps:List Nat) (lo:Bs) (l:List Pr) (S:List Nat),Fo R lo hi ks ps l S→c≤ks.length →
  ∃ p lo' hi' l0 l1 l2 S0 S1 S2,ps=ps.take c++p::ps.drop (c+1)∧FL R lo (ks.take c) (ps.take c) lo' l0 S0∧R p lo' hi' l1 S1∧FR R hi' hi (ks.drop c) (ps.drop (c+1)) l2 S2∧l=l0++(l1++l2)∧S=S0++(S1++S2)
 | 0,[],[p],lo,l,S,h,_=>⟨p,lo,hi,[],l,[],[],S,[],rfl,⟨rfl,rfl,rfl⟩,h,⟨rfl,rfl,rfl,rfl⟩,by simp,by simp⟩
 | 0,k::ks,p::ps,lo,l,S,⟨l1,S1,l2,S2,h1,h2,h3,h4⟩,_=>⟨p,lo,some k,[],l1,l2,[],S1,S2,rfl,⟨rfl,rfl,rfl⟩,h1,⟨rfl,h2⟩,h3,h4⟩
 | c+1,k::ks,p::ps,lo,l,S,⟨l1,S1,l2,S2,h1,h2,h3,h4⟩,hc=>by
  obtain ⟨q,lo',hi',m0,m1,m2,T0,T1,T2,e1,e2,e3,e4,e5,e6⟩:=Fo_at c ks ps k l2 S2 h2 (by simpa using hc)
  subst h3 h4 e5 e6
  exact ⟨q,lo',hi',l1++m0,m1,m2,S1++T0,T1,T2,by rw [List.take_succ_cons,List.drop_succ_cons,List.cons_append,← e1],⟨l1,S1,m0,T0,h1,e2,rfl,rfl⟩,e3,e4,by simp,by simp⟩
 | c+1,[],_,_,_,_,_,hc=>by simp at hc
 | 0,[],[],_,_,_,h,_=>h.elim
 | 0,[],_::_::_,_,_,_,h,_=>h.elim
 | _,_::_,[],_,_,_,h,_=>h.elim
theorem FL_last {R:TP} {k:Bs} {p:Nat}:∀ (ka:List Bs) (pa:List Nat) (lo lo':Bs) (l:List Pr) (S:List Nat),FL R lo (ka++[k]) (pa++[p]) lo' l S→lo'=k∧∃ lo1 l1 l2 S1 S2,FL R lo ka pa lo1 l1 S1∧R p lo1 (some k) l2 S2∧l=l1++l2∧S=S1++S2
 | [],[],lo,lo',l,S,⟨l1,S1,l2,S2,h1,⟨h2,h3,h4⟩,h5,h6⟩=>by
  subst h2 h3 h4 h5 h6
  exact ⟨rfl,lo,[],l1,[],S1,⟨rfl,rfl,rfl⟩,h1,by simp,by simp⟩
 | j::ka,q::pa,lo,lo',l,S,⟨l1,S1,l2,S2,h1,h2,h3,h4⟩=>by
  obtain ⟨e,lo1,m1,m2,T1,T2,a1,a2,a3,a4⟩:=FL_last ka pa j lo' l2 S2 h2
  subst a3 a4 h3 h4
  exact ⟨e,lo1,l1++m1,m2,S1++T1,T2,⟨l1,S1,m1,T1,h1,a1,rfl,rfl⟩,a2,by simp,by simp⟩
 | [],q::pa,lo,lo',l,S,h=>by
  have:=FL_len _ _ _ _ _ _ h
  simp at this
 | j::ka,[],lo,lo',l,S,h=>by
  have:=FL_len _ _ _ _ _ _ h
  simp at this
theorem FL_mono {R R':TP}:∀ (ka:List Bs) (pa:List Nat) (lo lo':Bs) (l:List Pr) (S:List Nat),(∀ p lo hi l T,(∀ q∈T,q∈S)→R p lo hi l T→R' p lo hi l T)→FL R lo ka pa lo' l S→FL R' lo ka pa lo' l S
 | [],[],_,_,_,_,_,h=>h
 | k::ka,p::pa,lo,lo',l,S,hm,⟨l1,S1,l2,S2,h1,h2,h3,h4⟩=>by
  subst h4
  exact ⟨l1,S1,l2,S2,hm _ _ _ _ _ (fun q hq=>List.mem_append.2 (.inl hq)) h1,FL_mono ka pa _ _ _ _ (fun p lo hi l T hT hr=>hm p lo hi l T (fun q hq=>List.mem_append.2 (.inr (hT q hq))) hr) h2,h3,rfl⟩
 | [],_::_,_,_,_,_,_,h=>h.elim
 | _::_,[],_,_,_,_,_,h=>h.elim
theorem FR_mono {R R':TP} {hi' hi:Option Bs} {ks:List Bs} {ps:List Nat} {l:List Pr} {S:List Nat} (hm:∀ p lo hi l T,(∀ q∈T,q∈S)→R p lo hi l T→R' p lo hi l T) (h:FR R hi' hi ks ps l S):FR R' hi' hi ks ps l S:=by
 cases ks with
 | nil=>exact h
 | cons k ks=>exact ⟨h.1,Fo_mono ks ps _ _ _ _ hm h.2⟩
theorem FL_lo {R:TP}:∀ (ka:List Bs) (pa:List Nat) (lo lo':Bs) (l:List Pr) (S:List Nat),FL R lo ka pa lo' l S→risingK ka=true→(∀ k∈ka,ltB lo k=true)→(lo'=lo∨lo'∈ka)∧ltB lo' lo=false∧∀ j∈ka,ltB lo' j=false
 | [],[],lo,lo',l,S,⟨e,_,_⟩,_,_=>by subst e; exact ⟨.inl rfl,ltB_irr _,by simp⟩
 | k::ka,p::pa,lo,lo',l,S,⟨_,_,_,_,_,h2,_,_⟩,hr,hk=>by
  obtain ⟨a,b,c⟩:=FL_lo ka pa k lo' _ _ h2 (rising_tail hr).1 (rising_tail hr).2
  refine ⟨.inr ?_,ltB_asymm (ltB_lt_le (hk k (by simp)) b),fun j hj=>?_⟩
  ·rcases a with rfl|a
   ·simp
   ·exact List.mem_cons_of_mem _ a
  ·rcases List.mem_cons.1 hj with rfl|hj
   ·exact b
   ·exact c j hj
 | [],_::_,_,_,_,_,h,_,_=>h.elim
 | _::_,[],_,_,_,_,h,_,_=>h.elim
theorem FL_lt {R:TP} (hR:Rng R):∀ (ka:List Bs) (pa:List Nat) (lo lo':Bs) (l:List Pr) (S:List Nat),FL R lo ka pa lo' l S→risingK ka=true→∀ x∈l,ltB x.1 lo'=true
 | [],[],lo,lo',l,S,⟨_,e,_⟩,_=>by subst e; simp
 | k::ka,p::pa,lo,lo',l,S,⟨l1,S1,l2,S2,h1,h2,h3,h4⟩,hr=>fun x hx=>by
  subst h3
  rcases List.mem_append.1 hx with hx|hx
  ·exact ltB_lt_le ((hR _ _ _ _ _ h1 x hx).2 k rfl) (FL_lo ka pa k lo' _ _ h2 (rising_tail hr).1 (rising_tail hr).2).2.1
  ·exact FL_lt hR ka pa k lo' l2 S2 h2 (rising_tail hr).1 x hx
 | [],_::_,_,_,_,_,h,_=>h.elim
 | _::_,[],_,_,_,_,h,_=>h.elim
theorem FR_ge {R:TP} (hR:Rng R) {hi' hi:Option Bs} {ks:List Bs} {ps:List Nat} {l:List Pr} {S:List Nat} (h:FR R hi' hi ks ps l S) (hr:risingK ks=true):∀ x∈l,∃ e,hi'=some e∧ltB x.1 e=false:=by
 cases ks with
 | nil=>rw [h.2.2.1]; simp
 | cons k ks=>exact fun x hx=>⟨k,h.1,Fo_lo hR ks ps k hi l S (rising_tail hr).1 (rising_tail hr).2 h.2 x hx⟩
theorem FR_hi {R:TP} {hi' hi:Option Bs} {ks:List Bs} {ps:List Nat} {l:List Pr} {S:List Nat} (h:FR R hi' hi ks ps l S) (hk:∀ k∈ks,∀ e,hi=some e→ltB k e=true):∀ e,hi=some e→∃ e',hi'=some e'∧ltB e e'=false:=by
 cases ks with
 | nil=>intro e he; exact ⟨e,h.2.1.trans he,ltB_irr e⟩
 | cons k ks=>intro e he; exact ⟨k,h.1,ltB_asymm (hk k (by simp) e he)⟩
theorem key_mid {R:TP} {lo lo':Bs} {hi hi':Option Bs} {ka kb:List Bs} {pa pb:List Nat} {l0 l2:List Pr} {S0 S2:List Nat} {k:Bs} (h0:FL R lo ka pa lo' l0 S0) (h2:FR R hi' hi kb pb l2 S2) (hr:risingK (ka++kb)=true) (hk:∀ j∈ka++kb,inK lo hi j) (hkk:inK lo' hi' k) (h32:k≠[]∧k.length≤32) :
  risingK (ka++k::kb)=true∧inK lo hi k:=by
 have hra:risingK ka=true:=by have:=rising_take _ ka.length hr; rwa [List.take_left' rfl] at this
 have hrb:risingK kb=true:=by have:=rising_drop _ ka.length hr; rwa [List.drop_left' rfl] at this
 obtain ⟨a,b,c⟩:=FL_lo ka pa lo lo' l0 S0 h0 hra (fun j hj=>(hk j (by simp [hj])).1)
 refine ⟨rising_mid hra hrb h32 (fun j hj=>ltB_le_lt (c j hj) hkk.1) (fun j hj=>?_),ltB_le_lt b hkk.1,fun e he=>?_⟩
 ·cases kb with
  | nil=>simp at hj
  | cons i kb =>
   have:=hkk.2 i h2.1
   rcases List.mem_cons.1 hj with rfl|hj
   ·exact this
   ·exact ltB_trans this ((rising_tail hrb).2 j hj)
 ·obtain ⟨e',h3,h4⟩:=FR_hi h2 (fun k hk' e he=>(hk k (by simp [hk'])).2 e he) e he
  exact ltB_lt_le (hkk.2 e' h3) h4
theorem Fo_join {R:TP} {key:Bs} {hi:Option Bs} {kb:List Bs} {pb:List Nat} {lb:List Pr} {Sb:List Nat} (hb:Fo R key hi kb pb lb Sb):∀ (ka:List Bs) (pa:List Nat) (lo:Bs) (la:List Pr) (Sa:List Nat),Fo R lo (some key) ka pa la Sa→Fo R lo hi (ka++([key]++kb)) (pa++pb) (la++lb) (Sa++Sb)
 | [],[p],lo,la,Sa,h=>⟨la,Sa,lb,Sb,h,hb,rfl,rfl⟩
 | k::ka,p::pa,lo,la,Sa,⟨l1,S1,l2,S2,h1,h2,h3,h4⟩=>by
  subst h3 h4
  exact ⟨l1,S1,_,_,h1,Fo_join hb ka pa k l2 S2 h2,by simp,by simp⟩
 | [],[],_,_,_,h=>h.elim
 | [],_::_::_,_,_,_,h=>h.elim
 | _::_,[],_,_,_,h=>h.elim
theorem Nt_join {s:Nat→Option Bs} {h:Nat} {a b:Nd} {lo key:Bs} {hi:Option Bs} {la lb:List Pr} {Sa Sb:List Nat} (ha:Nt s h a lo (some key) la Sa) (hb:Nt s h b key hi lb Sb) (hra:rightN a=true) (hrb:rightN b=true) (hk:inK lo hi key) (h32:key≠[]∧key.length≤32) :
  Nt s h (joinN a b key) lo hi (la++lb) (Sa++Sb)∧rightN (joinN a b key)=true∧(neN a∨neN b→neN (joinN a b key)):=by
 have xa:=Nt_rng hra ha
 have xb:=Nt_rng hrb hb
 cases h with
 | zero =>
  obtain ⟨rfl,h1,rfl⟩:=ha
  obtain ⟨rfl,h2,rfl⟩:=hb
  have e:joinN (Nd.lf la) (Nd.lf lb) key=Nd.lf (la++lb):=rfl
  obtain ⟨_,_,r1,v1⟩:=right_leaf hra rfl
  obtain ⟨_,_,r2,v2⟩:=right_leaf hrb rfl
  rw [e]
  refine ⟨⟨rfl,fun x hx=>?_,rfl⟩,rightN_lf ?_ (fun p hp=>?_),fun hn=>?_⟩
  ·rcases List.mem_append.1 hx with hx|hx
   ·have:=h1 x hx
    exact ⟨this.1,fun e he=>ltB_trans (this.2 key rfl) (hk.2 e he)⟩
   ·have:=h2 x hx
    exact ⟨ltB_asymm (ltB_lt_le hk.1 this.1),this.2⟩
  ·rw [List.map_append]
   refine rising_join _ _ r1 r2 (fun i hi j hj=>?_)
   obtain ⟨x,hx,rfl⟩:=List.mem_map.1 hi
   obtain ⟨y,hy,rfl⟩:=List.mem_map.1 hj
   exact ltB_lt_le ((h1 x hx).2 key rfl) (h2 y hy).1
  ·rcases List.mem_append.1 hp with hp|hp
   ·exact (v1 p hp).2.2
   ·exact (v2 p hp).2.2
  ·simp only [neN,Nd.lf,if_true] at hn ⊢
   exact fun e=>hn.elim (fun h=>h (List.append_eq_nil_iff.1 e).1) (fun h=>h (List.append_eq_nil_iff.1 e).2)
 | succ h =>
  obtain ⟨ka,pa,rfl,h1,f1⟩:=ha
  obtain ⟨kb,pb,rfl,h2,f2⟩:=hb
  obtain ⟨_,i1,r1,_,p1⟩:=right_inner hra rfl
  obtain ⟨_,i2,r2,_,p2⟩:=right_inner hrb rfl
  have i1:pa.length=ka.length+1:=i1
  have i2:pb.length=kb.length+1:=i2
  have e:joinN (Nd.nd ka pa) (Nd.nd kb pb) key=Nd.nd (ka++([key]++kb)) (pa++pb):=rfl
  rw [e]
  refine ⟨⟨_,_,rfl,fun k hk'=>?_,Fo_join f2 ka pa lo la Sa f1⟩,rightN_nd ?_ (rising_mid r1 r2 h32 (fun j hj=>(h1 j hj).2 key rfl) (fun j hj=>(h2 j hj).1)) (fun k hk'=>?_),fun hn=>by simp [neN,Nd.nd]⟩
  ·rcases List.mem_append.1 hk' with hk'|hk'
   ·exact ⟨(h1 k hk').1,fun e he=>ltB_trans ((h1 k hk').2 key rfl) (hk.2 e he)⟩
   ·rcases List.mem_cons.1 hk' with rfl|hk'
    ·exact hk
    ·exact ⟨ltB_trans hk.1 (h2 k hk').1,(h2 k hk').2⟩
  ·simp only [List.length_append,List.length_cons,List.length_nil]; omega
  ·rcases List.mem_append.1 hk' with hk'|hk'
   ·exact p1 k hk'
   ·exact p2 k hk'
def wtN (n:Nd):Prop:=if n.leaf then (n.pairs.map weighP).sum≤344 else (n.keys.map fun k=>3+k.length).sum≤430
theorem sum_len {α:Type} (f:α→Nat) (h:∀ a,1≤f a):∀ l:List α,l.length≤(l.map f).sum
 | []=>by simp
 | a::l=>by have:=sum_len f h l; have:=h a; simp only [List.map_cons,List.sum_cons,List.length_cons]; omega
theorem wt_fit {n:Nd} (h:rightN n=true) (hw:wtN n):n.Fit:=by
 unfold wtN at hw
 cases hl:n.leaf with
 | true =>
  rw [hl,if_pos rfl] at hw
  have:=sum_len weighP (fun p=>by unfold weighP; omega) n.pairs
  have:=(right_leaf h hl).1
  exact rightN_fit h (by omega) (by rw [this]; simp)
 | false =>
  rw [hl,if_neg (by simp)] at hw
  have:=sum_len (fun k:Bs=>3+k.length) (fun p=>by omega) n.keys
  have:=(right_inner h hl).1
  exact rightN_fit h (by rw [this]; simp) (by omega)
theorem Nt_split {s:Nat→Option Bs} {h:Nat} {n:Nd} {lo:Bs} {hi:Option Bs} {l:List Pr} {S:List Nat} (hn:Nt s h n lo hi l S) (hr:rightN n=true) (hw:wtN n) (hs:¬ sizeN n≤256) :
  (if n.leaf then 2≤n.pairs.length else 3≤n.keys.length∧n.kids.length=n.keys.length+1) ∧
  rightN (splitN n).1=true∧sizeN (splitN n).1≤256∧rightN (splitN n).2.1=true∧sizeN (splitN n).2.1≤256∧neN (splitN n).1∧neN (splitN n).2.1 ∧
  inK lo hi (splitN n).2.2∧((splitN n).2.2≠[]∧(splitN n).2.2.length≤32) ∧
  ∃ la lb Sa Sb,Nt s h (splitN n).1 lo (some (splitN n).2.2) la Sa∧Nt s h (splitN n).2.1 (splitN n).2.2 hi lb Sb∧l=la++lb∧S=Sa++Sb:=by
 cases h with
 | zero =>
  obtain ⟨rfl,h1,rfl⟩:=hn
  obtain ⟨_,_,r1,v1⟩:=right_leaf hr rfl
  have r1:risingK (l.map (·.1))=true:=r1
  have v1:∀ p∈l,p.1≠[]∧p.1.length≤32∧p.2.length≤40:=v1
  have hw:(l.map weighP).sum≤344:=hw
  have hs:¬ 2+(l.map weighP).sum≤256:=hs
  have h2:2≤l.length:=by
   have:=sum_leC weighP 74 l (fun p hp=>by have:=v1 p hp; unfold weighP; omega)
   rcases Nat.lt_or_ge l.length 2 with h|h
   ·have:l.length * 74≤1 * 74:=Nat.mul_le_mul_right _ (by omega)
    omega
   ·exact h
  obtain ⟨a1,a2,a3,a4,a5,a6⟩:=split_leaf r1 (fun p hp=>(v1 p hp).2.2) h2 hw
  have e:splitN (Nd.lf l)=(Nd.lf (l.take (halfP l)),Nd.lf (l.drop (halfP l)),l[halfP l].1):=by
   simp [splitN,Nd.lf,List.getElem?_eq_getElem a2]
  rw [e]
  have hd:l=l.take (halfP l)++l[halfP l]::l.drop (halfP l+1):=by rw [← List.drop_eq_getElem_cons a2,List.take_append_drop]
  have hd':=hd
  generalize l[halfP l]=x at hd ⊢
  have r2:=r1
  rw [hd,List.map_append,List.map_cons] at r2
  obtain ⟨b1,b2,b3,b4,b5⟩:=rising_split _ _ _ r2
  have hxl:x∈l:=by rw [hd]; simp
  have hdr:l.drop (halfP l)=x::l.drop (halfP l+1):=List.append_cancel_left ((List.take_append_drop _ _).trans hd)
  have h0:0<(l.take (halfP l)).length:=by rw [List.length_take]; omega
  refine ⟨h2,a3,a4,a5,a6,?_,?_,⟨?_,(h1 x hxl).2⟩,b5,_,_,[],[],⟨rfl,fun y hy=>⟨(h1 y (List.mem_of_mem_take hy)).1,fun e he=>?_⟩,rfl⟩,⟨rfl,fun y hy=>⟨?_,(h1 y (List.mem_of_mem_drop hy)).2⟩,rfl⟩,(List.take_append_drop _ _).symm,rfl⟩
  ·simp only [neN,Nd.lf,if_true]; exact List.length_pos_iff.1 h0
  ·simp only [neN,Nd.lf,if_true,hdr]; simp
  ·have hm:=List.getElem_mem h0
   exact ltB_le_lt (h1 _ (List.mem_of_mem_take hm)).1 (b1 _ (List.mem_map_of_mem hm))
  ·cases he; exact b1 _ (List.mem_map_of_mem hy)
  ·rw [hdr] at hy
   rcases List.mem_cons.1 hy with rfl|hy
   ·exact ltB_irr _
   ·exact ltB_asymm (b2 _ (List.mem_map_of_mem hy))
 | succ h =>
  obtain ⟨ks,ps,rfl,h1,f1⟩:=hn
  obtain ⟨_,i1,r1,v1,p1⟩:=right_inner hr rfl
  have i1:ps.length=ks.length+1:=i1
  have r1:risingK ks=true:=r1
  have v1:∀ k∈ks,k≠[]∧k.length≤32:=v1
  have p1:∀ k∈ps,1≤k∧k≤65535:=p1
  have hw:(ks.map fun k=>3+k.length).sum≤430:=hw
  have hs:¬ 4+(ks.map fun k=>3+k.length).sum≤256:=hs
  have h2:3≤ks.length:=by
   have:=sum_leC (fun k:Bs=>3+k.length) 35 ks (fun p hp=>by have:=v1 p hp; omega)
   rcases Nat.lt_or_ge ks.length 3 with h|h
   ·have:ks.length * 35≤2 * 35:=Nat.mul_le_mul_right _ (by omega)
    omega
   ·exact h
  obtain ⟨a1,a2,a3,a4,a5,a6⟩:=split_inner r1 i1 p1 h2 hw
  have hlt:halfK ks<ks.length:=by omega
  have e:splitN (Nd.nd ks ps)=(Nd.nd (ks.take (halfK ks)) (ps.take (halfK ks+1)),Nd.nd (ks.drop (halfK ks+1)) (ps.drop (halfK ks+1)),ks[halfK ks]):=by
   simp [splitN,Nd.nd,List.getElem?_eq_getElem hlt]
  rw [e]
  have hd:ks=ks.take (halfK ks)++ks[halfK ks]::ks.drop (halfK ks+1):=by rw [← List.drop_eq_getElem_cons hlt,List.take_append_drop]
  have hkd:=List.drop_eq_getElem_cons hlt
  have hxl:=List.getElem_mem hlt
  generalize ks[halfK ks]=k at hd hkd hxl ⊢
  have r2:=r1
  rw [hd] at r2
  obtain ⟨b1,b2,b3,b4,b5⟩:=rising_split _ _ _ r2
  obtain ⟨p,lo',hi',l0,l1,l2,S0,S1,S2,c1,c2,c3,c4,c5,c6⟩:=Fo_at (halfK ks) ks ps lo l S f1 (by omega)
  rw [hkd] at c4
  obtain ⟨rfl,c4⟩:=c4
  have hpt:ps.take (halfK ks+1)=ps.take (halfK ks)++[p]:=by
   have hl:(ps.take (halfK ks)).length=halfK ks:=by rw [List.length_take]; omega
   have:=congrArg (List.take (halfK ks+1)) c1
   rw [this,List.take_append,hl,show halfK ks+1 - halfK ks=1 by omega,List.take_take,Nat.min_eq_right (by omega)]
   rfl
  have f2:=Fo_of (kb:=[]) (pb:=[]) (hi:=some k) (l2:=[]) (S2:=[]) _ _ _ _ _ _ c2 c3 ⟨rfl,rfl,rfl,rfl⟩
  rw [List.append_nil,List.append_nil,List.append_nil,← hpt] at f2
  refine ⟨⟨h2,i1⟩,a3,a4,a5,a6,?_,?_,h1 k hxl,b5,_,_,_,_,⟨_,_,rfl,fun j hj=>⟨(h1 j (List.mem_of_mem_take hj)).1,fun e he=>?_⟩,f2⟩,⟨_,_,rfl,fun j hj=>⟨b2 j hj,(h1 j (List.mem_of_mem_drop hj)).2⟩,c4⟩,by rw [c5,List.append_assoc],by rw [c6,List.append_assoc]⟩
  ·have:0<(ks.take (halfK ks)).length:=by rw [List.length_take]; omega
   simp only [neN,Nd.nd,Bool.false_eq_true,if_false]; exact List.length_pos_iff.1 this
  ·have:0<(ks.drop (halfK ks+1)).length:=by rw [List.length_drop]; omega
   simp only [neN,Nd.nd,Bool.false_eq_true,if_false]; exact List.length_pos_iff.1 this
  ·cases he; exact b1 j hj
end Go.Fx.Tryz
namespace Go.Fx.Tryz
open Go Go.Fx
set_option linter.unusedSimpArgs false
set_option linter.unusedVariables false
structure Kin (x x':Wx):Prop where
 w:x'.o.w=x.o.w
 pm:x'.o.pm=x.o.pm
 c:x'.o.c=x.o.c
 p:x'.o.p=x.o.p
 P:x'.o.P=x.o.P
 nt:x'.o.nt=x.o.nt
 hd:x'.o.hd=x.o.hd
 xb:x'.xb=x.xb
 rest:x'.rest=x.rest
 t:x'.t=x.t
theorem Kin.refl (x:Wx):Kin x x:=⟨rfl,rfl,rfl,rfl,rfl,rfl,rfl,rfl,rfl,rfl⟩
theorem Kin.trans {x y z:Wx} (h:Kin x y) (k:Kin y z):Kin x z :=
 ⟨k.w.trans h.w,k.pm.trans h.pm,k.c.trans h.c,k.p.trans h.p,k.P.trans h.P,k.nt.trans h.nt,k.hd.trans h.hd,k.xb.trans h.xb,k.rest.trans h.rest,k.t.trans h.t⟩
abbrev Wx.fp (x:Wx):List Nat:=[x.o.w,x.o.pm,x.xb]
theorem Kin.fp {x y:Wx} (h:Kin x y):y.fp=x.fp:=by unfold Wx.fp; rw [h.w,h.pm,h.xb]
theorem Kin.v {x y:Wx} (h:Kin x y):y.v=x.v:=by unfold Wx.v; rw [h.xb]
theorem XR.fp_lt {x:Wx} {m:Mem} (h:XR x m):∀ b∈x.fp,b<m.next:=fun b hb=>by
 have:=h.wr.lw; have:=h.wr.lm; have:=h.lx
 simp only [Wx.fp,List.mem_cons,List.not_mem_nil,or_false] at hb
 rcases hb with rfl|rfl|rfl<;>assumption
def Fu (o:Wo):Prop:=∀ k,o.has k=(o.s k).isSome
theorem Fu.some {o:Wo} {k:Nat} (h:o.s k≠none):o.has k=true:=by
 cases hs:o.s k with
 | none=>exact absurd hs h
 | some d=>exact (Wo.s_has hs).1
theorem has_lt {o:Wo} {k:Nat} (h:o.has k=true):1≤k∧k<o.P:=by
 unfold Wo.has at h
 simp only [Bool.and_eq_true,decide_eq_true_eq] at h
 exact h.1
structure Stp (s s':Nat→Option Bs) (S S':List Nat):Prop where
 out:∀ q,q∉S→q∉S'→s' q=s q
 new:∀ q∈S',q∈S∨s q=none
 gone:∀ q∈S,q∉S'→s' q=none
theorem Stp.refl (s:Nat→Option Bs) (S:List Nat):Stp s s S S:=⟨fun _ _ _=>rfl,fun q h=>.inl h,fun q h h'=>absurd h h'⟩
theorem Stp.trans {s s' s'':Nat→Option Bs} {S S' S'':List Nat} (h:Stp s s' S S') (k:Stp s' s'' S' S''):Stp s s'' S S'':=by
 refine ⟨fun q h1 h2=>?_,fun q hq=>?_,fun q h1 h2=>?_⟩
 ·by_cases h3:q∈S'
  ·rw [k.gone q h3 h2]; exact ((h.new q h3).resolve_left h1).symm
  ·rw [k.out q h3 h2,h.out q h1 h3]
 ·rcases k.new q hq with h1|h1
  ·exact h.new q h1
  ·by_cases h2:q∈S
   ·exact .inl h2
   ·by_cases h3:q∈S'
    ·exact h.new q h3
    ·exact .inr ((h.out q h2 h3).symm.trans h1)
 ·by_cases h3:q∈S'
  ·exact k.gone q h3 h2
  ·rw [k.out q h3 h2]; exact h.gone q h1 h3
theorem Stp.ctx {s s':Nat→Option Bs} {S S' T U U':List Nat} (h:Stp s s' S S') (hU:∀ q,q∈U↔q∈S∨q∈T) (hU':∀ q,q∈U'↔q∈S'∨q∈T):Stp s s' U U':=by
 refine ⟨fun q h1 h2=>h.out q (fun h=>h1 ((hU q).2 (.inl h))) (fun h=>h2 ((hU' q).2 (.inl h))),fun q hq=>?_,fun q h1 h2=>?_⟩
 ·rcases (hU' q).1 hq with h1|h1
  ·exact (h.new q h1).imp (fun h=>(hU q).2 (.inl h)) id
  ·exact .inl ((hU q).2 (.inr h1))
 ·rcases (hU q).1 h1 with h3|h3
  ·exact h.gone q h3 (fun h=>h2 ((hU' q).2 (.inl h)))
  ·exact absurd ((hU' q).2 (.inr h3)) h2
theorem Stp.keep {s s':Nat→Option Bs} {S S':List Nat} (h:Stp s s' S S') {q:Nat} (h1:q∉S) (h2:s q≠none):s' q=s q∧q∉S':=by
 have:q∉S':=fun hq=>(h.new q hq).elim h1 h2
 exact ⟨h.out q h1 this,this⟩
def Pts (s:Nat→Option Bs) (R:TP) (h page:Nat) (lo:Bs) (hi:Option Bs) (ps:List Pt) (l:List Pr) (S:List Nat):Prop :=
 (ps=[([],page)]∧R page lo hi l S) ∨
 ∃ k q la lb Sa Sb,ps=[([],page),(k,q)]∧inK lo hi k∧(k≠[]∧k.length≤32)∧Tr s h page lo (some k) la Sa∧Tr s h q k hi lb Sb∧l=la++lb∧S=Sa++Sb∧4≤l.length
theorem Kin.o (x:Wx) {o':Wo} (h:o'.w=x.o.w∧o'.pm=x.o.pm∧o'.c=x.o.c∧o'.p=x.o.p∧o'.P=x.o.P∧o'.nt=x.o.nt∧o'.hd=x.o.hd):Kin x { x with o:=o' } :=
 ⟨h.1,h.2.1,h.2.2.1,h.2.2.2.1,h.2.2.2.2.1,h.2.2.2.2.2.1,h.2.2.2.2.2.2,rfl,rfl,rfl⟩
theorem Fu.write {o:Wo} (h:Fu o) {p:Nat} (hp:o.has p=true) (d:Bs) (c:Nat):Fu { o with L:=upL o.L p d c }:=by
 intro k
 rw [Wo.s_write hp]
 unfold setS
 have e:Wo.has { o with L:=upL o.L p d c } k=o.has k:=rfl
 rw [e]
 by_cases hk:k=p
 ·subst hk; simp [hp]
 ·rw [if_neg hk]; exact h k
theorem Fu.take {o:Wo} (h:Fu o) (hu:o.u.length=20) (hP:o.P≤160) {n:Nat} (h1:1≤n) (hn:n<o.P) (hb:bitU o.u n=false) (d:Bs) (c:Nat):Fu { o with u:=turnU o.u n,L:=upL o.L n d c }:=by
 intro k
 rw [Wo.s_take hu hP h1 hn hb,Wo.has_turn hu hP hn]
 unfold setS
 by_cases hk:k=n
 ·subst hk; simp [h1,hn,hb]
 ·rw [if_neg hk,decide_eq_false hk,Bool.xor_false]; exact h k
theorem Fu.drop {o:Wo} (h:Fu o) (hu:o.u.length=20) (hP:o.P≤160) {n:Nat} (hn:o.has n=true):Fu { o with u:=turnU o.u n }:=by
 intro k
 rw [Wo.s_drop hu hP hn,Wo.has_turn hu hP (has_lt hn).2 k o.L]
 unfold setS
 by_cases hk:k=n
 ·subst hk
  have:=hn
  unfold Wo.has at this
  simp only [Bool.and_eq_true,decide_eq_true_eq] at this
  simp [this.2]
 ·rw [if_neg hk,decide_eq_false hk,Bool.xor_false]; exact h k
theorem s_free {o:Wo} {n:Nat} (hb:bitU o.u n=false):o.s n=none:=by
 unfold Wo.s Wo.has; simp [hb]
end Go.Fx.Tryz
namespace Go.Fx.Tryz
open Go Go.Fx
set_option linter.unusedSimpArgs false
set_option linter.unusedVariables false
theorem nodup_sub {α:Type} [DecidableEq α]:∀ (S T:List α),S.Nodup→(∀ q∈S,q∈T)→S.length≤T.length
 | [],_,_,_=>Nat.zero_le _
 | a::S,T,h,hs=>by
  rw [List.nodup_cons] at h
  have ha:=hs a (by simp)
  have:=nodup_sub S (T.erase a) h.2 (fun q hq=>(List.mem_erase_of_ne (by rintro rfl; exact h.1 hq)).2 (hs q (by simp [hq])))
  rw [List.length_erase_of_mem ha] at this
  have:=List.length_pos_of_mem ha
  simp only [List.length_cons]; omega
theorem Fo_cnt {R:TP} {c:Nat} (hR:∀ p lo hi l S,R p lo hi l S→c≤l.length∧c≤S.length∧S.length+1≤2 * l.length):∀ (ks:List Bs) (ps:List Nat) (lo:Bs) (hi:Option Bs) (l:List Pr) (S:List Nat),Fo R lo hi ks ps l S→(ks.length+1) * c≤l.length∧(ks.length+1) * c≤S.length∧S.length+(ks.length+1)≤2 * l.length
 | [],[p],lo,hi,l,S,h=>by have:=hR _ _ _ _ _ h; simpa using this
 | k::ks,p::ps,lo,hi,l,S,⟨l1,S1,l2,S2,h1,h2,h3,h4⟩=>by
  subst h3 h4
  have a:=hR _ _ _ _ _ h1
  have b:=Fo_cnt hR ks ps _ _ _ _ h2
  simp only [List.length_cons,List.length_append]
  rw [Nat.add_mul (ks.length+1) 1 c]
  omega
 | [],[],_,_,_,_,hf=>hf.elim
 | [],_::_::_,_,_,_,_,hf=>hf.elim
 | _::_,[],_,_,_,_,hf=>hf.elim
theorem Tr_cnt (s:Nat→Option Bs):∀ (h p:Nat) (lo:Bs) (hi:Option Bs) (l:List Pr) (S:List Nat),Tr s h p lo hi l S→2 ^ h≤l.length∧2 ^ h≤S.length∧S.length+1≤2 * l.length
 | 0,p,lo,hi,l,S,⟨n,S',hp,hn,⟨e1,_,e2⟩,e3⟩=>by
  subst e1 e2 e3
  have:l≠[]:=by simpa [neN,Nd.lf] using hn
  have:=List.length_pos_iff.2 this
  simp; omega
 | h+1,p,lo,hi,l,S,⟨n,S',hp,hn,⟨ks,ps,e1,hk,hf⟩,e3⟩=>by
  subst e1 e3
  have:ks≠[]:=by simpa [neN,Nd.nd] using hn
  have:=List.length_pos_iff.2 this
  obtain ⟨a,b,c⟩:=Fo_cnt (c:=2 ^ h) (Tr_cnt s h) ks ps lo hi l S' hf
  have h2:2 * 2 ^ h≤(ks.length+1) * 2 ^ h:=Nat.mul_le_mul_right _ (by omega)
  rw [Nat.pow_succ]
  simp only [List.length_cons]
  omega
theorem Fo_row {R:TP} (hR:Rng R) (hw:∀ p lo hi l S,R p lo hi l S→rowP l):∀ (ks:List Bs) (ps:List Nat) (lo:Bs) (hi:Option Bs) (l:List Pr) (S:List Nat),risingK ks=true→Fo R lo hi ks ps l S→rowP l
 | [],[p],lo,hi,l,S,_,h=>hw _ _ _ _ _ h
 | k::ks,p::ps,lo,hi,l,S,hr,⟨l1,S1,l2,S2,h1,h2,h3,h4⟩=>by
  subst h3 h4
  have a:=hw _ _ _ _ _ h1
  have b:=Fo_row hR hw ks ps _ _ _ _ (rising_tail hr).1 h2
  refine ⟨?_,fun x hx=>?_⟩
  ·rw [List.map_append]
   refine rising_join _ _ a.1 b.1 (fun i hi j hj=>?_)
   obtain ⟨x,hx,rfl⟩:=List.mem_map.1 hi
   obtain ⟨y,hy,rfl⟩:=List.mem_map.1 hj
   exact ltB_lt_le ((hR _ _ _ _ _ h1 x hx).2 k rfl) (Fo_lo hR ks ps k _ l2 S2 (rising_tail hr).1 (rising_tail hr).2 h2 y hy)
  ·rcases List.mem_append.1 hx with hx|hx
   ·exact a.2 x hx
   ·exact b.2 x hx
 | [],[],_,_,_,_,_,hf=>hf.elim
 | [],_::_::_,_,_,_,_,_,hf=>hf.elim
 | _::_,[],_,_,_,_,_,hf=>hf.elim
theorem Tr_row (s:Nat→Option Bs):∀ (h p:Nat) (lo:Bs) (hi:Option Bs) (l:List Pr) (S:List Nat),Tr s h p lo hi l S→rowP l
 | 0,p,lo,hi,l,S,⟨n,S',hp,hn,⟨e1,_,e2⟩,e3⟩=>by
  subst e1
  obtain ⟨_,_,a,b⟩:=right_leaf hp.rt rfl
  exact ⟨a,fun x hx=>(b x hx).2.2⟩
 | h+1,p,lo,hi,l,S,⟨n,S',hp,hn,⟨ks,ps,e1,hk,hf⟩,e3⟩=>by
  subst e1
  exact Fo_row (Tr_rng s h) (Tr_row s h) ks ps lo hi l S' (right_inner hp.rt rfl).2.2.1 hf
theorem big4 {s:Nat→Option Bs} {h:Nat} {n:Nd} {lo:Bs} {hi:Option Bs} {l:List Pr} {S:List Nat} (hn:Nt s h n lo hi l S) (hr:rightN n=true) (hs:¬ sizeN n≤256):4≤l.length:=by
 cases h with
 | zero =>
  obtain ⟨rfl,_,_⟩:=hn
  obtain ⟨_,_,_,v1⟩:=right_leaf hr rfl
  have v1:∀ p∈l,p.1≠[]∧p.1.length≤32∧p.2.length≤40:=v1
  have hs:¬ 2+(l.map weighP).sum≤256:=hs
  have:=sum_leC weighP 74 l (fun p hp=>by have:=v1 p hp; unfold weighP; omega)
  omega
 | succ h =>
  obtain ⟨ks,ps,rfl,_,hf⟩:=hn
  obtain ⟨_,_,_,v1,_⟩:=right_inner hr rfl
  have v1:∀ k∈ks,k≠[]∧k.length≤32:=v1
  have hs:¬ 4+(ks.map fun k=>3+k.length).sum≤256:=hs
  have:=sum_leC (fun k:Bs=>3+k.length) 35 ks (fun p hp=>by have:=v1 p hp; omega)
  have h1:=(Fo_cnt (c:=2 ^ h) (Tr_cnt s h) ks ps lo hi l S hf).1
  have h2:=Nat.two_pow_pos h
  have h3:(ks.length+1) * 1≤(ks.length+1) * 2 ^ h:=Nat.mul_le_mul_left _ h2
  omega
theorem Tr_low {o:Wo} (hP:o.P≤160) {h p:Nat} {lo:Bs} {hi:Option Bs} {l:List Pr} {S:List Nat} (ht:Tr o.s h p lo hi l S) (hnd:S.Nodup):h≤7∧S.length≤159:=by
 have h1:S.length≤159:=by
  have:=nodup_sub S ((List.range 160).erase 0) hnd (fun q hq=>by
   have:=has_lt (Fu.some (Tr_used o.s h p lo hi l S ht q hq))
   rw [List.mem_erase_of_ne (by omega)]
   exact List.mem_range.2 (by omega))
  rwa [List.length_erase_of_mem (by simp),List.length_range] at this
 refine ⟨?_,h1⟩
 have h2:=(Tr_cnt o.s h p lo hi l S ht).2.1
 rcases Nat.lt_or_ge h 8 with h3|h3
 ·omega
 ·have:2 ^ 8≤2 ^ h:=Nat.pow_le_pow_right (by omega) h3
  omega
theorem used_is {o:Wo} {S:List Nat} (hnd:S.Nodup) (hS:∀ k,o.has k=true↔k∈S):o.used=1+S.length:=by
 unfold Wo.used
 have h1:=nodup_sub S ((List.range o.P).filter o.has) hnd (fun q hq=>List.mem_filter.2 ⟨List.mem_range.2 (has_lt ((hS q).2 hq)).2,(hS q).2 hq⟩)
 have h2:=nodup_sub ((List.range o.P).filter o.has) S (List.nodup_range.filter _) (fun q hq=>(hS q).1 (List.mem_filter.1 hq).2)
 omega
end Go.Fx.Tryz
namespace Go.Fx.Tryz
open Go Go.Fx
set_option linter.unusedSimpArgs false
set_option linter.unusedVariables false
section
variable {x:Wx} {m:Mem}
theorem put_tree {lo0:Nat} (h:XR x m) (he:x.err=0) (hf:Fu x.o) {page:Nat} (hp:x.o.s page≠none) {n:Nd} {v:Value} (ht:TN lo0 m v n) (hr:rightN n=true) (hw:wtN n) {g:Nat} {lo:Bs} {hi:Option Bs} {l:List Pr} {U:List Nat} (hn:Nt x.o.s g n lo hi l U) (hpS:page∉U) (hnd:U.Nodup) :
  W (Call S tab 103 [x.v,.int .i64 (page:Int),v] m) fun r m' =>
   (¬ sizeN n≤256∧∃ x',XR x' m'∧Kin x x'∧x'.err=8∧Upd x.fp m m') ∨
   ∃ x' ps S',XR x' m'∧Kin x x'∧x'.err=0∧x'.rd=x.rd∧Fu x'.o∧RSl m.next encPt m' r ps ∧
    Pts x'.o.s (fun p lo hi l S=>∃ S0,Pn x'.o.s p n∧Nt x'.o.s g n lo hi l S0∧S=p::S0) g page lo hi ps l S'∧Stp x.o.s x'.o.s (page::U) S'∧S'.Nodup∧Upd x.fp m m':=by
 have hh:=Fu.some hp
 have hlt:=has_lt hh
 have hP:=h.wr.hP
 have hu20:=h.wr.hu
 have sub1:∀ b,b∈[x.o.pm,x.xb]→b∈x.fp:=fun b hb=>List.mem_cons.2 (.inr hb)
 have sub2:∀ b,b∈[x.xb]→b∈x.fp:=fun b hb=>List.mem_cons.2 (.inr (List.mem_cons.2 (.inr hb)))
 refine (xput h he (by omega) ht (wt_fit hr hw) hh hr (fun hs=>by
  obtain ⟨a1,a2,a3,a4,a5,_⟩:=Nt_split hn hr hw hs
  exact ⟨a1,a2,a3,a4,a5⟩)).mono fun r m' hc=>?_
 rcases hc with ⟨hs,hv,⟨c,hx⟩,hu⟩|⟨hs,hx,hu⟩|⟨hs,q,c1,c2,c3,y1,y2,y3,hv,hx,hu⟩
 ·have es:=Wo.s_write hh (encN n) c
  have hout:∀ k∈U,setS x.o.s page (some (encN n)) k=x.o.s k:=fun k hk=>by unfold setS; rw [if_neg (by rintro rfl; exact hpS hk)]
  refine .inr ⟨_,_,page::U,hx,Kin.o x ⟨rfl,rfl,rfl,rfl,rfl,rfl,rfl⟩,he,rfl,hf.write hh _ c,hv,.inl ⟨rfl,U,⟨?_,hr,hs⟩,?_,rfl⟩,?_,List.nodup_cons.2 ⟨hpS,hnd⟩,hu.mono fun b hb _=>sub1 b hb⟩
  ·rw [es]; unfold setS; rw [if_pos rfl]
  ·rw [es]; exact Nt_frame g hout hn
  ·rw [es]
   exact ⟨fun k hk _=>by unfold setS; rw [if_neg (by rintro rfl; simp at hk)],fun k hk=>.inl hk,fun k hk hk'=>absurd hk hk'⟩
 ·exact .inl ⟨hs,_,hx,⟨rfl,rfl,rfl,rfl,rfl,rfl,rfl,rfl,rfl,rfl⟩,rfl,hu.mono fun b hb _=>sub2 b hb⟩
 ·obtain ⟨_,a2,a3,a4,a5,a6,a7,a8,a9,la,lb,Sa,Sb,b1,b2,b3,b4⟩:=Nt_split hn hr hw hs
  have hq0:x.o.s q=none:=s_free y3
  have hpq:page≠q:=by rintro rfl; exact hp hq0
  have hqS:q∉U:=fun hm=>Nt_used hn q hm hq0
  have e1:=Wo.s_take hu20 hP y1 y2 y3 (zerosB 256) c1
  have f1:=hf.take hu20 hP y1 y2 y3 (zerosB 256) c1
  have hh1:Wo.has { x.o with u:=turnU x.o.u q,L:=upL x.o.L q (zerosB 256) c1 } page=true:=by
   apply Fu.some; rw [e1]; unfold setS; rw [if_neg hpq]; exact hp
  have e2:=Wo.s_write hh1 (encN (splitN n).1) c2
  have f2:=f1.write hh1 (encN (splitN n).1) c2
  have hh2:Wo.has { x.o with u:=turnU x.o.u q,L:=upL (upL x.o.L q (zerosB 256) c1) page (encN (splitN n).1) c2 } q=true:=by
   apply Fu.some; rw [e2]; unfold setS; rw [if_neg (fun e=>hpq e.symm),e1]; simp [setS]
  have e3:=Wo.s_write hh2 (encN (splitN n).2.1) c3
  have f3:=f2.write hh2 (encN (splitN n).2.1) c3
  rw [e2,e1] at e3
  have hout:∀ k,k≠page→k≠q→setS (setS (setS x.o.s q (some (zerosB 256))) page (some (encN (splitN n).1))) q (some (encN (splitN n).2.1)) k=x.o.s k:=fun k h1 h2=>by
   unfold setS; rw [if_neg h2,if_neg h1,if_neg h2]
  have hSk:∀ k∈U,setS (setS (setS x.o.s q (some (zerosB 256))) page (some (encN (splitN n).1))) q (some (encN (splitN n).2.1)) k=x.o.s k:=fun k hk=>hout k (by rintro rfl; exact hpS hk) (by rintro rfl; exact hqS hk)
  have hmem:∀ k,k∈page::(Sa++q::Sb)↔k=page∨k=q∨k∈U:=fun k=>by
   rw [b4]; simp only [List.mem_cons,List.mem_append]
   constructor
   ·rintro (h|h|h|h)<;>simp [h]
   ·rintro (h|h|h|h)<;>simp [h]
  refine .inr ⟨_,_,(page::Sa)++(q::Sb),hx,Kin.o x ⟨rfl,rfl,rfl,rfl,rfl,rfl,rfl⟩,he,rfl,f3,hv,.inr ⟨_,q,la,lb,page::Sa,q::Sb,rfl,a8,a9,Tr_iff.2 ⟨_,Sa,⟨?_,a2,a3⟩,a6,?_,rfl⟩,Tr_iff.2 ⟨_,Sb,⟨?_,a4,a5⟩,a7,?_,rfl⟩,b3,rfl,big4 hn hr hs⟩,?_,?_,hu⟩
  ·rw [e3]; unfold setS; rw [if_neg hpq,if_pos rfl]
  ·rw [e3]; exact Nt_frame g (fun k hk=>hSk k (by rw [b4]; exact List.mem_append.2 (.inl hk))) b1
  ·rw [e3]; unfold setS; rw [if_pos rfl]
  ·rw [e3]; exact Nt_frame g (fun k hk=>hSk k (by rw [b4]; exact List.mem_append.2 (.inr hk))) b2
  ·rw [e3]
   refine ⟨fun k h1 h2=>?_,fun k hk=>?_,fun k hk hk'=>?_⟩
   ·have:=mt (hmem k).2 h2
    exact hout k (fun e=>this (.inl e)) (fun e=>this (.inr (.inl e)))
   ·rcases (hmem k).1 hk with h|h|h
    ·exact .inl (by simp [h])
    ·exact .inr (by rw [h]; exact hq0)
    ·exact .inl (by simp [h])
   ·exfalso
    apply hk'
    refine (hmem k).2 ?_
    rcases List.mem_cons.1 hk with h|h
    ·exact .inl h
    ·exact .inr (.inr h)
  ·rw [b4] at hnd hpS hqS
   rw [List.nodup_append] at hnd
   obtain ⟨n1,n2,n3⟩:=hnd
   simp only [List.mem_append,not_or] at hpS hqS
   rw [List.cons_append,List.nodup_cons,List.nodup_append,List.nodup_cons]
   refine ⟨?_,n1,⟨hqS.2,n2⟩,fun a ha b hb=>?_⟩
   ·simp only [List.mem_append,List.mem_cons,not_or]
    exact ⟨hpS.1,hpq,hpS.2⟩
   ·rcases List.mem_cons.1 hb with rfl|hb
    ·rintro rfl; exact hqS.1 ha
    ·exact n3 a ha b hb
end
end Go.Fx.Tryz
namespace Go.Fx.Tryz
open Go Go.Fx
set_option linter.unusedSimpArgs false
set_option linter.unusedVariables false
theorem child_spec (key:Bs):∀ ks:List Bs,risingK ks=true→(∀ k∈ks.take (childN ks key),ltB key k=false)∧(∀ k∈ks.drop (childN ks key),ltB key k=true)∧childN ks key≤ks.length
 | [],_=>⟨by simp,by simp,by simp [childN]⟩
 | k::ks,h=>by
  obtain ⟨a,b,c⟩:=child_spec key ks (rising_tail h).1
  rw [child_cons h]
  cases hk:ltB key k with
  | true =>
   refine ⟨by simp,fun j hj=>?_,by simp⟩
   rcases List.mem_cons.1 hj with rfl|hj
   ·exact hk
   ·exact ltB_trans hk ((rising_tail h).2 j hj)
  | false =>
   simp only [Bool.false_eq_true,if_false,List.take_succ_cons,List.drop_succ_cons,List.length_cons]
   refine ⟨fun j hj=>?_,b,by omega⟩
   rcases List.mem_cons.1 hj with rfl|hj
   ·exact hk
   ·exact a j hj
theorem Fo_key {R:TP} (hR:Rng R) {key lo:Bs} {hi:Option Bs} {ks:List Bs} {ps:List Nat} {l:List Pr} {S:List Nat} (hf:Fo R lo hi ks ps l S) (hr:risingK ks=true) (hk:∀ k∈ks,inK lo hi k) (hkey:inR lo hi key) :
  ∃ p lo' hi' l0 l1 l2 S0 S1 S2,ps=ps.take (childN ks key)++p::ps.drop (childN ks key+1)∧FL R lo (ks.take (childN ks key)) (ps.take (childN ks key)) lo' l0 S0∧R p lo' hi' l1 S1 ∧
   FR R hi' hi (ks.drop (childN ks key)) (ps.drop (childN ks key+1)) l2 S2∧l=l0++(l1++l2)∧S=S0++(S1++S2)∧inR lo' hi' key∧(∀ x∈l0,ltB x.1 key=true)∧(∀ x∈l2,ltB key x.1=true):=by
 obtain ⟨c1,c2,c3⟩:=child_spec key ks hr
 obtain ⟨p,lo',hi',l0,l1,l2,S0,S1,S2,e1,e2,e3,e4,e5,e6⟩:=Fo_at _ ks ps lo l S hf c3
 have hlo:=FL_lo _ _ _ _ _ _ e2 (rising_take _ _ hr) (fun k hk'=>(hk k (List.mem_of_mem_take hk')).1)
 have h1:ltB key lo'=false:=by
  rcases hlo.1 with h|h
  ·rw [h]; exact hkey.1
  ·exact c1 lo' h
 refine ⟨p,lo',hi',l0,l1,l2,S0,S1,S2,e1,e2,e3,e4,e5,e6,⟨h1,fun e he=>?_⟩,fun x hx=>ltB_lt_le (FL_lt hR _ _ _ _ _ _ e2 (rising_take _ _ hr) x hx) h1,fun x hx=>?_⟩
 ·generalize ks.drop (childN ks key)=kb at e4 c2
  cases kb with
  | nil=>exact hkey.2 e (e4.2.1.symm.trans he)
  | cons k kb=>have:=e4.1.symm.trans he; cases this; exact c2 e (by simp)
 ·obtain ⟨e,he,hx'⟩:=FR_ge hR e4 (rising_drop _ _ hr) x hx
  refine ltB_lt_le ?_ hx'
  generalize ks.drop (childN ks key)=kb at e4 c2
  cases kb with
  | nil=>rw [e4.2.2.1] at hx; simp at hx
  | cons k kb=>have:=e4.1.symm.trans he; cases this; exact c2 e (by simp)
theorem with1 {ks:List Bs} {ps:List Nat} {c p:Nat} (h:ps=ps.take c++p::ps.drop (c+1)) (hc:c≤ks.length) (hl:ps.length=ks.length+1):withN (Nd.nd ks ps) c [([],p)]=Nd.nd ks ps:=by
 rw [withN_eq (Nd.nd ks ps) c _ (by show c<ps.length; omega) hl]
 show Nd.nd (ks.take c++([]++ks.drop c)) (ps.take c++([p]++ps.drop (c+1)))=_
 rw [List.nil_append,List.take_append_drop,List.singleton_append,← h]
theorem with2 {ks:List Bs} {ps:List Nat} {c p q:Nat} {k:Bs} (hc:c≤ks.length) (hl:ps.length=ks.length+1):withN (Nd.nd ks ps) c [([],p),(k,q)]=Nd.nd (ks.take c++k::ks.drop c) (ps.take c++p::q::ps.drop (c+1)):=by
 rw [withN_eq (Nd.nd ks ps) c _ (by show c<ps.length; omega) hl]
 rfl
theorem sum_mid (f:Bs→Nat) (a:List Bs) (k:Bs) (b:List Bs):((a++k::b).map f).sum=((a++b).map f).sum+f k:=by
 simp only [List.map_append,List.map_cons,List.sum_append,List.sum_cons]; omega
theorem two_inner {s':Nat→Option Bs} {h:Nat} {lo lo' k:Bs} {hi hi':Option Bs} {ka kb:List Bs} {pa pb:List Nat} {p q p0:Nat} {l0 la lb l2:List Pr} {S0 Sa Sb S2:List Nat} (hr:rightN (Nd.nd (ka++kb) (pa++p0::pb))=true) (hw:((ka++kb).map fun k=>3+k.length).sum≤252)
  (hk:∀ j∈ka++kb,inK lo hi j) (hs:∀ q,s' q≠none→1≤q∧q≤65535) (h0:FL (Tr s' h) lo ka pa lo' l0 S0) (h2:FR (Tr s' h) hi' hi kb pb l2 S2) (hkk:inK lo' hi' k) (h32:k≠[]∧k.length≤32) (ha:Tr s' h p lo' (some k) la Sa) (hb:Tr s' h q k hi' lb Sb) :
  Nt s' (h+1) (Nd.nd (ka++k::kb) (pa++p::q::pb)) lo hi (l0++((la++lb)++l2)) (S0++((Sa++Sb)++S2))∧rightN (Nd.nd (ka++k::kb) (pa++p::q::pb))=true∧wtN (Nd.nd (ka++k::kb) (pa++p::q::pb))∧neN (Nd.nd (ka++k::kb) (pa++p::q::pb)):=by
 obtain ⟨_,i1,r1,v1,p1⟩:=right_inner hr rfl
 have i1:(pa++p0::pb).length=(ka++kb).length+1:=i1
 have r1:risingK (ka++kb)=true:=r1
 have p1:∀ k∈pa++p0::pb,1≤k∧k≤65535:=p1
 obtain ⟨m1,m2⟩:=key_mid h0 h2 r1 hk hkk h32
 have f:=Fo_of (R:=Tr s' h) (hi:=hi) (kb:=kb) (pb:=pb) [] [] k k [] [] ⟨rfl,rfl,rfl⟩ hb h2
 have f2:FR (Tr s' h) (some k) hi (k::kb) (q::pb) (lb++l2) (Sb++S2):=⟨rfl,f⟩
 have f3:=Fo_of (R:=Tr s' h) ka pa lo lo' l0 S0 h0 ha f2
 rw [← List.append_assoc la,← List.append_assoc Sa] at f3
 have mp:∀ p lo hi l S,Tr s' h p lo hi l S→1≤p∧p≤65535:=fun p lo hi l S ht=>by
  obtain ⟨n,S',hp,_⟩:=Tr_iff.1 ht
  exact hs p (by rw [hp.pg]; simp)
 refine ⟨⟨_,_,rfl,fun j hj=>?_,f3⟩,rightN_nd ?_ m1 (fun j hj=>?_),?_,by simp [neN,Nd.nd]⟩
 ·rcases List.mem_append.1 hj with hj|hj
  ·exact hk j (by simp [hj])
  ·rcases List.mem_cons.1 hj with rfl|hj
   ·exact m2
   ·exact hk j (by simp [hj])
 ·simp only [List.length_append,List.length_cons] at i1 ⊢; omega
 ·rcases List.mem_append.1 hj with hj|hj
  ·exact p1 j (by simp [hj])
  ·rcases List.mem_cons.1 hj with rfl|hj
   ·exact mp _ _ _ _ _ ha
   ·rcases List.mem_cons.1 hj with rfl|hj
    ·exact mp _ _ _ _ _ hb
    ·exact p1 j (by simp [hj])
 ·show ((ka++k::kb).map fun k=>3+k.length).sum≤430
  rw [sum_mid]; omega
end Go.Fx.Tryz
