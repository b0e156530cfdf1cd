/- Parts of a proof: TreeW, TreeXb, TreeXa, TreeX, TreeY, TreeZ. Conditions: none. -/
import Derived.Test.YtnngjdfadfblmaaGreatDoorQt19
set_option linter.unusedSimpArgs false
set_option linter.unusedVariables false
namespace Go.Fx.Tryz
open Go Go.Fx
theorem jB:∀ (a b:List Bs),qH a=true→qH b=true→(∀ i∈a,∀ j∈b,ltB i j=true)→qH (a++b)=true
 | [],b,_,hb,_=>hb
 | k::a,b,ha,hb,h=>by
  refine vt (vr ha) (jB a b (qL ha).1 hb (fun i hi j hj=>h i (by simp [hi]) j hj)) (fun j hj=>?_)
  rcases List.mem_append.1 hj with hj|hj
  ·exact (qL ha).2 j hj
  ·exact h k (by simp) j hj
theorem kN:∀ (a:List Bs) (k:Bs) (b:List Bs),qH (a++k::b)=true→(∀ j∈a,ltB j k=true)∧(∀ j∈b,ltB k j=true)∧qH a=true∧qH b=true∧k≠[]∧k.length≤32
 | [],k,b,h=>⟨by simp,(qL h).2,rfl,(qL h).1,vr h⟩
 | i::a,k,b,h=>by
  obtain ⟨h1,h2,h3,h4,h5⟩:=kN a k b (qL h).1
  refine ⟨fun j hj=>?_,h2,vt (vr h) h3 (fun j hj=>(qL h).2 j (by simp [hj])),h4,h5⟩
  rcases List.mem_cons.1 hj with rfl|hj
  ·exact (qL h).2 k (by simp)
  ·exact h1 j hj
theorem yD {a:List Bs} {k:Bs} {b:List Bs} (ha:qH a=true) (hb:qH b=true) (hk:k≠[]∧k.length≤32) (h1:∀ j∈a,ltB j k=true) (h2:∀ j∈b,ltB k j=true):qH (a++k::b)=true :=
 jB a (k::b) ha (vt hk hb h2) (fun i hi j hj=>by
  rcases List.mem_cons.1 hj with rfl|hj
  ·exact h1 i hi
  ·exact xj (h1 i hi) (h2 j hj))
abbrev rowP (l:List Pr):Prop:=qH (l.map (·.1))=true∧∀ p∈l,p.2.length≤40
theorem QN (key:Bs):∀ l:List Pr,qH (l.map (·.1))=true→∃ A B C,l=A++(B++C)∧(∀ x∈A,ltB x.1 key=true)∧(∀ x∈C,ltB key x.1=true)∧(B=[]∨∃ v,B=[(key,v)])
 | [],_=>⟨[],[],[],rfl,by simp,by simp,.inl rfl⟩
 | x::l,h=>by
  rw [List.map_cons] at h
  have ht:=(qL h).2
  cases h1:ltB x.1 key with
  | true =>
   obtain ⟨A,B,C,e,a,b,c⟩:=QN key l (qL h).1
   refine ⟨x::A,B,C,by rw [e]; rfl,fun y hy=>?_,b,c⟩
   rcases List.mem_cons.1 hy with rfl|hy
   ·exact h1
   ·exact a y hy
  | false =>
   have hl:∀ y∈l,ltB key y.1=true:=fun y hy=>vK h1 (ht y.1 (List.mem_map_of_mem hy))
   cases h2:ltB key x.1 with
   | true =>
    refine ⟨[],[],x::l,rfl,by simp,fun y hy=>?_,.inl rfl⟩
    rcases List.mem_cons.1 hy with rfl|hy
    ·exact h2
    ·exact hl y hy
   | false =>
    have:=KN h1 h2
    exact ⟨[],[x],l,rfl,by simp,hl,.inr ⟨x.2,by rw [← this]⟩⟩
theorem QP (key v:Bs):zb [(key,v)] key=0:=by simp [zb,vu]
theorem Jz (key v:Bs):zo [(key,v)] key=true:=by simp [zo,QP]
theorem qcw {key val:Bs} {A B C:List Pr} (hA:∀ x∈A,ltB x.1 key=true) (hC:∀ x∈C,ltB key x.1=true) (hB:B=[]∨∃ v,B=[(key,v)]):xO (A++(B++C)) key val=A++(key,val)::C:=by
 rw [HQ hA (fun x hx=>⟨xd (hC x hx),(XB (hC x hx)).symm⟩)]
 rcases hB with rfl|⟨v,rfl⟩
 ·rfl
 ·simp [xO,xA,Jz,QP]
theorem qdr {key:Bs} {A B C:List Pr} (hA:∀ x∈A,ltB x.1 key=true) (hC:∀ x∈C,ltB key x.1=true) (hB:B=[]∨∃ v,B=[(key,v)]):xA (A++(B++C)) key=A++C:=by
 rw [Vf hA (fun x hx=>⟨xd (hC x hx),(XB (hC x hx)).symm⟩)]
 rcases hB with rfl|⟨v,rfl⟩
 ·rfl
 ·simp [xA,Jz,QP]
theorem Wn {l:List Pr} {key val:Bs} (h:rowP l) (hk:key≠[]∧key.length≤32) (hv:val.length≤40):rowP (xO l key val)∧(∀ x∈xO l key val,x∈l∨x=(key,val))∧((xO l key val).map qK).sum≤(l.map qK).sum+74∧xO l key val≠[]:=by
 obtain ⟨A,B,C,e,a,b,c⟩:=QN key l h.1
 rw [e,qcw a b c]
 obtain ⟨h1,h2⟩:=h
 rw [e] at h1 h2
 simp only [List.map_append] at h1
 have hA:qH (A.map (·.1))=true:=by
  have:=xJ _ A.length h1
  rwa [List.take_left' (by simp)] at this
 have hC:qH (C.map (·.1))=true:=by
  have:=xK _ (A.length+B.length) h1
  rwa [← List.append_assoc,List.drop_left' (by simp)] at this
 refine ⟨⟨?_,fun p hp=>?_⟩,fun x hx=>?_,?_,by simp⟩
 ·rw [List.map_append,List.map_cons]
  refine yD hA hC hk (fun j hj=>?_) (fun j hj=>?_)
  ·obtain ⟨x,hx,rfl⟩:=List.mem_map.1 hj; exact a x hx
  ·obtain ⟨x,hx,rfl⟩:=List.mem_map.1 hj; exact b x hx
 ·rcases List.mem_append.1 hp with hp|hp
  ·exact h2 p (by simp [hp])
  ·rcases List.mem_cons.1 hp with rfl|hp
   ·exact hv
   ·exact h2 p (by simp [hp])
 ·rcases List.mem_append.1 hx with hx|hx
  ·exact .inl (by simp [hx])
  ·rcases List.mem_cons.1 hx with rfl|hx
   ·exact .inr rfl
   ·exact .inl (by simp [hx])
 ·have:qK (key,val)≤74:=by show 2+key.length+val.length≤74; omega
  simp only [List.map_append,List.map_cons,List.sum_append,List.sum_cons]
  omega
theorem qdt {l:List Pr} {key:Bs} (h:rowP l):rowP (xA l key)∧(∀ x∈xA l key,x∈l)∧((xA l key).map qK).sum≤(l.map qK).sum∧(xA l key).length≤l.length:=by
 obtain ⟨A,B,C,e,a,b,c⟩:=QN key l h.1
 rw [e,qdr a b c]
 obtain ⟨h1,h2⟩:=h
 rw [e] at h1 h2
 simp only [List.map_append] at h1
 have hA:qH (A.map (·.1))=true:=by
  have:=xJ _ A.length h1
  rwa [List.take_left' (by simp)] at this
 have hC:qH (C.map (·.1))=true:=by
  have:=xK _ (A.length+B.length) h1
  rwa [← List.append_assoc,List.drop_left' (by simp)] at this
 have hm:∀ x∈A++C,x∈A++(B++C):=fun x hx=>by
  rcases List.mem_append.1 hx with hx|hx<;>simp [hx]
 refine ⟨⟨?_,fun p hp=>h2 p (hm p hp)⟩,hm,?_,by simp only [List.length_append]; omega⟩
 ·rw [List.map_append]
  refine jB _ _ hA hC (fun i hi j hj=>?_)
  obtain ⟨x,hx,rfl⟩:=List.mem_map.1 hi
  obtain ⟨y,hy,rfl⟩:=List.mem_map.1 hj
  exact xj (a x hx) (b y hy)
 ·simp only [List.map_append,List.sum_append]; omega
def FL (R:TP):Bs→List Bs→List Nat→Bs→List Pr→List Nat→Prop
 | lo,[],[],lo',l,S=>lo'=lo∧l=[]∧S=[]
 | lo,k::ks,p::ps,lo',l,S=>∃ l1 S1 l2 S2,R p lo (some k) l1 S1∧FL R k ks ps lo' l2 S2∧l=l1++l2∧S=S1++S2
 | _,_,_,_,_,_=>False
def FR (R:TP) (hi' hi:Option Bs) (ks:List Bs) (ps:List Nat) (l:List Pr) (S:List Nat):Prop :=
 match ks with
 | []=>ps=[]∧hi'=hi∧l=[]∧S=[]
 | k::ks=>hi'=some k∧Fo R k hi ks ps l S
theorem Hy {R:TP}:∀ (ka:List Bs) (pa:List Nat) (lo lo':Bs) (l:List Pr) (S:List Nat),FL R lo ka pa lo' l S→pa.length=ka.length
 | [],[],_,_,_,_,_=>rfl
 | k::ka,p::pa,_,_,_,_,⟨_,_,_,_,_,h,_,_⟩=>by simp [Hy ka pa _ _ _ _ h]
 | [],_::_,_,_,_,_,h=>h.elim
 | _::_,[],_,_,_,_,h=>h.elim
theorem XY {R:TP} {hi hi':Option Bs} {p:Nat} {l1 l2:List Pr} {S1 S2:List Nat} {kb:List Bs} {pb:List Nat}:∀ (ka:List Bs) (pa:List Nat) (lo lo':Bs) (l0:List Pr) (S0:List Nat),FL R lo ka pa lo' l0 S0→R p lo' hi' l1 S1→FR R hi' hi kb pb l2 S2→Fo R lo hi (ka++kb) (pa++p::pb) (l0++(l1++l2)) (S0++(S1++S2))
 | [],[],lo,lo',l0,S0,⟨e1,e2,e3⟩,h2,h3=>by
  subst e1 e2 e3
  cases kb with
  | nil=>obtain ⟨rfl,rfl,rfl,rfl⟩:=h3; simpa [Fo] using h2
  | cons k kb=>obtain ⟨rfl,h3⟩:=h3; exact ⟨l1,S1,l2,S2,h2,h3,rfl,rfl⟩
 | k::ka,q::pa,lo,lo',l0,S0,⟨m1,T1,m2,T2,a1,a2,a3,a4⟩,h2,h3=>by
  subst a3 a4
  exact ⟨m1,T1,_,_,a1,XY ka pa k lo' m2 T2 a2 h2 h3,by simp,by simp⟩
 | [],_::_,_,_,_,_,h,_,_=>h.elim
 | _::_,[],_,_,_,_,h,_,_=>h.elim
theorem qaJ {R:TP} {hi:Option Bs}:∀ (c:Nat) (ks:List Bs) (ps:List Nat) (lo:Bs) (l:List Pr) (S:List Nat),Fo R lo hi ks ps l S→c≤ks.length →
  ∃ p lo' hi' l0 l1 l2 S0 S1 S2,ps=ps.take c++p::ps.drop (c+1)∧FL R lo (ks.take c) (ps.take c) lo' l0 S0∧R p lo' hi' l1 S1∧FR R hi' hi (ks.drop c) (ps.drop (c+1)) l2 S2∧l=l0++(l1++l2)∧S=S0++(S1++S2)
 | 0,[],[p],lo,l,S,h,_=>⟨p,lo,hi,[],l,[],[],S,[],rfl,⟨rfl,rfl,rfl⟩,h,⟨rfl,rfl,rfl,rfl⟩,by simp,by simp⟩
 | 0,k::ks,p::ps,lo,l,S,⟨l1,S1,l2,S2,h1,h2,h3,h4⟩,_=>⟨p,lo,some k,[],l1,l2,[],S1,S2,rfl,⟨rfl,rfl,rfl⟩,h1,⟨rfl,h2⟩,h3,h4⟩
 | c+1,k::ks,p::ps,lo,l,S,⟨l1,S1,l2,S2,h1,h2,h3,h4⟩,hc=>by
  obtain ⟨q,lo',hi',m0,m1,m2,T0,T1,T2,e1,e2,e3,e4,e5,e6⟩:=qaJ c ks ps k l2 S2 h2 (by simpa using hc)
  subst h3 h4 e5 e6
  exact ⟨q,lo',hi',l1++m0,m1,m2,S1++T0,T1,T2,by rw [List.take_succ_cons,List.drop_succ_cons,List.cons_append,← e1],⟨l1,S1,m0,T0,h1,e2,rfl,rfl⟩,e3,e4,by simp,by simp⟩
 | c+1,[],_,_,_,_,_,hc=>by simp at hc
 | 0,[],[],_,_,_,h,_=>h.elim
 | 0,[],_::_::_,_,_,_,h,_=>h.elim
 | _,_::_,[],_,_,_,h,_=>h.elim
theorem qaK {R:TP} {k:Bs} {p:Nat}:∀ (ka:List Bs) (pa:List Nat) (lo lo':Bs) (l:List Pr) (S:List Nat),FL R lo (ka++[k]) (pa++[p]) lo' l S→lo'=k∧∃ lo1 l1 l2 S1 S2,FL R lo ka pa lo1 l1 S1∧R p lo1 (some k) l2 S2∧l=l1++l2∧S=S1++S2
 | [],[],lo,lo',l,S,⟨l1,S1,l2,S2,h1,⟨h2,h3,h4⟩,h5,h6⟩=>by
  subst h2 h3 h4 h5 h6
  exact ⟨rfl,lo,[],l1,[],S1,⟨rfl,rfl,rfl⟩,h1,by simp,by simp⟩
 | j::ka,q::pa,lo,lo',l,S,⟨l1,S1,l2,S2,h1,h2,h3,h4⟩=>by
  obtain ⟨e,lo1,m1,m2,T1,T2,a1,a2,a3,a4⟩:=qaK ka pa j lo' l2 S2 h2
  subst a3 a4 h3 h4
  exact ⟨e,lo1,l1++m1,m2,S1++T1,T2,⟨l1,S1,m1,T1,h1,a1,rfl,rfl⟩,a2,by simp,by simp⟩
 | [],q::pa,lo,lo',l,S,h=>by
  have:=Hy _ _ _ _ _ _ h
  simp at this
 | j::ka,[],lo,lo',l,S,h=>by
  have:=Hy _ _ _ _ _ _ h
  simp at this
theorem QA {R R':TP}:∀ (ka:List Bs) (pa:List Nat) (lo lo':Bs) (l:List Pr) (S:List Nat),(∀ p lo hi l T,(∀ q∈T,q∈S)→R p lo hi l T→R' p lo hi l T)→FL R lo ka pa lo' l S→FL R' lo ka pa lo' l S
 | [],[],_,_,_,_,_,h=>h
 | k::ka,p::pa,lo,lo',l,S,hm,⟨l1,S1,l2,S2,h1,h2,h3,h4⟩=>by
  subst h4
  exact ⟨l1,S1,l2,S2,hm _ _ _ _ _ (fun q hq=>List.mem_append.2 (.inl hq)) h1,QA ka pa _ _ _ _ (fun p lo hi l T hT hr=>hm p lo hi l T (fun q hq=>List.mem_append.2 (.inr (hT q hq))) hr) h2,h3,rfl⟩
 | [],_::_,_,_,_,_,_,h=>h.elim
 | _::_,[],_,_,_,_,_,h=>h.elim
theorem ZL {R R':TP} {hi' hi:Option Bs} {ks:List Bs} {ps:List Nat} {l:List Pr} {S:List Nat} (hm:∀ p lo hi l T,(∀ q∈T,q∈S)→R p lo hi l T→R' p lo hi l T) (h:FR R hi' hi ks ps l S):FR R' hi' hi ks ps l S:=by
 cases ks with
 | nil=>exact h
 | cons k ks=>exact ⟨h.1,VD ks ps _ _ _ _ hm h.2⟩
theorem Yn {R:TP}:∀ (ka:List Bs) (pa:List Nat) (lo lo':Bs) (l:List Pr) (S:List Nat),FL R lo ka pa lo' l S→qH ka=true→(∀ k∈ka,ltB lo k=true)→(lo'=lo∨lo'∈ka)∧ltB lo' lo=false∧∀ j∈ka,ltB lo' j=false
 | [],[],lo,lo',l,S,⟨e,_,_⟩,_,_=>by subst e; exact ⟨.inl rfl,vu _,by simp⟩
 | k::ka,p::pa,lo,lo',l,S,⟨_,_,_,_,_,h2,_,_⟩,hr,hk=>by
  obtain ⟨a,b,c⟩:=Yn ka pa k lo' _ _ h2 (qL hr).1 (qL hr).2
  refine ⟨.inr ?_,xd (xk (hk k (by simp)) b),fun j hj=>?_⟩
  ·rcases a with rfl|a
   ·simp
   ·exact List.mem_cons_of_mem _ a
  ·rcases List.mem_cons.1 hj with rfl|hj
   ·exact b
   ·exact c j hj
 | [],_::_,_,_,_,_,h,_,_=>h.elim
 | _::_,[],_,_,_,_,h,_,_=>h.elim
theorem qgu {R:TP} (hR:Rng R):∀ (ka:List Bs) (pa:List Nat) (lo lo':Bs) (l:List Pr) (S:List Nat),FL R lo ka pa lo' l S→qH ka=true→∀ x∈l,ltB x.1 lo'=true
 | [],[],lo,lo',l,S,⟨_,e,_⟩,_=>by subst e; simp
 | k::ka,p::pa,lo,lo',l,S,⟨l1,S1,l2,S2,h1,h2,h3,h4⟩,hr=>fun x hx=>by
  subst h3
  rcases List.mem_append.1 hx with hx|hx
  ·exact xk ((hR _ _ _ _ _ h1 x hx).2 k rfl) (Yn ka pa k lo' _ _ h2 (qL hr).1 (qL hr).2).2.1
  ·exact qgu hR ka pa k lo' l2 S2 h2 (qL hr).1 x hx
 | [],_::_,_,_,_,_,h,_=>h.elim
 | _::_,[],_,_,_,_,h,_=>h.elim
theorem qiM {R:TP} (hR:Rng R) {hi' hi:Option Bs} {ks:List Bs} {ps:List Nat} {l:List Pr} {S:List Nat} (h:FR R hi' hi ks ps l S) (hr:qH ks=true):∀ x∈l,∃ e,hi'=some e∧ltB x.1 e=false:=by
 cases ks with
 | nil=>rw [h.2.2.1]; simp
 | cons k ks=>exact fun x hx=>⟨k,h.1,qdW hR ks ps k hi l S (qL hr).1 (qL hr).2 h.2 x hx⟩
theorem qiL {R:TP} {hi' hi:Option Bs} {ks:List Bs} {ps:List Nat} {l:List Pr} {S:List Nat} (h:FR R hi' hi ks ps l S) (hk:∀ k∈ks,∀ e,hi=some e→ltB k e=true):∀ e,hi=some e→∃ e',hi'=some e'∧ltB e e'=false:=by
 cases ks with
 | nil=>intro e he; exact ⟨e,h.2.1.trans he,vu e⟩
 | cons k ks=>intro e he; exact ⟨k,h.1,xd (hk k (by simp) e he)⟩
theorem qeH {R:TP} {lo lo':Bs} {hi hi':Option Bs} {ka kb:List Bs} {pa pb:List Nat} {l0 l2:List Pr} {S0 S2:List Nat} {k:Bs} (h0:FL R lo ka pa lo' l0 S0) (h2:FR R hi' hi kb pb l2 S2) (hr:qH (ka++kb)=true) (hk:∀ j∈ka++kb,inK lo hi j) (hkk:inK lo' hi' k) (h32:k≠[]∧k.length≤32) :
  qH (ka++k::kb)=true∧inK lo hi k:=by
 have hra:qH ka=true:=by have:=xJ _ ka.length hr; rwa [List.take_left' rfl] at this
 have hrb:qH kb=true:=by have:=xK _ ka.length hr; rwa [List.drop_left' rfl] at this
 obtain ⟨a,b,c⟩:=Yn ka pa lo lo' l0 S0 h0 hra (fun j hj=>(hk j (by simp [hj])).1)
 refine ⟨yD hra hrb h32 (fun j hj=>vK (c j hj) hkk.1) (fun j hj=>?_),vK b hkk.1,fun e he=>?_⟩
 ·cases kb with
  | nil=>simp at hj
  | cons i kb =>
   have:=hkk.2 i h2.1
   rcases List.mem_cons.1 hj with rfl|hj
   ·exact this
   ·exact xj this ((qL hrb).2 j hj)
 ·obtain ⟨e',h3,h4⟩:=qiL h2 (fun k hk' e he=>(hk k (by simp [hk'])).2 e he) e he
  exact xk (hkk.2 e' h3) h4
theorem qaI {R:TP} {key:Bs} {hi:Option Bs} {kb:List Bs} {pb:List Nat} {lb:List Pr} {Sb:List Nat} (hb:Fo R key hi kb pb lb Sb):∀ (ka:List Bs) (pa:List Nat) (lo:Bs) (la:List Pr) (Sa:List Nat),Fo R lo (some key) ka pa la Sa→Fo R lo hi (ka++([key]++kb)) (pa++pb) (la++lb) (Sa++Sb)
 | [],[p],lo,la,Sa,h=>⟨la,Sa,lb,Sb,h,hb,rfl,rfl⟩
 | k::ka,p::pa,lo,la,Sa,⟨l1,S1,l2,S2,h1,h2,h3,h4⟩=>by
  subst h3 h4
  exact ⟨l1,S1,_,_,h1,qaI hb ka pa k l2 S2 h2,by simp,by simp⟩
 | [],[],_,_,_,h=>h.elim
 | [],_::_::_,_,_,_,h=>h.elim
 | _::_,[],_,_,_,h=>h.elim
theorem qfl {s:Nat→Option Bs} {h:Nat} {a b:Nd} {lo key:Bs} {hi:Option Bs} {la lb:List Pr} {Sa Sb:List Nat} (ha:Nt s h a lo (some key) la Sa) (hb:Nt s h b key hi lb Sb) (hra:qO a=true) (hrb:qO b=true) (hk:inK lo hi key) (h32:key≠[]∧key.length≤32) :
  Nt s h (qU a b key) lo hi (la++lb) (Sa++Sb)∧qO (qU a b key)=true∧(neN a∨neN b→neN (qU a b key)):=by
 have xa:=qdU hra ha
 have xb:=qdU hrb hb
 cases h with
 | zero =>
  obtain ⟨rfl,h1,rfl⟩:=ha
  obtain ⟨rfl,h2,rfl⟩:=hb
  have e:qU (Nd.lf la) (Nd.lf lb) key=Nd.lf (la++lb):=rfl
  obtain ⟨_,_,r1,v1⟩:=xF hra rfl
  obtain ⟨_,_,r2,v2⟩:=xF hrb rfl
  rw [e]
  refine ⟨⟨rfl,fun x hx=>?_,rfl⟩,kT ?_ (fun p hp=>?_),fun hn=>?_⟩
  ·rcases List.mem_append.1 hx with hx|hx
   ·have:=h1 x hx
    exact ⟨this.1,fun e he=>xj (this.2 key rfl) (hk.2 e he)⟩
   ·have:=h2 x hx
    exact ⟨xd (xk hk.1 this.1),this.2⟩
  ·rw [List.map_append]
   refine jB _ _ r1 r2 (fun i hi j hj=>?_)
   obtain ⟨x,hx,rfl⟩:=List.mem_map.1 hi
   obtain ⟨y,hy,rfl⟩:=List.mem_map.1 hj
   exact xk ((h1 x hx).2 key rfl) (h2 y hy).1
  ·rcases List.mem_append.1 hp with hp|hp
   ·exact (v1 p hp).2.2
   ·exact (v2 p hp).2.2
  ·simp only [neN,Nd.lf,if_true] at hn ⊢
   exact fun e=>hn.elim (fun h=>h (List.append_eq_nil_iff.1 e).1) (fun h=>h (List.append_eq_nil_iff.1 e).2)
 | succ h =>
  obtain ⟨ka,pa,rfl,h1,f1⟩:=ha
  obtain ⟨kb,pb,rfl,h2,f2⟩:=hb
  obtain ⟨_,i1,r1,_,p1⟩:=zd hra rfl
  obtain ⟨_,i2,r2,_,p2⟩:=zd hrb rfl
  have i1:pa.length=ka.length+1:=i1
  have i2:pb.length=kb.length+1:=i2
  have e:qU (Nd.nd ka pa) (Nd.nd kb pb) key=Nd.nd (ka++([key]++kb)) (pa++pb):=rfl
  rw [e]
  refine ⟨⟨_,_,rfl,fun k hk'=>?_,qaI f2 ka pa lo la Sa f1⟩,kS ?_ (yD r1 r2 h32 (fun j hj=>(h1 j hj).2 key rfl) (fun j hj=>(h2 j hj).1)) (fun k hk'=>?_),fun hn=>by simp [neN,Nd.nd]⟩
  ·rcases List.mem_append.1 hk' with hk'|hk'
   ·exact ⟨(h1 k hk').1,fun e he=>xj ((h1 k hk').2 key rfl) (hk.2 e he)⟩
   ·rcases List.mem_cons.1 hk' with rfl|hk'
    ·exact hk
    ·exact ⟨xj hk.1 (h2 k hk').1,(h2 k hk').2⟩
  ·simp only [List.length_append,List.length_cons,List.length_nil]; omega
  ·rcases List.mem_append.1 hk' with hk'|hk'
   ·exact p1 k hk'
   ·exact p2 k hk'
def wtN (n:Nd):Prop:=if n.leaf then (n.pairs.map qK).sum≤344 else (n.keys.map fun k=>3+k.length).sum≤430
theorem Kg {α:Type} (f:α→Nat) (h:∀ a,1≤f a):∀ l:List α,l.length≤(l.map f).sum
 | []=>by simp
 | a::l=>by have:=Kg f h l; have:=h a; simp only [List.map_cons,List.sum_cons,List.length_cons]; omega
theorem QB {n:Nd} (h:qO n=true) (hw:wtN n):n.Fit:=by
 unfold wtN at hw
 cases hl:n.leaf with
 | true =>
  rw [hl,if_pos rfl] at hw
  have:=Kg qK (fun p=>by unfold qK; omega) n.pairs
  have:=(xF h hl).1
  exact vU h (by omega) (by rw [this]; simp)
 | false =>
  rw [hl,if_neg (by simp)] at hw
  have:=Kg (fun k:Bs=>3+k.length) (fun p=>by omega) n.keys
  have:=(zd h hl).1
  exact vU h (by rw [this]; simp) (by omega)
theorem Qz {s:Nat→Option Bs} {h:Nat} {n:Nd} {lo:Bs} {hi:Option Bs} {l:List Pr} {S:List Nat} (hn:Nt s h n lo hi l S) (hr:qO n=true) (hw:wtN n) (hs:¬ qV n≤256) :
  (if n.leaf then 2≤n.pairs.length else 3≤n.keys.length∧n.kids.length=n.keys.length+1) ∧
  qO (qB n).1=true∧qV (qB n).1≤256∧qO (qB n).2.1=true∧qV (qB n).2.1≤256∧neN (qB n).1∧neN (qB n).2.1 ∧
  inK lo hi (qB n).2.2∧((qB n).2.2≠[]∧(qB n).2.2.length≤32) ∧
  ∃ la lb Sa Sb,Nt s h (qB n).1 lo (some (qB n).2.2) la Sa∧Nt s h (qB n).2.1 (qB n).2.2 hi lb Sb∧l=la++lb∧S=Sa++Sb:=by
 cases h with
 | zero =>
  obtain ⟨rfl,h1,rfl⟩:=hn
  obtain ⟨_,_,r1,v1⟩:=xF hr rfl
  have r1:qH (l.map (·.1))=true:=r1
  have v1:∀ p∈l,p.1≠[]∧p.1.length≤32∧p.2.length≤40:=v1
  have hw:(l.map qK).sum≤344:=hw
  have hs:¬ 2+(l.map qK).sum≤256:=hs
  have h2:2≤l.length:=by
   have:=kK qK 74 l (fun p hp=>by have:=v1 p hp; unfold qK; omega)
   rcases Nat.lt_or_ge l.length 2 with h|h
   ·have:l.length * 74≤1 * 74:=Nat.mul_le_mul_right _ (by omega)
    omega
   ·exact h
  obtain ⟨a1,a2,a3,a4,a5,a6⟩:=Yw r1 (fun p hp=>(v1 p hp).2.2) h2 hw
  have e:qB (Nd.lf l)=(Nd.lf (l.take (zn l)),Nd.lf (l.drop (zn l)),l[zn l].1):=by
   simp [qB,Nd.lf,List.getElem?_eq_getElem a2]
  rw [e]
  have hd:l=l.take (zn l)++l[zn l]::l.drop (zn l+1):=by rw [← List.drop_eq_getElem_cons a2,List.take_append_drop]
  have hd':=hd
  generalize l[zn l]=x at hd ⊢
  have r2:=r1
  rw [hd,List.map_append,List.map_cons] at r2
  obtain ⟨b1,b2,b3,b4,b5⟩:=kN _ _ _ r2
  have hxl:x∈l:=by rw [hd]; simp
  have hdr:l.drop (zn l)=x::l.drop (zn l+1):=List.append_cancel_left ((List.take_append_drop _ _).trans hd)
  have h0:0<(l.take (zn l)).length:=by rw [List.length_take]; omega
  refine ⟨h2,a3,a4,a5,a6,?_,?_,⟨?_,(h1 x hxl).2⟩,b5,_,_,[],[],⟨rfl,fun y hy=>⟨(h1 y (List.mem_of_mem_take hy)).1,fun e he=>?_⟩,rfl⟩,⟨rfl,fun y hy=>⟨?_,(h1 y (List.mem_of_mem_drop hy)).2⟩,rfl⟩,(List.take_append_drop _ _).symm,rfl⟩
  ·simp only [neN,Nd.lf,if_true]; exact List.length_pos_iff.1 h0
  ·simp only [neN,Nd.lf,if_true,hdr]; simp
  ·have hm:=List.getElem_mem h0
   exact vK (h1 _ (List.mem_of_mem_take hm)).1 (b1 _ (List.mem_map_of_mem hm))
  ·cases he; exact b1 _ (List.mem_map_of_mem hy)
  ·rw [hdr] at hy
   rcases List.mem_cons.1 hy with rfl|hy
   ·exact vu _
   ·exact xd (b2 _ (List.mem_map_of_mem hy))
 | succ h =>
  obtain ⟨ks,ps,rfl,h1,f1⟩:=hn
  obtain ⟨_,i1,r1,v1,p1⟩:=zd hr rfl
  have i1:ps.length=ks.length+1:=i1
  have r1:qH ks=true:=r1
  have v1:∀ k∈ks,k≠[]∧k.length≤32:=v1
  have p1:∀ k∈ps,1≤k∧k≤65535:=p1
  have hw:(ks.map fun k=>3+k.length).sum≤430:=hw
  have hs:¬ 4+(ks.map fun k=>3+k.length).sum≤256:=hs
  have h2:3≤ks.length:=by
   have:=kK (fun k:Bs=>3+k.length) 35 ks (fun p hp=>by have:=v1 p hp; omega)
   rcases Nat.lt_or_ge ks.length 3 with h|h
   ·have:ks.length * 35≤2 * 35:=Nat.mul_le_mul_right _ (by omega)
    omega
   ·exact h
  obtain ⟨a1,a2,a3,a4,a5,a6⟩:=VM r1 i1 p1 h2 hw
  have hlt:zl ks<ks.length:=by omega
  have e:qB (Nd.nd ks ps)=(Nd.nd (ks.take (zl ks)) (ps.take (zl ks+1)),Nd.nd (ks.drop (zl ks+1)) (ps.drop (zl ks+1)),ks[zl ks]):=by
   simp [qB,Nd.nd,List.getElem?_eq_getElem hlt]
  rw [e]
  have hd:ks=ks.take (zl ks)++ks[zl ks]::ks.drop (zl ks+1):=by rw [← List.drop_eq_getElem_cons hlt,List.take_append_drop]
  have hkd:=List.drop_eq_getElem_cons hlt
  have hxl:=List.getElem_mem hlt
  generalize ks[zl ks]=k at hd hkd hxl ⊢
  have r2:=r1
  rw [hd] at r2
  obtain ⟨b1,b2,b3,b4,b5⟩:=kN _ _ _ r2
  obtain ⟨p,lo',hi',l0,l1,l2,S0,S1,S2,c1,c2,c3,c4,c5,c6⟩:=qaJ (zl ks) ks ps lo l S f1 (by omega)
  rw [hkd] at c4
  obtain ⟨rfl,c4⟩:=c4
  have hpt:ps.take (zl ks+1)=ps.take (zl ks)++[p]:=by
   have hl:(ps.take (zl ks)).length=zl ks:=by rw [List.length_take]; omega
   have:=congrArg (List.take (zl ks+1)) c1
   rw [this,List.take_append,hl,show zl ks+1 - zl ks=1 by omega,List.take_take,Nat.min_eq_right (by omega)]
   rfl
  have f2:=XY (kb:=[]) (pb:=[]) (hi:=some k) (l2:=[]) (S2:=[]) _ _ _ _ _ _ c2 c3 ⟨rfl,rfl,rfl,rfl⟩
  rw [List.append_nil,List.append_nil,List.append_nil,← hpt] at f2
  refine ⟨⟨h2,i1⟩,a3,a4,a5,a6,?_,?_,h1 k hxl,b5,_,_,_,_,⟨_,_,rfl,fun j hj=>⟨(h1 j (List.mem_of_mem_take hj)).1,fun e he=>?_⟩,f2⟩,⟨_,_,rfl,fun j hj=>⟨b2 j hj,(h1 j (List.mem_of_mem_drop hj)).2⟩,c4⟩,by rw [c5,List.append_assoc],by rw [c6,List.append_assoc]⟩
  ·have:0<(ks.take (zl ks)).length:=by rw [List.length_take]; omega
   simp only [neN,Nd.nd,Bool.false_eq_true,if_false]; exact List.length_pos_iff.1 this
  ·have:0<(ks.drop (zl ks+1)).length:=by rw [List.length_drop]; omega
   simp only [neN,Nd.nd,Bool.false_eq_true,if_false]; exact List.length_pos_iff.1 this
  ·cases he; exact b1 j hj
end Go.Fx.Tryz
namespace Go.Fx.Tryz
open Go Go.Fx
structure Kin (x x':Wx):Prop where
 w:x'.o.w=x.o.w
 pm:x'.o.pm=x.o.pm
 c:x'.o.c=x.o.c
 p:x'.o.p=x.o.p
 P:x'.o.P=x.o.P
 nt:x'.o.nt=x.o.nt
 hd:x'.o.hd=x.o.hd
 xb:x'.xb=x.xb
 rest:x'.rest=x.rest
 t:x'.t=x.t
theorem Kin.refl (x:Wx):Kin x x:=⟨rfl,rfl,rfl,rfl,rfl,rfl,rfl,rfl,rfl,rfl⟩
theorem Kin.trans {x y z:Wx} (h:Kin x y) (k:Kin y z):Kin x z :=
 ⟨k.w.trans h.w,k.pm.trans h.pm,k.c.trans h.c,k.p.trans h.p,k.P.trans h.P,k.nt.trans h.nt,k.hd.trans h.hd,k.xb.trans h.xb,k.rest.trans h.rest,k.t.trans h.t⟩
abbrev Wx.fp (x:Wx):List Nat:=[x.o.w,x.o.pm,x.xb]
theorem Kin.fp {x y:Wx} (h:Kin x y):y.fp=x.fp:=by unfold Wx.fp; rw [h.w,h.pm,h.xb]
theorem Kin.v {x y:Wx} (h:Kin x y):y.v=x.v:=by unfold Wx.v; rw [h.xb]
theorem XR.XI {x:Wx} {m:Mem} (h:XR x m):∀ b∈x.fp,b<m.next:=fun b hb=>by
 have:=h.wr.lw; have:=h.wr.lm; have:=h.lx
 simp only [Wx.fp,List.mem_cons,List.not_mem_nil,or_false] at hb
 rcases hb with rfl|rfl|rfl<;>assumption
def Fu (o:Wo):Prop:=∀ k,o.has k=(o.s k).isSome
theorem Fu.some {o:Wo} {k:Nat} (h:o.s k≠none):o.has k=true:=by
 cases hs:o.s k with
 | none=>exact absurd hs h
 | some d=>exact (Wo.qfw hs).1
theorem xu {o:Wo} {k:Nat} (h:o.has k=true):1≤k∧k<o.P:=by
 unfold Wo.has at h
 simp only [Bool.and_eq_true,decide_eq_true_eq] at h
 exact h.1
structure Stp (s s':Nat→Option Bs) (S S':List Nat):Prop where
 out:∀ q,q∉S→q∉S'→s' q=s q
 new:∀ q∈S',q∈S∨s q=none
 gone:∀ q∈S,q∉S'→s' q=none
theorem Stp.refl (s:Nat→Option Bs) (S:List Nat):Stp s s S S:=⟨fun _ _ _=>rfl,fun q h=>.inl h,fun q h h'=>absurd h h'⟩
theorem Stp.trans {s s' s'':Nat→Option Bs} {S S' S'':List Nat} (h:Stp s s' S S') (k:Stp s' s'' S' S''):Stp s s'' S S'':=by
 refine ⟨fun q h1 h2=>?_,fun q hq=>?_,fun q h1 h2=>?_⟩
 ·by_cases h3:q∈S'
  ·rw [k.gone q h3 h2]; exact ((h.new q h3).resolve_left h1).symm
  ·rw [k.out q h3 h2,h.out q h1 h3]
 ·rcases k.new q hq with h1|h1
  ·exact h.new q h1
  ·by_cases h2:q∈S
   ·exact .inl h2
   ·by_cases h3:q∈S'
    ·exact h.new q h3
    ·exact .inr ((h.out q h2 h3).symm.trans h1)
 ·by_cases h3:q∈S'
  ·exact k.gone q h3 h2
  ·rw [k.out q h3 h2]; exact h.gone q h1 h3
theorem Stp.ctx {s s':Nat→Option Bs} {S S' T U U':List Nat} (h:Stp s s' S S') (hU:∀ q,q∈U↔q∈S∨q∈T) (hU':∀ q,q∈U'↔q∈S'∨q∈T):Stp s s' U U':=by
 refine ⟨fun q h1 h2=>h.out q (fun h=>h1 ((hU q).2 (.inl h))) (fun h=>h2 ((hU' q).2 (.inl h))),fun q hq=>?_,fun q h1 h2=>?_⟩
 ·rcases (hU' q).1 hq with h1|h1
  ·exact (h.new q h1).imp (fun h=>(hU q).2 (.inl h)) id
  ·exact .inl ((hU q).2 (.inr h1))
 ·rcases (hU q).1 h1 with h3|h3
  ·exact h.gone q h3 (fun h=>h2 ((hU' q).2 (.inl h)))
  ·exact absurd ((hU' q).2 (.inr h3)) h2
theorem Stp.zF {s s':Nat→Option Bs} {S S':List Nat} (h:Stp s s' S S') {q:Nat} (h1:q∉S) (h2:s q≠none):s' q=s q∧q∉S':=by
 have:q∉S':=fun hq=>(h.new q hq).elim h1 h2
 exact ⟨h.out q h1 this,this⟩
def Pts (s:Nat→Option Bs) (R:TP) (h page:Nat) (lo:Bs) (hi:Option Bs) (ps:List Pt) (l:List Pr) (S:List Nat):Prop :=
 (ps=[([],page)]∧R page lo hi l S) ∨
 ∃ k q la lb Sa Sb,ps=[([],page),(k,q)]∧inK lo hi k∧(k≠[]∧k.length≤32)∧Tr s h page lo (some k) la Sa∧Tr s h q k hi lb Sb∧l=la++lb∧S=Sa++Sb∧4≤l.length
theorem Kin.o (x:Wx) {o':Wo} (h:o'.w=x.o.w∧o'.pm=x.o.pm∧o'.c=x.o.c∧o'.p=x.o.p∧o'.P=x.o.P∧o'.nt=x.o.nt∧o'.hd=x.o.hd):Kin x { x with o:=o' } :=
 ⟨h.1,h.2.1,h.2.2.1,h.2.2.2.1,h.2.2.2.2.1,h.2.2.2.2.2.1,h.2.2.2.2.2.2,rfl,rfl,rfl⟩
theorem Fu.write {o:Wo} (h:Fu o) {p:Nat} (hp:o.has p=true) (d:Bs) (c:Nat):Fu { o with L:=upL o.L p d c }:=by
 intro k
 rw [Wo.kL hp]
 unfold zD
 have e:Wo.has { o with L:=upL o.L p d c } k=o.has k:=rfl
 rw [e]
 by_cases hk:k=p
 ·subst hk; simp [hp]
 ·rw [if_neg hk]; exact h k
theorem Fu.take {o:Wo} (h:Fu o) (hu:o.u.length=20) (hP:o.P≤160) {n:Nat} (h1:1≤n) (hn:n<o.P) (hb:xQ o.u n=false) (d:Bs) (c:Nat):Fu { o with u:=zZ o.u n,L:=upL o.L n d c }:=by
 intro k
 rw [Wo.KC hu hP h1 hn hb,Wo.Ql hu hP hn]
 unfold zD
 by_cases hk:k=n
 ·subst hk; simp [h1,hn,hb]
 ·rw [if_neg hk,decide_eq_false hk,Bool.xor_false]; exact h k
theorem Fu.drop {o:Wo} (h:Fu o) (hu:o.u.length=20) (hP:o.P≤160) {n:Nat} (hn:o.has n=true):Fu { o with u:=zZ o.u n }:=by
 intro k
 rw [Wo.YH hu hP hn,Wo.Ql hu hP (xu hn).2 k o.L]
 unfold zD
 by_cases hk:k=n
 ·subst hk
  have:=hn
  unfold Wo.has at this
  simp only [Bool.and_eq_true,decide_eq_true_eq] at this
  simp [this.2]
 ·rw [if_neg hk,decide_eq_false hk,Bool.xor_false]; exact h k
theorem YG {o:Wo} {n:Nat} (hb:xQ o.u n=false):o.s n=none:=by
 unfold Wo.s Wo.has; simp [hb]
end Go.Fx.Tryz
namespace Go.Fx.Tryz
open Go Go.Fx
theorem ya {α:Type} [DecidableEq α]:∀ (S T:List α),S.Nodup→(∀ q∈S,q∈T)→S.length≤T.length
 | [],_,_,_=>Nat.zero_le _
 | a::S,T,h,hs=>by
  rw [List.nodup_cons] at h
  have ha:=hs a (by simp)
  have:=ya S (T.erase a) h.2 (fun q hq=>(List.mem_erase_of_ne (by rintro rfl; exact h.1 hq)).2 (hs q (by simp [hq])))
  rw [List.length_erase_of_mem ha] at this
  have:=List.length_pos_of_mem ha
  simp only [List.length_cons]; omega
theorem Hv {R:TP} {c:Nat} (hR:∀ p lo hi l S,R p lo hi l S→c≤l.length∧c≤S.length∧S.length+1≤2 * l.length):∀ (ks:List Bs) (ps:List Nat) (lo:Bs) (hi:Option Bs) (l:List Pr) (S:List Nat),Fo R lo hi ks ps l S→(ks.length+1) * c≤l.length∧(ks.length+1) * c≤S.length∧S.length+(ks.length+1)≤2 * l.length
 | [],[p],lo,hi,l,S,h=>by have:=hR _ _ _ _ _ h; simpa using this
 | k::ks,p::ps,lo,hi,l,S,⟨l1,S1,l2,S2,h1,h2,h3,h4⟩=>by
  subst h3 h4
  have a:=hR _ _ _ _ _ h1
  have b:=Hv hR ks ps _ _ _ _ h2
  simp only [List.length_cons,List.length_append]
  rw [Nat.add_mul (ks.length+1) 1 c]
  omega
 | [],[],_,_,_,_,hf=>hf.elim
 | [],_::_::_,_,_,_,_,hf=>hf.elim
 | _::_,[],_,_,_,_,hf=>hf.elim
theorem Vi (s:Nat→Option Bs):∀ (h p:Nat) (lo:Bs) (hi:Option Bs) (l:List Pr) (S:List Nat),Tr s h p lo hi l S→2 ^ h≤l.length∧2 ^ h≤S.length∧S.length+1≤2 * l.length
 | 0,p,lo,hi,l,S,⟨n,S',hp,hn,⟨e1,_,e2⟩,e3⟩=>by
  subst e1 e2 e3
  have:l≠[]:=by simpa [neN,Nd.lf] using hn
  have:=List.length_pos_iff.2 this
  simp; omega
 | h+1,p,lo,hi,l,S,⟨n,S',hp,hn,⟨ks,ps,e1,hk,hf⟩,e3⟩=>by
  subst e1 e3
  have:ks≠[]:=by simpa [neN,Nd.nd] using hn
  have:=List.length_pos_iff.2 this
  obtain ⟨a,b,c⟩:=Hv (c:=2 ^ h) (Vi s h) ks ps lo hi l S' hf
  have h2:2 * 2 ^ h≤(ks.length+1) * 2 ^ h:=Nat.mul_le_mul_right _ (by omega)
  rw [Nat.pow_succ]
  simp only [List.length_cons]
  omega
theorem qdV {R:TP} (hR:Rng R) (hw:∀ p lo hi l S,R p lo hi l S→rowP l):∀ (ks:List Bs) (ps:List Nat) (lo:Bs) (hi:Option Bs) (l:List Pr) (S:List Nat),qH ks=true→Fo R lo hi ks ps l S→rowP l
 | [],[p],lo,hi,l,S,_,h=>hw _ _ _ _ _ h
 | k::ks,p::ps,lo,hi,l,S,hr,⟨l1,S1,l2,S2,h1,h2,h3,h4⟩=>by
  subst h3 h4
  have a:=hw _ _ _ _ _ h1
  have b:=qdV hR hw ks ps _ _ _ _ (qL hr).1 h2
  refine ⟨?_,fun x hx=>?_⟩
  ·rw [List.map_append]
   refine jB _ _ a.1 b.1 (fun i hi j hj=>?_)
   obtain ⟨x,hx,rfl⟩:=List.mem_map.1 hi
   obtain ⟨y,hy,rfl⟩:=List.mem_map.1 hj
   exact xk ((hR _ _ _ _ _ h1 x hx).2 k rfl) (qdW hR ks ps k _ l2 S2 (qL hr).1 (qL hr).2 h2 y hy)
  ·rcases List.mem_append.1 hx with hx|hx
   ·exact a.2 x hx
   ·exact b.2 x hx
 | [],[],_,_,_,_,_,hf=>hf.elim
 | [],_::_::_,_,_,_,_,_,hf=>hf.elim
 | _::_,[],_,_,_,_,_,hf=>hf.elim
theorem qdG (s:Nat→Option Bs):∀ (h p:Nat) (lo:Bs) (hi:Option Bs) (l:List Pr) (S:List Nat),Tr s h p lo hi l S→rowP l
 | 0,p,lo,hi,l,S,⟨n,S',hp,hn,⟨e1,_,e2⟩,e3⟩=>by
  subst e1
  obtain ⟨_,_,a,b⟩:=xF hp.rt rfl
  exact ⟨a,fun x hx=>(b x hx).2.2⟩
 | h+1,p,lo,hi,l,S,⟨n,S',hp,hn,⟨ks,ps,e1,hk,hf⟩,e3⟩=>by
  subst e1
  exact qdV (yP s h) (qdG s h) ks ps lo hi l S' (zd hp.rt rfl).2.2.1 hf
theorem qdx {s:Nat→Option Bs} {h:Nat} {n:Nd} {lo:Bs} {hi:Option Bs} {l:List Pr} {S:List Nat} (hn:Nt s h n lo hi l S) (hr:qO n=true) (hs:¬ qV n≤256):4≤l.length:=by
 cases h with
 | zero =>
  obtain ⟨rfl,_,_⟩:=hn
  obtain ⟨_,_,_,v1⟩:=xF hr rfl
  have v1:∀ p∈l,p.1≠[]∧p.1.length≤32∧p.2.length≤40:=v1
  have hs:¬ 2+(l.map qK).sum≤256:=hs
  have:=kK qK 74 l (fun p hp=>by have:=v1 p hp; unfold qK; omega)
  omega
 | succ h =>
  obtain ⟨ks,ps,rfl,_,hf⟩:=hn
  obtain ⟨_,_,_,v1,_⟩:=zd hr rfl
  have v1:∀ k∈ks,k≠[]∧k.length≤32:=v1
  have hs:¬ 4+(ks.map fun k=>3+k.length).sum≤256:=hs
  have:=kK (fun k:Bs=>3+k.length) 35 ks (fun p hp=>by have:=v1 p hp; omega)
  have h1:=(Hv (c:=2 ^ h) (Vi s h) ks ps lo hi l S hf).1
  have h2:=Nat.two_pow_pos h
  have h3:(ks.length+1) * 1≤(ks.length+1) * 2 ^ h:=Nat.mul_le_mul_left _ h2
  omega
theorem yQ {o:Wo} (hP:o.P≤160) {h p:Nat} {lo:Bs} {hi:Option Bs} {l:List Pr} {S:List Nat} (ht:Tr o.s h p lo hi l S) (hnd:S.Nodup):h≤7∧S.length≤159:=by
 have h1:S.length≤159:=by
  have:=ya S ((List.range 160).erase 0) hnd (fun q hq=>by
   have:=xu (Fu.some (vy o.s h p lo hi l S ht q hq))
   rw [List.mem_erase_of_ne (by omega)]
   exact List.mem_range.2 (by omega))
  rwa [List.length_erase_of_mem (by simp),List.length_range] at this
 refine ⟨?_,h1⟩
 have h2:=(Vi o.s h p lo hi l S ht).2.1
 rcases Nat.lt_or_ge h 8 with h3|h3
 ·omega
 ·have:2 ^ 8≤2 ^ h:=Nat.pow_le_pow_right (by omega) h3
  omega
theorem qeg {o:Wo} {S:List Nat} (hnd:S.Nodup) (hS:∀ k,o.has k=true↔k∈S):o.used=1+S.length:=by
 unfold Wo.used
 have h1:=ya S ((List.range o.P).filter o.has) hnd (fun q hq=>List.mem_filter.2 ⟨List.mem_range.2 (xu ((hS q).2 hq)).2,(hS q).2 hq⟩)
 have h2:=ya ((List.range o.P).filter o.has) S (List.nodup_range.filter _) (fun q hq=>(hS q).1 (List.mem_filter.1 hq).2)
 omega
end Go.Fx.Tryz
namespace Go.Fx.Tryz
open Go Go.Fx
section
variable {x:Wx} {m:Mem}
theorem hZ {lo0:Nat} (h:XR x m) (he:x.err=0) (hf:Fu x.o) {page:Nat} (hp:x.o.s page≠none) {n:Nd} {v:Value} (ht:TN lo0 m v n) (hr:qO n=true) (hw:wtN n) {g:Nat} {lo:Bs} {hi:Option Bs} {l:List Pr} {U:List Nat} (hn:Nt x.o.s g n lo hi l U) (hpS:page∉U) (hnd:U.Nodup) :
  W (Call S tab 103 [x.v,.int .i64 (page:Int),v] m) fun r m' =>
   (¬ qV n≤256∧∃ x',XR x' m'∧Kin x x'∧x'.err=8∧Upd x.fp m m') ∨
   ∃ x' ps S',XR x' m'∧Kin x x'∧x'.err=0∧x'.rd=x.rd∧Fu x'.o∧RSl m.next zL m' r ps ∧
    Pts x'.o.s (fun p lo hi l S=>∃ S0,Pn x'.o.s p n∧Nt x'.o.s g n lo hi l S0∧S=p::S0) g page lo hi ps l S'∧Stp x.o.s x'.o.s (page::U) S'∧S'.Nodup∧Upd x.fp m m':=by
 have hh:=Fu.some hp
 have hlt:=xu hh
 have hP:=h.wr.hP
 have hu20:=h.wr.hu
 have sub1:∀ b,b∈[x.o.pm,x.xb]→b∈x.fp:=fun b hb=>List.mem_cons.2 (.inr hb)
 have sub2:∀ b,b∈[x.xb]→b∈x.fp:=fun b hb=>List.mem_cons.2 (.inr (List.mem_cons.2 (.inr hb)))
 refine (qiO h he (by omega) ht (QB hr hw) hh hr (fun hs=>by
  obtain ⟨a1,a2,a3,a4,a5,_⟩:=Qz hn hr hw hs
  exact ⟨a1,a2,a3,a4,a5⟩)).mono fun r m' hc=>?_
 rcases hc with ⟨hs,hv,⟨c,hx⟩,hu⟩|⟨hs,hx,hu⟩|⟨hs,q,c1,c2,c3,y1,y2,y3,hv,hx,hu⟩
 ·have es:=Wo.kL hh (zx n) c
  have hout:∀ k∈U,zD x.o.s page (some (zx n)) k=x.o.s k:=fun k hk=>by unfold zD; rw [if_neg (by rintro rfl; exact hpS hk)]
  refine .inr ⟨_,_,page::U,hx,Kin.o x ⟨rfl,rfl,rfl,rfl,rfl,rfl,rfl⟩,he,rfl,hf.write hh _ c,hv,.inl ⟨rfl,U,⟨?_,hr,hs⟩,?_,rfl⟩,?_,List.nodup_cons.2 ⟨hpS,hnd⟩,hu.mono fun b hb _=>sub1 b hb⟩
  ·rw [es]; unfold zD; rw [if_pos rfl]
  ·rw [es]; exact vP g hout hn
  ·rw [es]
   exact ⟨fun k hk _=>by unfold zD; rw [if_neg (by rintro rfl; simp at hk)],fun k hk=>.inl hk,fun k hk hk'=>absurd hk hk'⟩
 ·exact .inl ⟨hs,_,hx,⟨rfl,rfl,rfl,rfl,rfl,rfl,rfl,rfl,rfl,rfl⟩,rfl,hu.mono fun b hb _=>sub2 b hb⟩
 ·obtain ⟨_,a2,a3,a4,a5,a6,a7,a8,a9,la,lb,Sa,Sb,b1,b2,b3,b4⟩:=Qz hn hr hw hs
  have hq0:x.o.s q=none:=YG y3
  have hpq:page≠q:=by rintro rfl; exact hp hq0
  have hqS:q∉U:=fun hm=>qfk hn q hm hq0
  have e1:=Wo.KC hu20 hP y1 y2 y3 (qq 256) c1
  have f1:=hf.take hu20 hP y1 y2 y3 (qq 256) c1
  have hh1:Wo.has { x.o with u:=zZ x.o.u q,L:=upL x.o.L q (qq 256) c1 } page=true:=by
   apply Fu.some; rw [e1]; unfold zD; rw [if_neg hpq]; exact hp
  have e2:=Wo.kL hh1 (zx (qB n).1) c2
  have f2:=f1.write hh1 (zx (qB n).1) c2
  have hh2:Wo.has { x.o with u:=zZ x.o.u q,L:=upL (upL x.o.L q (qq 256) c1) page (zx (qB n).1) c2 } q=true:=by
   apply Fu.some; rw [e2]; unfold zD; rw [if_neg (fun e=>hpq e.symm),e1]; simp [zD]
  have e3:=Wo.kL hh2 (zx (qB n).2.1) c3
  have f3:=f2.write hh2 (zx (qB n).2.1) c3
  rw [e2,e1] at e3
  have hout:∀ k,k≠page→k≠q→zD (zD (zD x.o.s q (some (qq 256))) page (some (zx (qB n).1))) q (some (zx (qB n).2.1)) k=x.o.s k:=fun k h1 h2=>by
   unfold zD; rw [if_neg h2,if_neg h1,if_neg h2]
  have hSk:∀ k∈U,zD (zD (zD x.o.s q (some (qq 256))) page (some (zx (qB n).1))) q (some (zx (qB n).2.1)) k=x.o.s k:=fun k hk=>hout k (by rintro rfl; exact hpS hk) (by rintro rfl; exact hqS hk)
  have hmem:∀ k,k∈page::(Sa++q::Sb)↔k=page∨k=q∨k∈U:=fun k=>by
   rw [b4]; simp only [List.mem_cons,List.mem_append]
   constructor
   ·rintro (h|h|h|h)<;>simp [h]
   ·rintro (h|h|h|h)<;>simp [h]
  refine .inr ⟨_,_,(page::Sa)++(q::Sb),hx,Kin.o x ⟨rfl,rfl,rfl,rfl,rfl,rfl,rfl⟩,he,rfl,f3,hv,.inr ⟨_,q,la,lb,page::Sa,q::Sb,rfl,a8,a9,zO.2 ⟨_,Sa,⟨?_,a2,a3⟩,a6,?_,rfl⟩,zO.2 ⟨_,Sb,⟨?_,a4,a5⟩,a7,?_,rfl⟩,b3,rfl,qdx hn hr hs⟩,?_,?_,hu⟩
  ·rw [e3]; unfold zD; rw [if_neg hpq,if_pos rfl]
  ·rw [e3]; exact vP g (fun k hk=>hSk k (by rw [b4]; exact List.mem_append.2 (.inl hk))) b1
  ·rw [e3]; unfold zD; rw [if_pos rfl]
  ·rw [e3]; exact vP g (fun k hk=>hSk k (by rw [b4]; exact List.mem_append.2 (.inr hk))) b2
  ·rw [e3]
   refine ⟨fun k h1 h2=>?_,fun k hk=>?_,fun k hk hk'=>?_⟩
   ·have:=mt (hmem k).2 h2
    exact hout k (fun e=>this (.inl e)) (fun e=>this (.inr (.inl e)))
   ·rcases (hmem k).1 hk with h|h|h
    ·exact .inl (by simp [h])
    ·exact .inr (by rw [h]; exact hq0)
    ·exact .inl (by simp [h])
   ·exfalso
    apply hk'
    refine (hmem k).2 ?_
    rcases List.mem_cons.1 hk with h|h
    ·exact .inl h
    ·exact .inr (.inr h)
  ·rw [b4] at hnd hpS hqS
   rw [List.nodup_append] at hnd
   obtain ⟨n1,n2,n3⟩:=hnd
   simp only [List.mem_append,not_or] at hpS hqS
   rw [List.cons_append,List.nodup_cons,List.nodup_append,List.nodup_cons]
   refine ⟨?_,n1,⟨hqS.2,n2⟩,fun a ha b hb=>?_⟩
   ·simp only [List.mem_append,List.mem_cons,not_or]
    exact ⟨hpS.1,hpq,hpS.2⟩
   ·rcases List.mem_cons.1 hb with rfl|hb
    ·rintro rfl; exact hqS.1 ha
    ·exact n3 a ha b hb
end
end Go.Fx.Tryz
namespace Go.Fx.Tryz
open Go Go.Fx
theorem vk (key:Bs):∀ ks:List Bs,qH ks=true→(∀ k∈ks.take (zJ ks key),ltB key k=false)∧(∀ k∈ks.drop (zJ ks key),ltB key k=true)∧zJ ks key≤ks.length
 | [],_=>⟨by simp,by simp,by simp [zJ]⟩
 | k::ks,h=>by
  obtain ⟨a,b,c⟩:=vk key ks (qL h).1
  rw [Hj h]
  cases hk:ltB key k with
  | true =>
   refine ⟨by simp,fun j hj=>?_,by simp⟩
   rcases List.mem_cons.1 hj with rfl|hj
   ·exact hk
   ·exact xj hk ((qL h).2 j hj)
  | false =>
   simp only [Bool.false_eq_true,if_false,List.take_succ_cons,List.drop_succ_cons,List.length_cons]
   refine ⟨fun j hj=>?_,b,by omega⟩
   rcases List.mem_cons.1 hj with rfl|hj
   ·exact hk
   ·exact a j hj
theorem Hu {R:TP} (hR:Rng R) {key lo:Bs} {hi:Option Bs} {ks:List Bs} {ps:List Nat} {l:List Pr} {S:List Nat} (hf:Fo R lo hi ks ps l S) (hr:qH ks=true) (hk:∀ k∈ks,inK lo hi k) (hkey:inR lo hi key) :
  ∃ p lo' hi' l0 l1 l2 S0 S1 S2,ps=ps.take (zJ ks key)++p::ps.drop (zJ ks key+1)∧FL R lo (ks.take (zJ ks key)) (ps.take (zJ ks key)) lo' l0 S0∧R p lo' hi' l1 S1 ∧
   FR R hi' hi (ks.drop (zJ ks key)) (ps.drop (zJ ks key+1)) l2 S2∧l=l0++(l1++l2)∧S=S0++(S1++S2)∧inR lo' hi' key∧(∀ x∈l0,ltB x.1 key=true)∧(∀ x∈l2,ltB key x.1=true):=by
 obtain ⟨c1,c2,c3⟩:=vk key ks hr
 obtain ⟨p,lo',hi',l0,l1,l2,S0,S1,S2,e1,e2,e3,e4,e5,e6⟩:=qaJ _ ks ps lo l S hf c3
 have hlo:=Yn _ _ _ _ _ _ e2 (xJ _ _ hr) (fun k hk'=>(hk k (List.mem_of_mem_take hk')).1)
 have h1:ltB key lo'=false:=by
  rcases hlo.1 with h|h
  ·rw [h]; exact hkey.1
  ·exact c1 lo' h
 refine ⟨p,lo',hi',l0,l1,l2,S0,S1,S2,e1,e2,e3,e4,e5,e6,⟨h1,fun e he=>?_⟩,fun x hx=>xk (qgu hR _ _ _ _ _ _ e2 (xJ _ _ hr) x hx) h1,fun x hx=>?_⟩
 ·generalize ks.drop (zJ ks key)=kb at e4 c2
  cases kb with
  | nil=>exact hkey.2 e (e4.2.1.symm.trans he)
  | cons k kb=>have:=e4.1.symm.trans he; cases this; exact c2 e (by simp)
 ·obtain ⟨e,he,hx'⟩:=qiM hR e4 (xK _ _ hr) x hx
  refine xk ?_ hx'
  generalize ks.drop (zJ ks key)=kb at e4 c2
  cases kb with
  | nil=>rw [e4.2.2.1] at hx; simp at hx
  | cons k kb=>have:=e4.1.symm.trans he; cases this; exact c2 e (by simp)
theorem qfo {ks:List Bs} {ps:List Nat} {c p:Nat} (h:ps=ps.take c++p::ps.drop (c+1)) (hc:c≤ks.length) (hl:ps.length=ks.length+1):kF (Nd.nd ks ps) c [([],p)]=Nd.nd ks ps:=by
 rw [withN_eq (Nd.nd ks ps) c _ (by show c<ps.length; omega) hl]
 show Nd.nd (ks.take c++([]++ks.drop c)) (ps.take c++([p]++ps.drop (c+1)))=_
 rw [List.nil_append,List.take_append_drop,List.singleton_append,← h]
theorem qfn {ks:List Bs} {ps:List Nat} {c p q:Nat} {k:Bs} (hc:c≤ks.length) (hl:ps.length=ks.length+1):kF (Nd.nd ks ps) c [([],p),(k,q)]=Nd.nd (ks.take c++k::ks.drop c) (ps.take c++p::q::ps.drop (c+1)):=by
 rw [withN_eq (Nd.nd ks ps) c _ (by show c<ps.length; omega) hl]
 rfl
theorem HG (f:Bs→Nat) (a:List Bs) (k:Bs) (b:List Bs):((a++k::b).map f).sum=((a++b).map f).sum+f k:=by
 simp only [List.map_append,List.map_cons,List.sum_append,List.sum_cons]; omega
theorem Jk {s':Nat→Option Bs} {h:Nat} {lo lo' k:Bs} {hi hi':Option Bs} {ka kb:List Bs} {pa pb:List Nat} {p q p0:Nat} {l0 la lb l2:List Pr} {S0 Sa Sb S2:List Nat} (hr:qO (Nd.nd (ka++kb) (pa++p0::pb))=true) (hw:((ka++kb).map fun k=>3+k.length).sum≤252)
  (hk:∀ j∈ka++kb,inK lo hi j) (hs:∀ q,s' q≠none→1≤q∧q≤65535) (h0:FL (Tr s' h) lo ka pa lo' l0 S0) (h2:FR (Tr s' h) hi' hi kb pb l2 S2) (hkk:inK lo' hi' k) (h32:k≠[]∧k.length≤32) (ha:Tr s' h p lo' (some k) la Sa) (hb:Tr s' h q k hi' lb Sb) :
  Nt s' (h+1) (Nd.nd (ka++k::kb) (pa++p::q::pb)) lo hi (l0++((la++lb)++l2)) (S0++((Sa++Sb)++S2))∧qO (Nd.nd (ka++k::kb) (pa++p::q::pb))=true∧wtN (Nd.nd (ka++k::kb) (pa++p::q::pb))∧neN (Nd.nd (ka++k::kb) (pa++p::q::pb)):=by
 obtain ⟨_,i1,r1,v1,p1⟩:=zd hr rfl
 have i1:(pa++p0::pb).length=(ka++kb).length+1:=i1
 have r1:qH (ka++kb)=true:=r1
 have p1:∀ k∈pa++p0::pb,1≤k∧k≤65535:=p1
 obtain ⟨m1,m2⟩:=qeH h0 h2 r1 hk hkk h32
 have f:=XY (R:=Tr s' h) (hi:=hi) (kb:=kb) (pb:=pb) [] [] k k [] [] ⟨rfl,rfl,rfl⟩ hb h2
 have f2:FR (Tr s' h) (some k) hi (k::kb) (q::pb) (lb++l2) (Sb++S2):=⟨rfl,f⟩
 have f3:=XY (R:=Tr s' h) ka pa lo lo' l0 S0 h0 ha f2
 rw [← List.append_assoc la,← List.append_assoc Sa] at f3
 have mp:∀ p lo hi l S,Tr s' h p lo hi l S→1≤p∧p≤65535:=fun p lo hi l S ht=>by
  obtain ⟨n,S',hp,_⟩:=zO.1 ht
  exact hs p (by rw [hp.pg]; simp)
 refine ⟨⟨_,_,rfl,fun j hj=>?_,f3⟩,kS ?_ m1 (fun j hj=>?_),?_,by simp [neN,Nd.nd]⟩
 ·rcases List.mem_append.1 hj with hj|hj
  ·exact hk j (by simp [hj])
  ·rcases List.mem_cons.1 hj with rfl|hj
   ·exact m2
   ·exact hk j (by simp [hj])
 ·simp only [List.length_append,List.length_cons] at i1 ⊢; omega
 ·rcases List.mem_append.1 hj with hj|hj
  ·exact p1 j (by simp [hj])
  ·rcases List.mem_cons.1 hj with rfl|hj
   ·exact mp _ _ _ _ _ ha
   ·rcases List.mem_cons.1 hj with rfl|hj
    ·exact mp _ _ _ _ _ hb
    ·exact p1 j (by simp [hj])
 ·show ((ka++k::kb).map fun k=>3+k.length).sum≤430
  rw [HG]; omega
end Go.Fx.Tryz
namespace Go.Fx.Tryz
open Go Go.Fx
theorem yb {A B B' C:List Nat} (h:(A++(B++C)).Nodup) (hB:B'.Nodup) (hd:∀ q∈A++C,q∉B'):(A++(B'++C)).Nodup:=by
 rw [List.nodup_append,List.nodup_append] at h ⊢
 obtain ⟨h1,⟨_,h2,_⟩,h3⟩:=h
 refine ⟨h1,⟨hB,h2,fun a ha b hb e=>?_⟩,fun a ha b hb e=>?_⟩
 ·subst e; exact hd a (List.mem_append.2 (.inr hb)) ha
 ·subst e
  rcases List.mem_append.1 hb with hb|hb
  ·exact hd a (List.mem_append.2 (.inl ha)) hb
  ·exact h3 a ha a (List.mem_append.2 (.inr hb)) rfl
theorem JC {A B C:List Nat} (h:(A++(B++C)).Nodup):B.Nodup∧∀ q∈A++C,q∉B:=by
 rw [List.nodup_append,List.nodup_append] at h
 obtain ⟨h1,⟨h4,h2,h5⟩,h3⟩:=h
 refine ⟨h4,fun q hq hB=>?_⟩
 rcases List.mem_append.1 hq with hq|hq
 ·exact h3 q hq q (List.mem_append.2 (.inl hB)) rfl
 ·exact h5 q hB q hq rfl
theorem yU {ks:List Bs} {ps:List Nat} (h:qV (Nd.nd ks ps)≤256):(ks.map fun k=>3+k.length).sum≤252:=by
 have:4+(ks.map fun k=>3+k.length).sum≤256:=h
 omega
theorem VJ {n:Nd} (h:qV n≤256):wtN n:=by
 unfold qV at h; unfold wtN
 cases hl:n.leaf with
 | true=>rw [hl,if_pos rfl] at h; rw [if_pos rfl]; omega
 | false=>rw [hl,if_neg (by simp)] at h; rw [if_neg (by simp)]; omega
theorem JI {s s1:Nat→Option Bs} {h c p:Nat} {lo lo':Bs} {hi hi':Option Bs} {ks:List Bs} {ps:List Nat} {l0 l1 l2:List Pr} {S0 S1 S2:List Nat} {pts:List Pt} (hr:qO (Nd.nd ks ps)=true) (hsz:qV (Nd.nd ks ps)≤256) (hk:∀ k∈ks,inK lo hi k) (hne:ks≠[])
  (e1:ps=ps.take c++p::ps.drop (c+1)) (hc:c≤ks.length) (e2:FL (Tr s h) lo (ks.take c) (ps.take c) lo' l0 S0) (e4:FR (Tr s h) hi' hi (ks.drop c) (ps.drop (c+1)) l2 S2) (hkeep:∀ q∈S0++S2,s1 q=s q) (hs:∀ q,s1 q≠none→1≤q∧q≤65535) (hP:Pts s1 (Tr s1 h) h p lo' hi' pts l1 S1) :
  Nt s1 (h+1) (kF (Nd.nd ks ps) c pts) lo hi (l0++(l1++l2)) (S0++(S1++S2))∧qO (kF (Nd.nd ks ps) c pts)=true∧wtN (kF (Nd.nd ks ps) c pts)∧neN (kF (Nd.nd ks ps) c pts):=by
 have i1:ps.length=ks.length+1:=(zd hr rfl).2.1
 have f0:=QA (R':=Tr s1 h) _ _ _ _ _ _ (fun p lo hi l T hT ht=>xB h p lo hi l T (fun q hq=>hkeep q (List.mem_append.2 (.inl (hT q hq)))) ht) e2
 have f2:=ZL (R':=Tr s1 h) (fun p lo hi l T hT ht=>xB h p lo hi l T (fun q hq=>hkeep q (List.mem_append.2 (.inr (hT q hq)))) ht) e4
 have ek:ks=ks.take c++ks.drop c:=(List.take_append_drop _ _).symm
 rcases hP with ⟨rfl,hT⟩|⟨k,q,la,lb,Sa,Sb,rfl,a1,a2,a3,a4,rfl,rfl,_⟩
 ·rw [qfo e1 hc i1]
  refine ⟨⟨ks,ps,rfl,hk,?_⟩,hr,VJ hsz,by simpa [neN,Nd.nd] using hne⟩
  have:=XY _ _ _ _ _ _ f0 hT f2
  rwa [List.take_append_drop,← e1] at this
 ·rw [qfn hc i1]
  exact Jk (p0:=p) (by rw [List.take_append_drop,← e1]; exact hr) (by rw [List.take_append_drop]; exact yU hsz) (by rw [List.take_append_drop]; exact hk) hs f0 f2 a1 a2 a3 a4
def qiZ (x:Wx) (m:Mem) (N h page:Nat) (lo:Bs) (hi:Option Bs) (l:List Pr) (U:List Nat) (r:Value) (m':Mem):Prop :=
 (4≤l.length∧∃ x',XR x' m'∧Kin x x'∧x'.err=8∧Upd x.fp m m') ∨
 ∃ x' ps U',XR x' m'∧Kin x x'∧x'.err=0∧x'.rd≤x.rd+N∧Fu x'.o∧RSl m.next zL m' r ps∧Pts x'.o.s (Tr x'.o.s h) h page lo hi ps l U'∧Stp x.o.s x'.o.s U U'∧U'.Nodup∧Upd x.fp m m'
theorem Pn.here {o:Wo} {p:Nat} {n:Nd} (h:Pn o.s p n):o.has p=true∧lkL o.L p=some (zx n):=Wo.qfw h.pg
theorem Qm {o:Wo} (hP:o.P≤160):∀ q,o.s q≠none→1≤q∧q≤65535:=fun q hq=>by
 have:=xu (Fu.some hq); omega
theorem wJ {n:Nd} (h:qO n=true) (hs:qV n≤256):n.kids.length≤n.keys.length+1∧n.kids.length≤200:=by
 have:=kY h hs
 cases hl:n.leaf with
 | true=>have:=(xF h hl).2.1; rw [this]; simp
 | false=>have:=(zd h hl).2.1; omega
theorem ZF {s:Nat→Option Bs} {n:Nd} {g page:Nat} {lo:Bs} {hi:Option Bs} {ps:List Pt} {l:List Pr} {U:List Nat} (h:Pts s (fun p lo hi l S=>∃ S0,Pn s p n∧Nt s g n lo hi l S0∧S=p::S0) g page lo hi ps l U) :
  Pts s (Tw s g) g page lo hi ps l U∧(neN n→Pts s (Tr s g) g page lo hi ps l U):=by
 rcases h with ⟨e,S0,h1,h2,h3⟩|h
 ·exact ⟨.inl ⟨e,n,S0,h1,h2,h3⟩,fun hn=>.inl ⟨e,zO.2 ⟨n,S0,h1,hn,h2,h3⟩⟩⟩
 ·exact ⟨.inr h,fun _=>.inr h⟩
set_option maxRecDepth 4000 in
theorem qec {key val:Bs} (hk:key≠[]∧key.length≤32) (hv:val.length≤40):∀ (h:Nat) (x:Wx) (m:Mem) (page left:Nat) (lo:Bs) (hi:Option Bs) (l:List Pr) (U:List Nat),XR x m→x.err=0→x.rd+h<1000→Fu x.o→h<left→left≤40 →
  Tr x.o.s h page lo hi l U→U.Nodup→inR lo hi key→W (Call S tab 72 [x.v,.int .i64 (page:Int),.int .i64 (left:Int),str key,str val] m) (qiZ x m (h+1) h page lo hi (xO l key val) U):=by
 intro h
 induction h with
 | zero =>
  intro x m page left lo hi l U hx he hrd hf hle hl40 ht hnd hin
  obtain ⟨n,U',hp,hn,hnt,rfl⟩:=zO.1 ht
  have hnt0:n=Nd.lf l∧(∀ x∈l,inR lo hi x.1)∧U'=[]:=hnt
  obtain ⟨rfl,hl,rfl⟩:=hnt0
  obtain ⟨hh,hlk⟩:=hp.here
  have hlt:=xu hh
  have hP:=hx.wr.hP
  have fpl:=hx.XI
  rw [C72]
  refine qo.2 ((vA hx he (by omega) (by omega) (by omega) hh hlk hp.rt hp.sz).mono fun v1 m1 ⟨t1,h1,u1⟩=>?_)
  have x1:=u1.next
  have hT:=t1
  obtain ⟨sp,sk,si,rfl,q1,q2,q3⟩:=t1.ex
  simp -implicitDefEqProofs only [st0,qc,reduceIte]
  refine xR (c:=[.bool (Nd.lf l).leaf,sp,sk,si]) rfl rfl (by simp [q1.one.2,q2.one.2,q3.one.2,show (Value.bool (Nd.lf l).leaf).oneCell'=true from rfl]) fun m2 b2 u2 n2=>?_
  have h2:=h1.qt u2
  have T2:=hT.qt u2
  have e5:=xok h2
  rw [decide_eq_true (show ({ x with rd:=x.rd+1 }:Wx).err=0 from he)] at e5
  have hlf:(Nd.lf l).leaf=true:=rfl
  rw [hlf] at b2
  simp -implicitDefEqProofs only [st0,qc,reduceIte,e5,fa,qG b2 (o:=0+0) rfl,qF b2]
  obtain ⟨_,_,r1,v1⟩:=xF hp.rt rfl
  have hrow:rowP l:=⟨r1,fun p hp=>(v1 p hp).2.2⟩
  obtain ⟨w1,w2,w3,w4⟩:=Wn hrow hk hv
  have hsz:2+(l.map qK).sum≤256:=hp.sz
  refine qo.2 ((KL key val T2 (QB hp.rt (VJ hp.sz)) (by omega)).mono fun v3 m3 ⟨t3,u3⟩=>?_)
  have t3:TN m2.next m3 v3 (Nd.lf (xO l key val)):=t3
  have x3:=u3.next
  have h3:=h2.qt u3
  have hnt3:Nt x.o.s 0 (Nd.lf (xO l key val)) lo hi (xO l key val) []:=⟨rfl,fun y hy=>by
   rcases w2 y hy with hy|rfl
   ·exact hl y hy
   ·exact hin,rfl⟩
  have hr3:=kT w1.1 w1.2
  have u03:Upd x.fp m m3:=((u1.mono (fun b hb _=>by simp at hb; simp [Wx.fp,hb])).qD u2).qD u3
  refine qo.2 ((hZ h3 he hf (by rw [show ({ x with rd:=x.rd+1 }:Wx).o=x.o from rfl,hp.pg]; simp) t3 hr3 (by show ((xO l key val).map qK).sum≤344; omega) hnt3 (by simp) (by simp)).mono fun r4 m4 hq=>?_)
  simp -implicitDefEqProofs only [st0,qc,reduceIte]
  rcases hq with ⟨a1,x',a2,a3,a4,a5⟩|⟨x',ps,S',a1,a2,a3,a4,a5,a6,a7,a8,a9,a10⟩
  ·exact .inl ⟨qdx hnt3 hr3 a1,x',a2,⟨a3.w,a3.pm,a3.c,a3.p,a3.P,a3.nt,a3.hd,a3.xb,a3.rest,a3.t⟩,a4,u03.trans a5⟩
  ·exact .inr ⟨x',ps,S',a1,⟨a2.w,a2.pm,a2.c,a2.p,a2.P,a2.nt,a2.hd,a2.xb,a2.rest,a2.t⟩,a3,by rw [a4]; exact Nat.le_refl _,a5,a6.low (by omega),(ZF a7).2 (by simpa [neN,Nd.lf] using w4),a8,a9,u03.trans a10⟩
 | succ h ih =>
  intro x m page left lo hi l U hx he hrd hf hle hl40 ht hnd hin
  obtain ⟨n,U',hp,hn,hnt,rfl⟩:=zO.1 ht
  obtain ⟨ks,ps,rfl,hks,hfo⟩:=hnt
  have hne:ks≠[]:=by simpa [neN,Nd.nd] using hn
  obtain ⟨hh,hlk⟩:=hp.here
  have hlt:=xu hh
  have hP:=hx.wr.hP
  have fpl:=hx.XI
  obtain ⟨_,i1,r1,v1,p1⟩:=zd hp.rt rfl
  have i1:ps.length=ks.length+1:=i1
  have r1:qH ks=true:=r1
  have p1:∀ k∈ps,1≤k∧k≤65535:=p1
  have hcl:=(vk key ks r1).2.2
  obtain ⟨p,lo',hi',l0,l1,l2,S0,S1,S2,e1,e2,e3,e4,e5,e6,e7,e8,e9⟩:=Hu (yP x.o.s h) hfo r1 hks hin
  subst e5 e6
  rw [C72]
  refine qo.2 ((vA hx he (by omega) (by omega) (by omega) hh hlk hp.rt hp.sz).mono fun v1 m1 ⟨t1,h1,u1⟩=>?_)
  have x1:=u1.next
  have hT:=t1
  obtain ⟨sp,sk,si,rfl,q1,q2,q3⟩:=t1.ex
  have q3:RSl m.next zG m1 si ps:=q3
  simp -implicitDefEqProofs only [st0,qc,reduceIte]
  refine xR (c:=[.bool (Nd.nd ks ps).leaf,sp,sk,si]) rfl rfl (by simp [q1.one.2,q2.one.2,q3.one.2,show (Value.bool (Nd.nd ks ps).leaf).oneCell'=true from rfl]) fun m2 b2 u2 n2=>?_
  have h2:=h1.qt u2
  have T2:=hT.qt u2
  have z5:=xok h2
  rw [decide_eq_true (show ({ x with rd:=x.rd+1 }:Wx).err=0 from he)] at z5
  have hlf:(Nd.nd ks ps).leaf=false:=rfl
  rw [hlf] at b2
  simp -implicitDefEqProofs only [st0,qc,reduceIte,z5,fa,qG b2 (o:=0+0) rfl,qF b2]
  refine qo.2 ((XO key T2 (QB hp.rt (VJ hp.sz))).mono fun v3 m3 ⟨r3,u3⟩=>?_)
  subst r3
  have x3:=u3.next
  have h3:=h2.qt u3
  have b3:=qA u3 (by omega) b2
  have q33:=(q3.qt u2).qt u3
  have hclt:zJ ks key<ps.length:=by omega
  have hget:ps[zJ ks key]? = some p:=by
   have:=congrArg (fun t:List Nat=>t[zJ ks key]?) e1
   rw [this,List.getElem?_append_right (by rw [List.length_take]; omega),List.length_take,Nat.min_eq_left (by omega),Nat.sub_self]; rfl
  obtain ⟨pk,y1,_,y2⟩:=q33.1.index .i64 hget
  rw [jG] at y1
  have y2:=y2 (.int .i64 (p:Int)) rfl
  have esub:arith .sub (.int .i64 (left:Int)) (.int .i64 1)=some (.int .i64 ((left - 1:Nat):Int)):=by rw [zS (by omega) (by omega)]; congr 2; omega
  have y1':ql 1 si (.int .i64 ((zJ (Nd.nd ks ps).keys key:Nat):Int))=some pk:=y1
  simp -implicitDefEqProofs only [st0,qc,reduceIte,fa,qG b3 (o:=0+3) rfl,y1',y2,esub]
  have u03:Upd x.fp m m3:=((u1.mono (fun b hb _=>by simp at hb; simp [Wx.fp,hb])).qD u2).qD u3
  rw [List.nodup_cons] at hnd
  obtain ⟨hpU,hndU⟩:=hnd
  obtain ⟨nd1,nd2⟩:=JC hndU
  refine qo.2 ((ih { x with rd:=x.rd+1 } m3 p (left - 1) lo' hi' l1 S1 h3 he (by show x.rd+1+h<1000; omega) hf (by omega) (by omega) e3 nd1 e7).mono fun v4 m4 hq=>?_)
  have eput:xO (l0++(l1++l2)) key val=l0++(xO l1 key val++l2):=HQ e8 (fun y hy=>⟨xd (e9 y hy),(XB (e9 y hy)).symm⟩)
  rw [eput]
  rcases hq with ⟨a0,x',a1,a2,a3,a4⟩|⟨x',pts,S1',a1,a2,a3,a4,a5,a6,a7,a8,a9,a10⟩
  ·have z6:=xok a1
   rw [decide_eq_false (show ¬ x'.err=0 by omega),a2.v] at z6
   simp -implicitDefEqProofs only [st0,qc,reduceIte,z6]
   exact .inl ⟨by simp only [List.length_append]; omega,x',a1,⟨a2.w,a2.pm,a2.c,a2.p,a2.P,a2.nt,a2.hd,a2.xb,a2.rest,a2.t⟩,a3,u03.trans a4⟩
  ·have z6:=xok a1
   rw [decide_eq_true a3,a2.v] at z6
   have a2':Kin x x':=⟨a2.w,a2.pm,a2.c,a2.p,a2.P,a2.nt,a2.hd,a2.xb,a2.rest,a2.t⟩
   have a8:Stp x.o.s x'.o.s S1 S1':=a8
   have a10:Upd x.fp m3 m4:=a10
   have x4:=a10.next
   have b4:m4.get m1.next=_:=(a10.same _ (by omega) (fun hm=>by have:=fpl _ hm; omega)).trans b3
   have T4:=((T2.qt u3).upd a10 (fun b hb=>fpl b hb))
   have hkp:=wJ hp.rt hp.sz
   have hu:∀ q∈page::(S0++(S1++S2)),x.o.s q≠none:=vy x.o.s (h+1) page lo hi _ _ ht
   have hkeep:∀ q∈S0++S2,x'.o.s q=x.o.s q∧q∉S1':=fun q hq=>a8.zF (nd2 q hq) (hu q (by
    simp only [List.mem_cons,List.mem_append] at hq ⊢
    rcases hq with h|h<;>simp [h]))
   have hpk:=a8.zF (q:=page) (fun h=>hpU (by simp [h])) (hu page (by simp))
   obtain ⟨f1,f2,f3,f4⟩:=JI (s1:=x'.o.s) hp.rt hp.sz hks hne e1 hcl e2 e4 (fun q hq=>(hkeep q hq).1) (Qm a1.wr.hP) a7
   simp -implicitDefEqProofs only [st0,qc,reduceIte,z6,qF b4]
   have hpl:pts.length≤2:=by
    rcases a7 with ⟨rfl,_⟩|⟨k,q,la,lb,Sa,Sb,rfl,_⟩<;>simp
   refine qo.2 ((Ke (k:=zJ ks key) T4 (a6.low (lo':=m.next) (by omega)) hpl (by omega) hkp.1 hkp.2).mono fun v5 m5 ⟨t5,u5⟩=>?_)
   have x5:=u5.next
   have h5:=a1.qt u5
   have hev:x.v=x'.v:=a2.v.symm
   rw [hev]
   have u05:Upd x.fp m m5:=(u03.trans a10).qD u5
   have hnd':(S0++(S1'++S2)).Nodup:=yb hndU a9 (fun q hq=>(hkeep q hq).2)
   have hpS:page∉S0++(S1'++S2):=by
    simp only [List.mem_append,not_or] at hpU ⊢
    exact ⟨hpU.1,hpk.2,hpU.2.2⟩
   refine qo.2 ((hZ h5 a3 a5 (by rw [hpk.1]; exact hu page (by simp)) t5 f2 f3 f1 hpS hnd').mono fun r6 m6 hq=>?_)
   simp -implicitDefEqProofs only [st0,qc,reduceIte]
   have hst:Stp x.o.s x'.o.s (page::(S0++(S1++S2))) (page::(S0++(S1'++S2))):=a8.ctx (T:=page::(S0++S2)) (fun q=>by simp only [List.mem_cons,List.mem_append]; grind) (fun q=>by simp only [List.mem_cons,List.mem_append]; grind)
   rcases hq with ⟨d1,x'',d2,d3,d4,d5⟩|⟨x'',ps',S',d1,d2,d3,d4,d5,d6,d7,d8,d9,d10⟩
   ·exact .inl ⟨qdx f1 f2 d1,x'',d2,a2'.trans d3,d4,by rw [a2'.fp] at d5; exact u05.trans d5⟩
   ·refine .inr ⟨x'',ps',S',d1,a2'.trans d2,d3,?_,d5,d6.low (by omega),(ZF d7).2 f4,hst.trans d8,d9,by rw [a2'.fp] at d10; exact u05.trans d10⟩
    have a4:x'.rd≤x.rd+1+(h+1):=a4
    omega
end Go.Fx.Tryz
