/- Parts of a proof: TreeG, TreeH, TreeI. Conditions: none. -/
import Derived.Test.YtbhdhhgpfanmcaaGreatDoorQw14
set_option linter.unusedSimpArgs false
set_option linter.unusedVariables false
namespace Go.Fx.Tryz
open Go Go.Fx
theorem qgG {e:TypeId} {size eb k:Nat} {z:Value} {m:Mem} (hk:0<k) (h1:k<=2 ^ 47) (h2:k * eb<=2 ^ 47) (hz:z.cells.toList.length=size) (hz1:z.cells.toList.all (·.oneCell')=true) :
  xk e size eb z (.slice none 0 0) (.int .i64 (k:Int)) m=some (.slice (some ⟨m.next,0,none⟩) k k,m.add ⟨.cells (List.replicate k z.cells.toList).flatten e,false,some size⟩):=by
 have c1:(0:Int)<=(k:Int)/\(k:Int)<=2 ^ 47/\(k:Int).toNat * eb<=2 ^ 47:=⟨by omega,by omega,by simpa using h2⟩;have hlen:((List.replicate k z.cells.toList).flatten).length=k * size:=by simp [hz]
 have hall:((List.replicate k z.cells.toList).flatten).all (·.oneCell')=true:=by
  rw [List.all_eq_true] at hz1 ⊢;intro x hx;obtain ⟨y,hy,hxy⟩:=List.mem_flatten.1 hx;rw [List.mem_replicate] at hy;exact hz1 x (hy.2 ▸ hxy)
 simp only [xk];rw [if_pos c1,Int.toNat_natCast];have hc0:¬ ¬ ((0+k) * eb<=2 ^ 47/\(0+k)<=2 ^ 47/\((List.replicate k z.cells.toList).flatten).length=k * size/\((List.replicate k z.cells.toList).flatten).all (·.oneCell')=true):=by
  simp only [Decidable.not_not]; exact ⟨by rw [Nat.zero_add]; exact h2,by omega,hlen,hall⟩
 simp only [qA,if_neg hc0,if_neg (show ¬ (0+k<=0) by omega),and_self,if_true]
theorem JM {l:List Value} {s:Nat} (k:Nat) (h:l.length=s):((List.replicate k l).flatten).length=(k - 0) * s:=by simp [h]
theorem qdJ {vb n i:Nat} (h:i<n):qi 1 (.slice (some ⟨vb,0,none⟩) n n) (.int .i64 (i:Int))=some (.pointer (some ⟨vb,i,none⟩)):=by
 have:(0:Int)<=(i:Int)/\(i:Int)<(n:Int):=by omega
 simp only [qi,Int.toNat_natCast];simp [h]
theorem VT {α:Type} (c:Nat):∀ (l:List (Value × List α)),(∀ s∈l,s.2.length<=c)->(l.map (·.2.length)).sum<=l.length * c
 | [],_=>by simp
 | a::l,h=>by
  have:=VT c l (λs hs=>h s (by simp [hs]));have:=h a (by simp);rw [List.map_cons,List.sum_cons,lnI,Nat.add_mul]; omega
theorem qfz (k:Nat) (m:Mem) (hk:k<=1000000):W (Call S tab 244 [.slice none 0 0,.int .i64 (k:Int)] m) λr m'=>TAp qK 81 m' r []/\(∀ b∈qc r,m.next<=b)/\Upd [] m m':=by
 have e0:((k:Int)<0)=False:=eq_false (by omega);have e1:kz (.slice none 0 0) m=some (.int .i64 0):=rfl;have e2:qd (.slice none 0 0)=some (.int .i64 0):=rfl;have e3:arith .sub (.int .i64 0) (.int .i64 0)=some (.int .i64 0):=by kernel_rfl
 have e4:arith .sub (.int .i64 (k:Int)) (.int .i64 0)=some (.int .i64 (k:Int)):=by rw [xh (by omega) (by omega)]; simp
 rw [qlF];simp only [st0,e0];rw [P244_0_eq];simp only [st0,e1,e2,e3,e4];by_cases h0:k=0
 ·subst h0;have e5:decide ((0:Int)<((0:Nat):Int))=false:=rfl;simp only [st0,e5];exact ⟨TAp.nil _,λb hb=>by simp [qc] at hb,Upd.refl _ _⟩
 ·have e5:((0:Int)<(k:Int))=True:=eq_true (by omega);have e6:qx 2 (.slice none 0 0) none (some (.int .i64 0)) m=some (.slice none 0 0):=rfl;have e7:xk 81 2 32 (.agg #[.string ⟨#[]⟩,.string ⟨#[]⟩]) (.slice none 0 0) (.int .i64 (k:Int)) m=some (.slice (some ⟨m.next,0,none⟩) k k,m.add ⟨.cells (List.replicate k (Value.cells (.agg #[.string ⟨#[]⟩,.string ⟨#[]⟩])).toList).flatten 81,false,some 2⟩):=qgG (by omega) (by omega) (by omega) rfl rfl;have e8:∀ M,qx 2 (.slice (some ⟨m.next,0,none⟩) k k) none (some (.int .i64 0)) M=some (.slice (some ⟨m.next,0,none⟩) 0 k):=λM=>by
   have:=bV0 (len:=k) (cap:=k) (j:=0) (by omega);simp only [qx];rw [show (Value.int .i64 0)=.int .i64 ((0:Nat):Int) from rfl,this];simp
  simp only [st0,e5,e6,e7,e8];exact ⟨.inr ⟨m.next,k,_,some 2,rfl,by simp,Mem.qf ..,.inr rfl,JM k rfl,by simp⟩,λb hb=>by simp [qc] at hb; omega,Upd.add _ _ _⟩
theorem HQ {vb:Nat} {t:TypeId} {n:Nat}:∀ (ss:List (Value × List Pr)) (i acc:Nat) (m:Mem),n - i=ss.length->i<=n->(∃ pre,pre.length=i/\m.get vb=some ⟨.cells (pre++ss.map (·.1)) t,false,none⟩)->(∀ s∈ss,qd s.1=some (.int .i64 (s.2.length:Int))/\s.2.length<=65536)->n<=3->acc<=i * 65536 ->
  ∀ Q,W (qbv (.slice (some ⟨vb,0,none⟩) n n) (.int .i64 ((acc+(ss.map (·.2.length)).sum:Nat):Int)) m) Q->W (Yg (.slice (some ⟨vb,0,none⟩) n n) (.int .i64 (acc:Int)) (.slice (some ⟨vb,0,none⟩) n n) (.int .i64 (n:Int)) (.int .i64 (i:Int)) m) Q:=by
 intro ss
 induction ss with
 | nil =>
  intro i acc m hd hi hg hs hn ha Q hq;obtain rfl:i=n:=by simp at hd; omega
  rw [P229_0_eq];simp only [st0,Int.lt_irrefl];simpa using hq
 | cons s ss ih =>
  intro i acc m hd hi ⟨pre,hp,hg⟩ hs hn ha Q hq;have hlt:i<n:=by simp at hd; omega
  have e1:((i:Int)<(n:Int))=True:=eq_true (by omega);have e2:=qdJ (vb:=vb) hlt;have e3:qa (.pointer (some ⟨vb,i,none⟩)) m=some s.1:=qm hg (by rw [List.getElem?_append_right (by omega),hp,Nat.sub_self]; rfl);obtain ⟨e4,hsl⟩:=hs s (by simp);have hacc:acc<=3 * 65536:=Nat.le_trans ha (Nat.mul_le_mul_right _ (by omega));have e5:(((acc+s.2.length:Nat):Int)<0)=False:=eq_false (by omega);rw [P229_0_eq];simp only [st0,e1,e2,e3,e4,addN (i:=acc) (j:=s.2.length) (by omega),e5,qB (i:=i) (by omega)];refine ih (i+1) (acc+s.2.length) m (by simp at hd; omega) hlt ⟨pre++[s.1],by simp [hp],by rw [hg]; simp⟩ (λx hx=>hs x (by simp [hx])) hn (by rw [Nat.add_mul]; omega) Q ?_;rw [List.map_cons,List.sum_cons,<- Nat.add_assoc] at hq;exact hq
theorem HR {vb:Nat} {t:TypeId} {n:Nat} {lo:Nat} {m0:Mem} (hvb:vb<m0.next):∀ (ss:List (Value × List Pr)) (i:Nat) (m:Mem) (v:Value) (l:List Pr),n - i=ss.length->i<=n->(∃ pre,pre.length=i/\m.get vb=some ⟨.cells (pre++ss.map (·.1)) t,false,none⟩)->(∀ s∈ss,RSl lo qK m s.1 s.2/\s.2.length<=65536/\∀ b∈qc s.1,b<m0.next)->n<=3->l.length<=i * 65536->TAp qK 81 m v l->(∀ b∈qc v,m0.next<=b)->Upd [] m0 m ->
  W (Yf v (.slice (some ⟨vb,0,none⟩) n n) (.int .i64 (n:Int)) (.int .i64 (i:Int)) m) λr m'=>TAp qK 81 m' r (l++(ss.map (·.2)).flatten)/\(∀ b∈qc r,m0.next<=b)/\Upd [] m0 m':=by
 intro ss
 induction ss with
 | nil =>
  intro i m v l hd hi hg hs hn ha hv hb hu;obtain rfl:i=n:=by simp at hd; omega
  rw [P229_2_eq];simp only [st0,Int.lt_irrefl];simpa using ⟨hv,hb,hu⟩
 | cons s ss ih =>
  intro i m v l hd hi ⟨pre,hp,hg⟩ hs hn ha hv hb hu;have hlt:i<n:=by simp at hd; omega
  have e1:((i:Int)<(n:Int))=True:=eq_true (by omega);have e2:=qdJ (vb:=vb) hlt;have e3:qa (.pointer (some ⟨vb,i,none⟩)) m=some s.1:=qm hg (by rw [List.getElem?_append_right (by omega),hp,Nat.sub_self]; rfl);obtain ⟨e4,hsl,hsb⟩:=hs s (by simp);have hacc:l.length<=3 * 65536:=Nat.le_trans ha (Nat.mul_le_mul_right _ (by omega));rw [P229_2_eq];simp only [st0,e1,e2,e3];refine jy (E:=qK) s.2 (by decide) hv e4.1.src (by omega) λv1 m1 q1 q2 q3=>?_
  simp only [st0,qB (i:=i) (by omega)];have hx:∀ b,b<m0.next->b∉qc v:=λb hb1 hb2=>by have:=hb b hb2; omega
  have:=ih (i+1) m1 v1 (l++s.2) (by simp at hd; omega) hlt ⟨pre++[s.1],by simp [hp],by rw [q2.same vb (Nat.lt_of_lt_of_le hvb hu.next) (hx vb hvb),hg]; simp⟩
   (λx hx'=>⟨(hs x (by simp [hx'])).1.zL q2 (λb hb1=>hx b ((hs x (by simp [hx'])).2.2 b hb1)),(hs x (by simp [hx'])).2⟩) hn (by rw [laI,Nat.add_mul]; omega) q1
   (λb hb1=>(q3 b hb1).elim (hb b) (λh=>Nat.le_trans hu.next h)) (hu.then' q2 (λb hb1=>.inr (hb b hb1)))
  rw [aaI] at this
  rwa [List.map_cons,List.flatten_cons]
theorem qbl {lo vb:Nat} {t:TypeId} {m:Mem} (hvb:vb<m.next) (ss:List (Value × List Pr)) (hn:ss.length<=3) (hg:m.get vb=some ⟨.cells (ss.map (·.1)) t,false,none⟩) (hs:∀ s∈ss,RSl lo qK m s.1 s.2/\s.2.length<=65536) :
  W (Call S tab 229 [.slice (some ⟨vb,0,none⟩) ss.length ss.length] m) λr m'=>TAp qK 81 m' r (ss.map (·.2)).flatten/\(∀ b∈qc r,m.next<=b)/\Upd [] m m':=by
 rw [qlK];have e1:qd (.slice (some ⟨vb,0,none⟩) ss.length ss.length)=some (.int .i64 (ss.length:Int)):=rfl;simp only [st0,e1];have hsum:(ss.map (·.2.length)).sum<=3 * 65536:=Nat.le_trans (VT 65536 ss (λs h=>(hs s h).2)) (Nat.mul_le_mul_right _ hn);refine HQ (n:=ss.length) ss 0 0 m (by simp) (by omega) ⟨[],rfl,by rw [hg]; rfl⟩ (λs h=>⟨(hs s h).1.1.len,(hs s h).2⟩) hn (by omega) _ ?_;rw [Nat.zero_add,P229_1_eq];refine (qfz _ m (by omega)).bind λv1 m1 ⟨t1,b1,u1⟩=>?_
 simp only [st0,e1];exact HR hvb (n:=ss.length) ss 0 m1 v1 [] (by simp) (by omega) ⟨[],rfl,by rw [qq u1 hvb hg]; rfl⟩ (λs h=>⟨(hs s h).1.qn u1,(hs s h).2,λb hb=>((hs s h).1.2 b hb).2⟩) hn (by simp) t1 b1 u1
theorem qfy (k:Nat) (m:Mem) (hk:k<=1000000):W (Call S tab 245 [.slice none 0 0,.int .i64 (k:Int)] m) λr m'=>TAp encS 9 m' r []/\(∀ b∈qc r,m.next<=b)/\Upd [] m m':=by
 have e0:((k:Int)<0)=False:=eq_false (by omega);have e1:kz (.slice none 0 0) m=some (.int .i64 0):=rfl;have e2:qd (.slice none 0 0)=some (.int .i64 0):=rfl;have e3:arith .sub (.int .i64 0) (.int .i64 0)=some (.int .i64 0):=by kernel_rfl
 have e4:arith .sub (.int .i64 (k:Int)) (.int .i64 0)=some (.int .i64 (k:Int)):=by rw [xh (by omega) (by omega)]; simp
 rw [qlE];simp only [st0,e0];rw [P245_0_eq];simp only [st0,e1,e2,e3,e4];by_cases h0:k=0
 ·subst h0;have e5:decide ((0:Int)<((0:Nat):Int))=false:=rfl;simp only [st0,e5];exact ⟨TAp.nil _,λb hb=>by simp [qc] at hb,Upd.refl _ _⟩
 ·have e5:((0:Int)<(k:Int))=True:=eq_true (by omega);have e6:qx 1 (.slice none 0 0) none (some (.int .i64 0)) m=some (.slice none 0 0):=rfl;have e7:xk 9 1 16 (.string ⟨#[]⟩) (.slice none 0 0) (.int .i64 (k:Int)) m=some (.slice (some ⟨m.next,0,none⟩) k k,m.add ⟨.cells (List.replicate k (Value.cells (.string ⟨#[]⟩)).toList).flatten 9,false,some 1⟩):=qgG (by omega) (by omega) (by omega) rfl rfl;have e8:∀ M,qx 1 (.slice (some ⟨m.next,0,none⟩) k k) none (some (.int .i64 0)) M=some (.slice (some ⟨m.next,0,none⟩) 0 k):=λM=>by
   have:=bV0 (len:=k) (cap:=k) (j:=0) (by omega);simp only [qx];rw [show (Value.int .i64 0)=.int .i64 ((0:Nat):Int) from rfl,this];simp
  simp only [st0,e5,e6,e7,e8];exact ⟨.inr ⟨m.next,k,_,some 1,rfl,by simp,Mem.qf ..,.inr rfl,JM k rfl,by simp⟩,λb hb=>by simp [qc] at hb; omega,Upd.add _ _ _⟩
theorem HO {vb:Nat} {t:TypeId} {n:Nat}:∀ (ss:List (Value × List Bs)) (i acc:Nat) (m:Mem),n - i=ss.length->i<=n->(∃ pre,pre.length=i/\m.get vb=some ⟨.cells (pre++ss.map (·.1)) t,false,none⟩)->(∀ s∈ss,qd s.1=some (.int .i64 (s.2.length:Int))/\s.2.length<=65536)->n<=3->acc<=i * 65536 ->
  ∀ Q,W (qbu (.slice (some ⟨vb,0,none⟩) n n) (.int .i64 ((acc+(ss.map (·.2.length)).sum:Nat):Int)) m) Q->W (Ye (.slice (some ⟨vb,0,none⟩) n n) (.int .i64 (acc:Int)) (.slice (some ⟨vb,0,none⟩) n n) (.int .i64 (n:Int)) (.int .i64 (i:Int)) m) Q:=by
 intro ss
 induction ss with
 | nil =>
  intro i acc m hd hi hg hs hn ha Q hq;obtain rfl:i=n:=by simp at hd; omega
  rw [P230_0_eq];simp only [st0,Int.lt_irrefl];simpa using hq
 | cons s ss ih =>
  intro i acc m hd hi ⟨pre,hp,hg⟩ hs hn ha Q hq;have hlt:i<n:=by simp at hd; omega
  have e1:((i:Int)<(n:Int))=True:=eq_true (by omega);have e2:=qdJ (vb:=vb) hlt;have e3:qa (.pointer (some ⟨vb,i,none⟩)) m=some s.1:=qm hg (by rw [List.getElem?_append_right (by omega),hp,Nat.sub_self]; rfl);obtain ⟨e4,hsl⟩:=hs s (by simp);have hacc:acc<=3 * 65536:=Nat.le_trans ha (Nat.mul_le_mul_right _ (by omega));have e5:(((acc+s.2.length:Nat):Int)<0)=False:=eq_false (by omega);rw [P230_0_eq];simp only [st0,e1,e2,e3,e4,addN (i:=acc) (j:=s.2.length) (by omega),e5,qB (i:=i) (by omega)];refine ih (i+1) (acc+s.2.length) m (by simp at hd; omega) hlt ⟨pre++[s.1],by simp [hp],by rw [hg]; simp⟩ (λx hx=>hs x (by simp [hx])) hn (by rw [Nat.add_mul]; omega) Q ?_;rw [List.map_cons,List.sum_cons,<- Nat.add_assoc] at hq;exact hq
theorem HP {vb:Nat} {t:TypeId} {n:Nat} {lo:Nat} {m0:Mem} (hvb:vb<m0.next):∀ (ss:List (Value × List Bs)) (i:Nat) (m:Mem) (v:Value) (l:List Bs),n - i=ss.length->i<=n->(∃ pre,pre.length=i/\m.get vb=some ⟨.cells (pre++ss.map (·.1)) t,false,none⟩)->(∀ s∈ss,RSl lo encS m s.1 s.2/\s.2.length<=65536/\∀ b∈qc s.1,b<m0.next)->n<=3->l.length<=i * 65536->TAp encS 9 m v l->(∀ b∈qc v,m0.next<=b)->Upd [] m0 m ->
  W (Yd v (.slice (some ⟨vb,0,none⟩) n n) (.int .i64 (n:Int)) (.int .i64 (i:Int)) m) λr m'=>TAp encS 9 m' r (l++(ss.map (·.2)).flatten)/\(∀ b∈qc r,m0.next<=b)/\Upd [] m0 m':=by
 intro ss
 induction ss with
 | nil =>
  intro i m v l hd hi hg hs hn ha hv hb hu;obtain rfl:i=n:=by simp at hd; omega
  rw [P230_2_eq];simp only [st0,Int.lt_irrefl];simpa using ⟨hv,hb,hu⟩
 | cons s ss ih =>
  intro i m v l hd hi ⟨pre,hp,hg⟩ hs hn ha hv hb hu;have hlt:i<n:=by simp at hd; omega
  have e1:((i:Int)<(n:Int))=True:=eq_true (by omega);have e2:=qdJ (vb:=vb) hlt;have e3:qa (.pointer (some ⟨vb,i,none⟩)) m=some s.1:=qm hg (by rw [List.getElem?_append_right (by omega),hp,Nat.sub_self]; rfl);obtain ⟨e4,hsl,hsb⟩:=hs s (by simp);have hacc:l.length<=3 * 65536:=Nat.le_trans ha (Nat.mul_le_mul_right _ (by omega));rw [P230_2_eq];simp only [st0,e1,e2,e3];refine jy (E:=encS) s.2 (by decide) hv e4.1.src (by omega) λv1 m1 q1 q2 q3=>?_
  simp only [st0,qB (i:=i) (by omega)];have hx:∀ b,b<m0.next->b∉qc v:=λb hb1 hb2=>by have:=hb b hb2; omega
  have:=ih (i+1) m1 v1 (l++s.2) (by simp at hd; omega) hlt ⟨pre++[s.1],by simp [hp],by rw [q2.same vb (Nat.lt_of_lt_of_le hvb hu.next) (hx vb hvb),hg]; simp⟩
   (λx hx'=>⟨(hs x (by simp [hx'])).1.zL q2 (λb hb1=>hx b ((hs x (by simp [hx'])).2.2 b hb1)),(hs x (by simp [hx'])).2⟩) hn (by rw [laI,Nat.add_mul]; omega) q1
   (λb hb1=>(q3 b hb1).elim (hb b) (λh=>Nat.le_trans hu.next h)) (hu.then' q2 (λb hb1=>.inr (hb b hb1)))
  rw [aaI] at this
  rwa [List.map_cons,List.flatten_cons]
theorem qbk {lo vb:Nat} {t:TypeId} {m:Mem} (hvb:vb<m.next) (ss:List (Value × List Bs)) (hn:ss.length<=3) (hg:m.get vb=some ⟨.cells (ss.map (·.1)) t,false,none⟩) (hs:∀ s∈ss,RSl lo encS m s.1 s.2/\s.2.length<=65536) :
  W (Call S tab 230 [.slice (some ⟨vb,0,none⟩) ss.length ss.length] m) λr m'=>TAp encS 9 m' r (ss.map (·.2)).flatten/\(∀ b∈qc r,m.next<=b)/\Upd [] m m':=by
 rw [qlJ];have e1:qd (.slice (some ⟨vb,0,none⟩) ss.length ss.length)=some (.int .i64 (ss.length:Int)):=rfl;simp only [st0,e1];have hsum:(ss.map (·.2.length)).sum<=3 * 65536:=Nat.le_trans (VT 65536 ss (λs h=>(hs s h).2)) (Nat.mul_le_mul_right _ hn);refine HO (n:=ss.length) ss 0 0 m (by simp) (by omega) ⟨[],rfl,by rw [hg]; rfl⟩ (λs h=>⟨(hs s h).1.1.len,(hs s h).2⟩) hn (by omega) _ ?_;rw [Nat.zero_add,P230_1_eq];refine (qfy _ m (by omega)).bind λv1 m1 ⟨t1,b1,u1⟩=>?_
 simp only [st0,e1];exact HP hvb (n:=ss.length) ss 0 m1 v1 [] (by simp) (by omega) ⟨[],rfl,by rw [qq u1 hvb hg]; rfl⟩ (λs h=>⟨(hs s h).1.qn u1,(hs s h).2,λb hb=>((hs s h).1.2 b hb).2⟩) hn (by simp) t1 b1 u1
theorem qfA (k:Nat) (m:Mem) (hk:k<=1000000):W (Call S tab 246 [.slice none 0 0,.int .i64 (k:Int)] m) λr m'=>TAp zN 3 m' r []/\(∀ b∈qc r,m.next<=b)/\Upd [] m m':=by
 have e0:((k:Int)<0)=False:=eq_false (by omega);have e1:kz (.slice none 0 0) m=some (.int .i64 0):=rfl;have e2:qd (.slice none 0 0)=some (.int .i64 0):=rfl;have e3:arith .sub (.int .i64 0) (.int .i64 0)=some (.int .i64 0):=by kernel_rfl
 have e4:arith .sub (.int .i64 (k:Int)) (.int .i64 0)=some (.int .i64 (k:Int)):=by rw [xh (by omega) (by omega)]; simp
 rw [qlD];simp only [st0,e0];rw [P246_0_eq];simp only [st0,e1,e2,e3,e4];by_cases h0:k=0
 ·subst h0;have e5:decide ((0:Int)<((0:Nat):Int))=false:=rfl;simp only [st0,e5];exact ⟨TAp.nil _,λb hb=>by simp [qc] at hb,Upd.refl _ _⟩
 ·have e5:((0:Int)<(k:Int))=True:=eq_true (by omega);have e6:qx 1 (.slice none 0 0) none (some (.int .i64 0)) m=some (.slice none 0 0):=rfl;have e7:xk 3 1 8 (.int .i64 0) (.slice none 0 0) (.int .i64 (k:Int)) m=some (.slice (some ⟨m.next,0,none⟩) k k,m.add ⟨.cells (List.replicate k (Value.cells (.int .i64 0)).toList).flatten 3,false,some 1⟩):=qgG (by omega) (by omega) (by omega) rfl rfl;have e8:∀ M,qx 1 (.slice (some ⟨m.next,0,none⟩) k k) none (some (.int .i64 0)) M=some (.slice (some ⟨m.next,0,none⟩) 0 k):=λM=>by
   have:=bV0 (len:=k) (cap:=k) (j:=0) (by omega);simp only [qx];rw [show (Value.int .i64 0)=.int .i64 ((0:Nat):Int) from rfl,this];simp
  simp only [st0,e5,e6,e7,e8];exact ⟨.inr ⟨m.next,k,_,some 1,rfl,by simp,Mem.qf ..,.inr rfl,JM k rfl,by simp⟩,λb hb=>by simp [qc] at hb; omega,Upd.add _ _ _⟩
theorem HS {vb:Nat} {t:TypeId} {n:Nat}:∀ (ss:List (Value × List Nat)) (i acc:Nat) (m:Mem),n - i=ss.length->i<=n->(∃ pre,pre.length=i/\m.get vb=some ⟨.cells (pre++ss.map (·.1)) t,false,none⟩)->(∀ s∈ss,qd s.1=some (.int .i64 (s.2.length:Int))/\s.2.length<=65536)->n<=3->acc<=i * 65536 ->
  ∀ Q,W (qbt (.slice (some ⟨vb,0,none⟩) n n) (.int .i64 ((acc+(ss.map (·.2.length)).sum:Nat):Int)) m) Q->W (Yc (.slice (some ⟨vb,0,none⟩) n n) (.int .i64 (acc:Int)) (.slice (some ⟨vb,0,none⟩) n n) (.int .i64 (n:Int)) (.int .i64 (i:Int)) m) Q:=by
 intro ss
 induction ss with
 | nil =>
  intro i acc m hd hi hg hs hn ha Q hq;obtain rfl:i=n:=by simp at hd; omega
  rw [P231_0_eq];simp only [st0,Int.lt_irrefl];simpa using hq
 | cons s ss ih =>
  intro i acc m hd hi ⟨pre,hp,hg⟩ hs hn ha Q hq;have hlt:i<n:=by simp at hd; omega
  have e1:((i:Int)<(n:Int))=True:=eq_true (by omega);have e2:=qdJ (vb:=vb) hlt;have e3:qa (.pointer (some ⟨vb,i,none⟩)) m=some s.1:=qm hg (by rw [List.getElem?_append_right (by omega),hp,Nat.sub_self]; rfl);obtain ⟨e4,hsl⟩:=hs s (by simp);have hacc:acc<=3 * 65536:=Nat.le_trans ha (Nat.mul_le_mul_right _ (by omega));have e5:(((acc+s.2.length:Nat):Int)<0)=False:=eq_false (by omega);rw [P231_0_eq];simp only [st0,e1,e2,e3,e4,addN (i:=acc) (j:=s.2.length) (by omega),e5,qB (i:=i) (by omega)];refine ih (i+1) (acc+s.2.length) m (by simp at hd; omega) hlt ⟨pre++[s.1],by simp [hp],by rw [hg]; simp⟩ (λx hx=>hs x (by simp [hx])) hn (by rw [Nat.add_mul]; omega) Q ?_;rw [List.map_cons,List.sum_cons,<- Nat.add_assoc] at hq;exact hq
theorem HT {vb:Nat} {t:TypeId} {n:Nat} {lo:Nat} {m0:Mem} (hvb:vb<m0.next):∀ (ss:List (Value × List Nat)) (i:Nat) (m:Mem) (v:Value) (l:List Nat),n - i=ss.length->i<=n->(∃ pre,pre.length=i/\m.get vb=some ⟨.cells (pre++ss.map (·.1)) t,false,none⟩)->(∀ s∈ss,RSl lo zN m s.1 s.2/\s.2.length<=65536/\∀ b∈qc s.1,b<m0.next)->n<=3->l.length<=i * 65536->TAp zN 3 m v l->(∀ b∈qc v,m0.next<=b)->Upd [] m0 m ->
  W (Yb v (.slice (some ⟨vb,0,none⟩) n n) (.int .i64 (n:Int)) (.int .i64 (i:Int)) m) λr m'=>TAp zN 3 m' r (l++(ss.map (·.2)).flatten)/\(∀ b∈qc r,m0.next<=b)/\Upd [] m0 m':=by
 intro ss
 induction ss with
 | nil =>
  intro i m v l hd hi hg hs hn ha hv hb hu;obtain rfl:i=n:=by simp at hd; omega
  rw [P231_2_eq];simp only [st0,Int.lt_irrefl];simpa using ⟨hv,hb,hu⟩
 | cons s ss ih =>
  intro i m v l hd hi ⟨pre,hp,hg⟩ hs hn ha hv hb hu;have hlt:i<n:=by simp at hd; omega
  have e1:((i:Int)<(n:Int))=True:=eq_true (by omega);have e2:=qdJ (vb:=vb) hlt;have e3:qa (.pointer (some ⟨vb,i,none⟩)) m=some s.1:=qm hg (by rw [List.getElem?_append_right (by omega),hp,Nat.sub_self]; rfl);obtain ⟨e4,hsl,hsb⟩:=hs s (by simp);have hacc:l.length<=3 * 65536:=Nat.le_trans ha (Nat.mul_le_mul_right _ (by omega));rw [P231_2_eq];simp only [st0,e1,e2,e3];refine jy (E:=zN) s.2 (by decide) hv e4.1.src (by omega) λv1 m1 q1 q2 q3=>?_
  simp only [st0,qB (i:=i) (by omega)];have hx:∀ b,b<m0.next->b∉qc v:=λb hb1 hb2=>by have:=hb b hb2; omega
  have:=ih (i+1) m1 v1 (l++s.2) (by simp at hd; omega) hlt ⟨pre++[s.1],by simp [hp],by rw [q2.same vb (Nat.lt_of_lt_of_le hvb hu.next) (hx vb hvb),hg]; simp⟩
   (λx hx'=>⟨(hs x (by simp [hx'])).1.zL q2 (λb hb1=>hx b ((hs x (by simp [hx'])).2.2 b hb1)),(hs x (by simp [hx'])).2⟩) hn (by rw [laI,Nat.add_mul]; omega) q1
   (λb hb1=>(q3 b hb1).elim (hb b) (λh=>Nat.le_trans hu.next h)) (hu.then' q2 (λb hb1=>.inr (hb b hb1)))
  rw [aaI] at this
  rwa [List.map_cons,List.flatten_cons]
theorem qbm {lo vb:Nat} {t:TypeId} {m:Mem} (hvb:vb<m.next) (ss:List (Value × List Nat)) (hn:ss.length<=3) (hg:m.get vb=some ⟨.cells (ss.map (·.1)) t,false,none⟩) (hs:∀ s∈ss,RSl lo zN m s.1 s.2/\s.2.length<=65536) :
  W (Call S tab 231 [.slice (some ⟨vb,0,none⟩) ss.length ss.length] m) λr m'=>TAp zN 3 m' r (ss.map (·.2)).flatten/\(∀ b∈qc r,m.next<=b)/\Upd [] m m':=by
 rw [qlI];have e1:qd (.slice (some ⟨vb,0,none⟩) ss.length ss.length)=some (.int .i64 (ss.length:Int)):=rfl;simp only [st0,e1];have hsum:(ss.map (·.2.length)).sum<=3 * 65536:=Nat.le_trans (VT 65536 ss (λs h=>(hs s h).2)) (Nat.mul_le_mul_right _ hn);refine HS (n:=ss.length) ss 0 0 m (by simp) (by omega) ⟨[],rfl,by rw [hg]; rfl⟩ (λs h=>⟨(hs s h).1.1.len,(hs s h).2⟩) hn (by omega) _ ?_;rw [Nat.zero_add,P231_1_eq];refine (qfA _ m (by omega)).bind λv1 m1 ⟨t1,b1,u1⟩=>?_
 simp only [st0,e1];exact HT hvb (n:=ss.length) ss 0 m1 v1 [] (by simp) (by omega) ⟨[],rfl,by rw [qq u1 hvb hg]; rfl⟩ (λs h=>⟨(hs s h).1.qn u1,(hs s h).2,λb hb=>((hs s h).1.2 b hb).2⟩) hn (by simp) t1 b1 u1
end Go.Fx.Tryz
namespace Go.Fx.Tryz
open Go Go.Fx
theorem Upd.zu (fp:List Nat) (m:Mem) (n:Nat):Upd fp m (m.zu n):=⟨by simp,λb _ _=>rfl⟩
def qV (a b:Nd) (key:Bs):Nd:=if a.leaf then Nd.lf (a.pairs++b.pairs) else Nd.nd (a.keys++([key]++b.keys)) (a.kids++b.kids)
theorem qD {m:Mem} {b:Nat} {lf:Bool} {sp sk si:Value} (g:m.get b=some (qg lf sp sk si)):ql 4 (.pointer (some ⟨b,0,none⟩)) m=some (kT lf sp sk si):=zG g rfl
theorem qF {m:Mem} {b:Nat} {lf:Bool} {sp sk si:Value} (g:m.get b=some (qg lf sp sk si)):∀ {o:Nat} {x:Value},[Value.bool lf,sp,sk,si][o]? = some x->qa (.pointer (some ⟨b,o,none⟩)) m=some x:=λhx=>qm g hx
theorem qgg (x:Value) (hx:x.cells=#[x]):qt [.bool false,.slice none 0 0,.slice none 0 0,.slice none 0 0] [(0,1,.bool true),(1,1,x)]=some [.bool true,x,.slice none 0 0,.slice none 0 0]:=by
 simp only [qt,hx]; rfl
theorem WJ (x y:Value) (hx:x.cells=#[x]) (hy:y.cells=#[y]):qt [.bool false,.slice none 0 0,.slice none 0 0,.slice none 0 0] [(2,1,x),(3,1,y)]=some [.bool false,.slice none 0 0,x,y]:=by
 simp only [qt,hx,hy]; rfl
theorem _root_.Go.Fx.RSl.one {lo:Nat} {α:Type} {E:Enc α} {m:Mem} {v:Value} {l:List α} (h:RSl lo E m v l):v.cells=#[v]/\v.oneCell'=true:=by
 rcases yY h.1 with ⟨rfl,_⟩|⟨b,off,cap,rfl⟩<;>exact ⟨rfl,rfl⟩
theorem qiS (x y:Value) (hx:x.cells=#[x]) (hy:y.cells=#[y]):qt [.slice none 0 0,.slice none 0 0] [(0,1,x),(1,1,y)]=some [x,y]:=by
 simp only [qt,hx,hy]; rfl
theorem qlc (x y z:Value) (hx:x.cells=#[x]) (hy:y.cells=#[y]) (hz:z.cells=#[z]):qt [.slice none 0 0,.slice none 0 0,.slice none 0 0] [(0,1,x),(1,1,y),(2,1,z)]=some [x,y,z]:=by
 simp only [qt,hx,hy,hz]; rfl
theorem qfk {lo:Nat} {va vb:Value} {a b:Nd} {m:Mem} (key:Bs) (ha:TN lo m va a) (hb:TN lo m vb b) (hfa:a.Fit) (hfb:b.Fit) (hlo:lo<=m.next) :
  W (Call S tab 200 [va,vb,str key] m) λr m'=>TN m.next m' r (qV a b key)/\Upd [] m m':=by
 obtain ⟨sp,sk,si,rfl,a1,a2,a3⟩:=ha.ex;obtain ⟨tp,tk,ti,rfl,b1,b2,b3⟩:=hb.ex;rw [qlX];simp only [st0,qS];have u1:Upd [] m (m.add (qg a.leaf sp sk si)):=Upd.add _ _ _;have g1:(m.add (qg a.leaf sp sk si)).get m.next=some (qg a.leaf sp sk si):=Mem.qf ..;have n1:(m.add (qg a.leaf sp sk si)).next=m.next+1:=rfl;generalize (m.add (qg a.leaf sp sk si))=m1 at u1 g1 n1;have u2:Upd [] m1 (m1.add (qg b.leaf tp tk ti)):=Upd.add _ _ _;have h2:(m1.add (qg b.leaf tp tk ti)).get m1.next=some (qg b.leaf tp tk ti):=Mem.qf ..;have n2:(m1.add (qg b.leaf tp tk ti)).next=m1.next+1:=rfl;have g2:=qq u2 (by omega) g1;generalize (m1.add (qg b.leaf tp tk ti))=m2 at u2 h2 n2 g2;have u3:Upd [] m2 (m2.add (qg false (.slice none 0 0) (.slice none 0 0) (.slice none 0 0))):=Upd.add _ _ _;have o3:(m2.add (qg false (.slice none 0 0) (.slice none 0 0) (.slice none 0 0))).get m2.next=some (qg false (.slice none 0 0) (.slice none 0 0) (.slice none 0 0)):=Mem.qf ..;have n3:(m2.add (qg false (.slice none 0 0) (.slice none 0 0) (.slice none 0 0))).next=m2.next+1:=rfl;have g3:=qq u3 (by omega) g2;have h3:=qq u3 (by omega) h2;generalize (m2.add (qg false (.slice none 0 0) (.slice none 0 0) (.slice none 0 0)))=m3 at u3 o3 n3 g3 h3;have u03:Upd [] m m3:=(u1.qu u2).qu u3;unfold qV;cases hl:a.leaf with
 | true =>
  rw [hl] at g3;simp only [st0,fa,qF g3 (o:=0+0) rfl,qF g3 (o:=0+1) rfl,qF h3 (o:=0+1) rfl,qiS sp tp a1.one.1 b1.one.1];have g4:(m3.add ⟨.cells [sp,tp] 39,false,none⟩).get m3.next=some ⟨.cells [sp,tp] 39,false,none⟩:=Mem.qf ..;have u4:Upd [] m3 (m3.add ⟨.cells [sp,tp] 39,false,none⟩):=Upd.add _ _ _;have n4:(m3.add ⟨.cells [sp,tp] 39,false,none⟩).next=m3.next+1:=rfl;have o4:=qq u4 (by omega) o3;generalize (m3.add ⟨.cells [sp,tp] 39,false,none⟩)=m4 at g4 u4 n4 o4;have u04:=u03.qu u4;have hc:=qbl (lo:=lo) (vb:=m3.next) (by omega) [(sp,a.pairs),(tp,b.pairs)] (by simp) g4 (λs hs=>by
   simp only [lcI,nmI,or_false] at hs;rcases hs with rfl|rfl
   ·exact ⟨a1.qn u04,hfa.pl⟩
   ·exact ⟨b1.qn u04,hfb.pl⟩)
  simp only [lnI,List.length_nil,Nat.zero_add,Nat.reduceAdd] at hc;refine qh.2 (hc.mono λv5 m5 ⟨t5,b5,u5⟩=>?_);have o5:=qq u5 (by omega) o4;have x5:=u5.next;simp only [st0,qgg v5 t5.one.1,qX o5 true (sp':=v5) (sk':=.slice none 0 0) (si':=.slice none 0 0) t5.one.2 rfl rfl,qD (Mem.qe m5 m2.next _)];have hput:Upd [m2.next] m5 (m5.put m2.next (qg true v5 (.slice none 0 0) (.slice none 0 0))):=Upd.put _ _ (by simp);have e5:([(sp,a.pairs),(tp,b.pairs)].map (·.2)).flatten=a.pairs++b.pairs:=by simp
  rw [e5] at t5;exact ⟨⟨_,_,_,rfl,((t5.rsl b5).upd hput (λb hb=>by simp at hb; omega)).low (by omega),RSl.nil _ _ _,RSl.nil _ _ _⟩,(u04.qu u5).ki _ (.inr (by omega))⟩
 | false =>
  rw [hl] at g3;have eK:qt [.string ⟨#[]⟩] [(0,1,str key)]=some (encS.flat [key]):=by kernel_rfl
  have ubu:Upd [] m3 (m3.zu 16):=Upd.zu _ _ _;have nbu:(m3.zu 16).next=m3.next+16:=rfl;have gbu:=qq ubu (by omega) g3;have hbu:=qq ubu (by omega) h3;have obu:=qq ubu (by omega) o3;simp only [st0,fa,qF g3 (o:=0+0) rfl,qF gbu (o:=0+2) rfl,eK];generalize hm4:m3.zu 16=m4 at ubu nbu gbu hbu obu;have k5:(m4.add ⟨.cells (encS.flat [key]) 9,false,none⟩).get m4.next=some ⟨.cells (encS.flat [key]) 9,false,none⟩:=Mem.qf ..;have u5:Upd [] m4 (m4.add ⟨.cells (encS.flat [key]) 9,false,none⟩):=Upd.add _ _ _;have n5:(m4.add ⟨.cells (encS.flat [key]) 9,false,none⟩).next=m4.next+1:=rfl;have tk5:TAp encS 9 (m4.add ⟨.cells (encS.flat [key]) 9,false,none⟩) (.slice (some ⟨m4.next,0,none⟩) [key].length [key].length) [key]:=TAp.fresh m4 [key];generalize (m4.add ⟨.cells (encS.flat [key]) 9,false,none⟩)=m5 at k5 u5 n5 tk5;have g5:=qq u5 (by omega) gbu;have h5:=qq u5 (by omega) hbu;have o5:=qq u5 (by omega) obu;have u05:Upd [] m m5:=(u03.qu ubu).qu u5;simp only [st0,fa,qF h5 (o:=0+2) rfl,qlc sk (.slice (some ⟨m4.next,0,none⟩) 1 1) tk a2.one.1 rfl b2.one.1];have u6:Upd [] m5 (m5.add ⟨.cells [sk,.slice (some ⟨m4.next,0,none⟩) 1 1,tk] 34,false,none⟩):=Upd.add _ _ _;have q6:(m5.add ⟨.cells [sk,.slice (some ⟨m4.next,0,none⟩) 1 1,tk] 34,false,none⟩).get m5.next=some ⟨.cells [sk,.slice (some ⟨m4.next,0,none⟩) 1 1,tk] 34,false,none⟩:=Mem.qf ..;have n6:(m5.add ⟨.cells [sk,.slice (some ⟨m4.next,0,none⟩) 1 1,tk] 34,false,none⟩).next=m5.next+1:=rfl;generalize (m5.add ⟨.cells [sk,.slice (some ⟨m4.next,0,none⟩) 1 1,tk] 34,false,none⟩)=m6 at u6 q6 n6;have g6:=qq u6 (by omega) g5;have h6:=qq u6 (by omega) h5;have o6:=qq u6 (by omega) o5;have u06:Upd [] m m6:=u05.qu u6;have hc:=qbk (lo:=lo) (vb:=m5.next) (by omega) [(sk,a.keys),(.slice (some ⟨m4.next,0,none⟩) 1 1,[key]),(tk,b.keys)] (by simp) q6 (λs hs=>by
   simp only [lcI,nmI,or_false] at hs;rcases hs with rfl|rfl|rfl
   ·exact ⟨a2.qn u06,hfa.kl⟩
   ·exact ⟨(tk5.rsl (λb hb=>by simp [qc] at hb; omega)).qn u6,by simp⟩
   ·exact ⟨b2.qn u06,hfb.kl⟩)
  simp only [lnI,List.length_nil,Nat.zero_add,Nat.reduceAdd] at hc;refine qh.2 (hc.mono λv7 m7 ⟨t7,b7,u7⟩=>?_);have x7:=u7.next;have g7:=qq u7 (by omega) g6;have h7:=qq u7 (by omega) h6;have o7:=qq u7 (by omega) o6;simp only [st0,fa,qF g7 (o:=0+3) rfl,qF h7 (o:=0+3) rfl,qiS si ti a3.one.1 b3.one.1];have u8:Upd [m3.next+12] m7 (m7.put (m3.next+12) ⟨.cells [si,ti] 167,false,none⟩):=Upd.put _ _ (by simp);have q8:(m7.put (m3.next+12) ⟨.cells [si,ti] 167,false,none⟩).get (m3.next+12)=some ⟨.cells [si,ti] 167,false,none⟩:=Mem.qe ..;have n8:(m7.put (m3.next+12) ⟨.cells [si,ti] 167,false,none⟩).next=m7.next:=rfl;generalize (m7.put (m3.next+12) ⟨.cells [si,ti] 167,false,none⟩)=m8 at u8 q8 n8;have kp8:∀ {c:Nat} {x:ABlk},c<m3.next->m7.get c=some x->m8.get c=some x:=λhc hx=>(u8.same _ (by omega) (by simp; omega)).trans hx
  have g8:=kp8 (by omega) g7;have h8:=kp8 (by omega) h7;have o8:=kp8 (by omega) o7;have u08:Upd [] m m8:=(u06.qu u7).then' u8 (λb hb=>.inr (by simp at hb; omega));have hc:=qbm (lo:=lo) (vb:=m3.next+12) (by omega) [(si,a.kids),(ti,b.kids)] (by simp) q8 (λs hs=>by
   simp only [lcI,nmI,or_false] at hs;rcases hs with rfl|rfl
   ·exact ⟨a3.qn u08,hfa.il⟩
   ·exact ⟨b3.qn u08,hfb.il⟩)
  simp only [lnI,List.length_nil,Nat.zero_add,Nat.reduceAdd] at hc;refine qh.2 (hc.mono λv9 m9 ⟨t9,b9,u9⟩=>?_);have x9:=u9.next;have g9:=qq u9 (by omega) g8;have h9:=qq u9 (by omega) h8;have o9:=qq u9 (by omega) o8;have t79:TAp encS 9 m9 v7 _:=(t7.upd u8 (λb hb hm=>by have:=b7 b hb; simp at hm; omega)).qn u9;simp only [st0,WJ v7 v9 t7.one.1 t9.one.1,qX o9 false (sp':=.slice none 0 0) (sk':=v7) (si':=v9) rfl t7.one.2 t9.one.2,qD (Mem.qe m9 m2.next _)];have hput:Upd [m2.next] m9 (m9.put m2.next (qg false (.slice none 0 0) v7 v9)):=Upd.put _ _ (by simp);have e7:([(sk,a.keys),(.slice (some ⟨m4.next,0,none⟩) 1 1,[key]),(tk,b.keys)].map (·.2)).flatten=a.keys++([key]++b.keys):=by simp
  have e9:([(si,a.kids),(ti,b.kids)].map (·.2)).flatten=a.kids++b.kids:=by simp
  rw [e7] at t79;rw [e9] at t9;have g10:(m9.put m2.next (qg false (.slice none 0 0) v7 v9)).get m.next=_:=(Mem.qs m9 _ (by omega)).trans g9;have h10:(m9.put m2.next (qg false (.slice none 0 0) v7 v9)).get m1.next=_:=(Mem.qs m9 _ (by omega)).trans h9;refine jC (λr hr=>?_) (zv.2 ⟨⟨_,_,_,rfl,RSl.nil _ _ _,((t79.rsl b7).upd hput (λb hb=>by simp at hb; omega)).low (by omega),((t9.rsl b9).upd hput (λb hb=>by simp at hb; omega)).low (by omega)⟩,(u08.qu u9).ki _ (.inr (by omega))⟩);simp only [lcI,nmI,or_false] at hr;have hG:∀ M∈[m4,m5,m6,m7,m8,m9,m9.put m2.next (qg false (.slice none 0 0) v7 v9)],M.get m.next=some (qg false sp sk si)/\M.get m1.next=some (qg b.leaf tp tk ti):=by
   intro M hM;simp only [lcI,nmI,or_false] at hM;rcases hM with rfl|rfl|rfl|rfl|rfl|rfl|rfl
   ·exact ⟨gbu,hbu⟩
   ·exact ⟨g5,h5⟩
   ·exact ⟨g6,h6⟩
   ·exact ⟨g7,h7⟩
   ·exact ⟨g8,h8⟩
   ·exact ⟨g9,h9⟩
   ·exact ⟨g10,h10⟩
  rcases hr with rfl|rfl|rfl|rfl
  ·exact okL (λM hM=>qF (hG M hM).1 rfl) (by simp)
  ·exact okL (λM hM=>qF (hG M hM).2 rfl) (by simp)
  ·exact okL (λM hM=>qF (hG M hM).1 rfl) (by simp)
  ·exact okL (λM hM=>qF (hG M hM).2 rfl) (by simp)
end Go.Fx.Tryz
namespace Go.Fx.Tryz
open Go Go.Fx
def xC (w:List Nat) (most all:Nat):Nat->Nat->Nat->Nat
 | 0,i,_=>i
 | d+1,i,part=>if i=0∨(i<most/\2 * part<all) then xC w most all d (i+1) (part+w.getD i 0) else i
def vf (w:List Nat) (most:Nat):Nat:=xC w most w.sum w.length 0 0
def zq (ks:List Bs):Nat:=vf (ks.map λk=>3+k.length) (ks.length - 2)
def zs (ps:List Pr):Nat:=vf (ps.map qJ) (ps.length - 1)
def qz (n:Nd):Nd × Nd × Bs :=
 if n.leaf then (Nd.lf (n.pairs.take (zs n.pairs)),Nd.lf (n.pairs.drop (zs n.pairs)),((n.pairs[zs n.pairs]?).map (·.1)).getD [])
 else (Nd.nd (n.keys.take (zq n.keys)) (n.kids.take (zq n.keys+1)),Nd.nd (n.keys.drop (zq n.keys+1)) (n.kids.drop (zq n.keys+1)),(n.keys[zq n.keys]?).getD [])
theorem Vt (w:List Nat) (most all:Nat):∀ (d i part:Nat),xC w most all d i part<=max i (max 1 most)
 | 0,i,part=>by unfold xC; omega
 | d+1,i,part=>by
  unfold xC;split
  ·rename_i h;have:=Vt w most all d (i+1) (part+w.getD i 0);omega
  ·omega
theorem ZR (w:List Nat) (most all:Nat):∀ (d i part:Nat),i<=xC w most all d i part
 | 0,i,part=>by unfold xC; omega
 | d+1,i,part=>by
  unfold xC;split
  ·have:=ZR w most all d (i+1) (part+w.getD i 0); omega
  ·omega
theorem Zd {w:List Nat} {most:Nat} (h:w≠[]):1<=vf w most:=by
 unfold vf;cases w with
 | nil=>exact absurd rfl h
 | cons a l =>
  simp only [lnI];unfold xC;rw [if_pos (.inl rfl)];exact ZR ..
theorem Zc {w:List Nat} {most:Nat} (h:1<=most):vf w most<=most:=by
 have:=Vt w most w.sum w.length 0 0;unfold vf; omega
theorem kJ (w:List Nat) {i:Nat} (h:i<w.length):(w.take (i+1)).sum=(w.take i).sum+w[i]:=by
 rw [tsI h,List.sum_append]; simp
theorem Xd (w:List Nat) (i:Nat):(w.take i).sum<=w.sum:=by
 have:=congrArg List.sum (List.take_append_drop i w);rw [List.sum_append] at this;omega
theorem qfx {lo:Nat} {ks:List Bs} {sk:Value} (hl:ks.length<=65536) (hk:∀ k∈ks,k.length<=65536) (x4 x5:Value) {Q:Value->Mem->Prop} {m:Mem} (h:RSl lo encS m sk ks) (hQ:W (qbw sk (.int .i64 (((ks.map λk=>3+k.length).sum:Nat):Int)) x4 x5 m) Q) (hs:(ks.map λk=>3+k.length).sum<=65536 * 65539) :
  ∀ (d i:Nat),ks.length - i=d->i<=ks.length->W (Yk sk (.int .i64 ((((ks.map λk=>3+k.length).take i).sum:Nat):Int)) x4 x5 sk (.int .i64 (ks.length:Int)) (.int .i64 (i:Int)) m) Q:=by
 intro d
 induction d with
 | zero =>
  intro i hd hi;obtain rfl:i=ks.length:=by omega
  rw [P204_0_eq];simp only [st0,Int.lt_irrefl];rw [List.take_of_length_le (by simp)];exact hQ
 | succ d ih =>
  intro i hd hi;have hlt:i<ks.length:=by omega
  have e1:((i:Int)<(ks.length:Int))=True:=eq_true (by omega);obtain ⟨p,h1,_,h2⟩:=h.1.index .i64 (jB hlt);rw [xw] at h1;have h2:=h2 (str ks[i]) rfl;have hki:=hk _ (List.getElem_mem hlt);have e3:arith .add (.int .i64 3) (.int .i64 (ks[i].length:Int))=some (.int .i64 ((3+ks[i].length:Nat):Int)):=addN (i:=3) (by omega);have hsum:=Xd (ks.map λk=>3+k.length) i;have ih':=ih (i+1) (by omega) hlt;rw [kJ _ (by simpa using hlt),List.getElem_map] at ih';rw [P204_0_eq];simp only [st0,e1,h1,h2,qZ,e3,addN (i:=((ks.map λk=>3+k.length).take i).sum) (j:=3+ks[i].length) (by omega),qB (i:=i) (by omega)];exact ih'
theorem qdK {lo:Nat} {ks:List Bs} {sk:Value} (hl:ks.length<=65536) (h3:3<=ks.length) (hk:∀ k∈ks,k.length<=65536) {m:Mem} (h:RSl lo encS m sk ks) (all:Nat) (hall:all<=65536 * 65539):∀ (d i part:Nat),ks.length - i=d->i<=ks.length->part<=i * 65539 ->
  W (Yj sk (.int .i64 (all:Int)) (.int .i64 (part:Int)) (.int .i64 (i:Int)) m) λr m'=>r=.int .i64 ((xC (ks.map λk=>3+k.length) (ks.length - 2) all d i part:Nat):Int)/\m'=m:=by
 intro d
 induction d with
 | zero =>
  intro i part hd hi hp;obtain rfl:i=ks.length:=by omega
  have e0:((ks.length:Int)=0)=False:=eq_false (by omega);have e1:arith .sub (.int .i64 (ks.length:Int)) (.int .i64 2)=some (.int .i64 ((ks.length:Int) - 2)):=xh (by omega) (by omega);have e2:((ks.length:Int)<(ks.length:Int) - 2)=False:=eq_false (by omega);rw [P204_2_eq];simp only [st0,e0,zf h,e1,e2,xC];exact ⟨trivial,trivial⟩
 | succ d ih =>
  intro i part hd hi hp;have hlt:i<ks.length:=by omega
  have hi6:i * 65539<=65536 * 65539:=Nat.mul_le_mul_right _ (by omega);obtain ⟨p,h1,_,h2⟩:=h.1.index .i64 (jB hlt);rw [xw] at h1;have h2:=h2 (str ks[i]) rfl;have hki:=hk _ (List.getElem_mem hlt);have e3:arith .add (.int .i64 3) (.int .i64 (ks[i].length:Int))=some (.int .i64 ((3+ks[i].length:Nat):Int)):=addN (i:=3) (by omega);have ih':=ih (i+1) (part+(3+ks[i].length)) (by omega) hlt (by rw [Nat.add_mul]; omega);have hgd:(ks.map λk=>3+k.length).getD i 0=3+ks[i].length:=by
   rw [List.getD_eq_getElem?_getD,List.getElem?_eq_getElem (by simpa using hlt)]; simp
  unfold xC;rw [hgd];rw [P204_2_eq];by_cases h0:i=0
  ·rw [if_pos (.inl h0)];have e0:((i:Int)=0)=True:=eq_true (by omega);simp only [st0,e0,h1,h2,qZ,e3,addN (i:=part) (j:=3+ks[i].length) (by omega),qB (i:=i) (by omega)];exact ih'
  ·have e0:((i:Int)=0)=False:=eq_false (by omega);have e1:arith .sub (.int .i64 (ks.length:Int)) (.int .i64 2)=some (.int .i64 ((ks.length:Int) - 2)):=xh (by omega) (by omega);have e4:arith .mul (.int .i64 2) (.int .i64 (part:Int))=some (.int .i64 ((2 * part:Nat):Int)):=by rw [qgE,wrap64 (by omega) (by omega)]; simp
   by_cases h4:i<ks.length - 2
   ·have e5:((i:Int)<(ks.length:Int) - 2)=True:=eq_true (by omega);by_cases h5:2 * part<all
    ·have e6:(((2 * part:Nat):Int)<(all:Int))=True:=eq_true (by omega);rw [if_pos (.inr ⟨h4,h5⟩)];simp only [st0,e0,zf h,e1,e4,e5,e6,h1,h2,qZ,e3,addN (i:=part) (j:=3+ks[i].length) (by omega),qB (i:=i) (by omega)];exact ih'
    ·have e6:(((2 * part:Nat):Int)<(all:Int))=False:=eq_false (by omega);rw [if_neg (by omega)];simp only [st0,e0,zf h,e1,e4,e5,e6];exact ⟨trivial,trivial⟩
   ·have e5:((i:Int)<(ks.length:Int) - 2)=False:=eq_false (by omega);rw [if_neg (by omega)];simp only [st0,e0,zf h,e1,e5];exact ⟨trivial,trivial⟩
theorem vi {α:Type} (f:α->Nat) (c:Nat):∀ l:List α,(∀ a∈l,f a<=c)->(l.map f).sum<=l.length * c
 | [],_=>by simp
 | a::l,h=>by
  have:=vi f c l (λs hs=>h s (by simp [hs]));have:=h a (by simp);rw [List.map_cons,List.sum_cons,lnI,Nat.add_mul]; omega
theorem qhZ {lo:Nat} {ks:List Bs} {sk:Value} {m:Mem} (hl:ks.length<=65536) (h3:3<=ks.length) (hk:∀ k∈ks,k.length<=65536) (h:RSl lo encS m sk ks):Call S tab 204 [sk] m=some (.int .i64 ((zq ks:Nat):Int),m):=by
 refine W_eq ?_;have hs:(ks.map λk=>3+k.length).sum<=65536 * 65539:=Nat.le_trans (vi _ 65539 ks (λk hk'=>by have:=hk k hk'; omega)) (Nat.mul_le_mul_right _ hl);rw [qlT];simp only [st0,zf h];refine qfx hl hk _ _ h ?_ hs _ 0 rfl (by omega);rw [P204_1_eq];have:=qdK hl h3 hk h _ hs _ 0 0 rfl (by omega) (by omega);simpa [zq,vf] using this
theorem qfp {lo:Nat} {l:List Pr} {sp:Value} (hl:l.length<=65536) (hk:∀ p∈l,p.1.length<=65536/\p.2.length<=65536) (x2 x3 x6 x7:Value) {Q:Value->Mem->Prop} {m0:Mem} (hQ:∀ m,Upd [] m0 m->W (qby sp x2 x3 (.int .i64 (((l.map qJ).sum:Nat):Int)) x6 x7 m) Q) (hs:(l.map qJ).sum<=65536 * 131074) :
  ∀ (d i:Nat) (m:Mem),l.length - i=d->i<=l.length->RSl lo qK m sp l->Upd [] m0 m->W (Yl sp x2 x3 (.int .i64 ((((l.map qJ).take i).sum:Nat):Int)) x6 x7 sp (.int .i64 (l.length:Int)) (.int .i64 (i:Int)) m) Q:=by
 intro d
 induction d with
 | zero =>
  intro i m hd hi h hu;obtain rfl:i=l.length:=by omega
  rw [P203_0_eq];simp only [st0,Int.lt_irrefl];rw [List.take_of_length_le (by simp)];exact hQ m hu
 | succ d ih =>
  intro i m hd hi h hu;have hlt:i<l.length:=by omega
  have e1:((i:Int)<(l.length:Int))=True:=eq_true (by omega);obtain ⟨b,off,h1,h2⟩:=h.1.at .i64 (jB hlt);rw [qT] at h1 h2;have h2:=h2 m h.1;have hp:=hk _ (List.getElem_mem hlt);have hsum:=Xd (l.map qJ) i;have hw:qJ l[i]<=131074:=by unfold qJ; omega
  rw [P203_0_eq];simp only [st0,e1,h1,h2.1];refine jf (c:=qK.cells l[i]) rfl rfl rfl λm1 g1 u1 n1=>?_
  have lw:ql 2 (.pointer (some ⟨m.next,0,none⟩)) m1=some (qce l[i]):=zG g1 rfl;simp only [st0,lw];refine qh.2 ((XV l[i] m1 hp.1 hp.2).mono λv2 m2 ⟨r2,u2⟩=>?_);subst r2;have ih':=ih (i+1) m2 (by omega) hlt ((h.qn u1).qn u2) ((hu.qu u1).qu u2);rw [kJ _ (by simpa using hlt),List.getElem_map] at ih';simp only [st0,addN (i:=((l.map qJ).take i).sum) (j:=qJ l[i]) (by omega),qB (i:=i) (by omega)];exact ih'
theorem qdF {lo:Nat} {l:List Pr} {sp:Value} (hl:l.length<=65536) (h2l:2<=l.length) (hk:∀ p∈l,p.1.length<=65536/\p.2.length<=65536) (x2 x3:Value) {Q:Value->Mem->Prop} {m0:Mem} (all:Nat) (hall:all<=65536 * 131074) (r:Nat)
  (hQ:∀ m,Upd [] m0 m->W (qbx sp x2 x3 (.int .i64 (r:Int)) m) Q):∀ (d i part:Nat) (m:Mem),l.length - i=d->i<=l.length->part<=i * 131074->RSl lo qK m sp l->Upd [] m0 m->xC (l.map qJ) (l.length - 1) all d i part=r ->
  W (Kw sp x2 x3 (.int .i64 (all:Int)) (.int .i64 (part:Int)) (.int .i64 (i:Int)) m) Q:=by
 intro d
 induction d with
 | zero =>
  intro i part m hd hi hp h hu hr;obtain rfl:i=l.length:=by omega
  have e0:((l.length:Int)=0)=False:=eq_false (by omega);have e1:arith .sub (.int .i64 (l.length:Int)) (.int .i64 1)=some (.int .i64 ((l.length:Int) - 1)):=xh (by omega) (by omega);have e2:((l.length:Int)<(l.length:Int) - 1)=False:=eq_false (by omega);unfold xC at hr;subst hr;rw [P203_2_eq];simp only [st0,e0,zf h,e1,e2];exact hQ m hu
 | succ d ih =>
  intro i part m hd hi hp h hu hr;have hlt:i<l.length:=by omega
  have hi6:i * 131074<=65536 * 131074:=Nat.mul_le_mul_right _ (by omega);obtain ⟨b,off,h1,h2⟩:=h.1.at .i64 (jB hlt);rw [qT] at h1 h2;have h2:=h2 m h.1;have hpi:=hk _ (List.getElem_mem hlt);have hw:qJ l[i]<=131074:=by unfold qJ; omega
  have hgd:(l.map qJ).getD i 0=qJ l[i]:=by
   rw [List.getD_eq_getElem?_getD,List.getElem?_eq_getElem (by simpa using hlt)]; simp
  unfold xC at hr;rw [hgd] at hr;have step:xC (l.map qJ) (l.length - 1) all d (i+1) (part+qJ l[i])=r->W ((Call S tab 202 [qce l[i]] m).bind λp22=>(arith .add (.int .i64 (part:Int)) p22.1).bind λv23=>(arith .add (.int .i64 (i:Int)) (.int .i64 1)).bind λv24=>Kw sp x2 x3 (.int .i64 (all:Int)) v23 v24 p22.2) Q:=by
   intro hr';refine qh.2 ((XV l[i] m hpi.1 hpi.2).mono λv2 m2 ⟨r2,u2⟩=>?_);subst r2;simp only [st0,addN (i:=part) (j:=qJ l[i]) (by omega),qB (i:=i) (by omega)];exact ih (i+1) _ m2 (by omega) hlt (by rw [Nat.add_mul]; omega) (h.qn u2) (hu.qu u2) hr'
  rw [P203_2_eq];by_cases h0:i=0
  ·rw [if_pos (.inl h0)] at hr;have e0:((i:Int)=0)=True:=eq_true (by omega);simp only [st0,e0,h1,h2.1];exact step hr
  ·have e0:((i:Int)=0)=False:=eq_false (by omega);have e1:arith .sub (.int .i64 (l.length:Int)) (.int .i64 1)=some (.int .i64 ((l.length:Int) - 1)):=xh (by omega) (by omega);have e4:arith .mul (.int .i64 2) (.int .i64 (part:Int))=some (.int .i64 ((2 * part:Nat):Int)):=by rw [qgE,wrap64 (by omega) (by omega)]; simp
   by_cases h4:i<l.length - 1
   ·have e5:((i:Int)<(l.length:Int) - 1)=True:=eq_true (by omega);by_cases h5:2 * part<all
    ·have e6:(((2 * part:Nat):Int)<(all:Int))=True:=eq_true (by omega);rw [if_pos (.inr ⟨h4,h5⟩)] at hr;simp only [st0,e0,zf h,e1,e4,e5,e6,h1,h2.1];exact step hr
    ·have e6:(((2 * part:Nat):Int)<(all:Int))=False:=eq_false (by omega);rw [if_neg (by omega)] at hr;subst hr;simp only [st0,e0,zf h,e1,e4,e5,e6];exact hQ m hu
   ·have e5:((i:Int)<(l.length:Int) - 1)=False:=eq_false (by omega);rw [if_neg (by omega)] at hr;subst hr;simp only [st0,e0,zf h,e1,e5];exact hQ m hu
theorem VV {lo:Nat} {l:List Pr} {sp:Value} {m:Mem} (hl:l.length<=65536) (h2l:2<=l.length) (hk:∀ p∈l,p.1.length<=65536/\p.2.length<=65536) (h:RSl lo qK m sp l) :
  W (Call S tab 203 [sp] m) λr m'=>(∃ va vb,r=.tuple #[va,vb,str (((l[zs l]?).map (·.1)).getD [])]/\TN m.next m' va (Nd.lf (l.take (zs l)))/\TN m.next m' vb (Nd.lf (l.drop (zs l))))/\Upd [] m m':=by
 have hs:(l.map qJ).sum<=65536 * 131074:=Nat.le_trans (vi _ 131074 l (λp hp=>by have:=hk p hp; unfold qJ; omega)) (Nat.mul_le_mul_right _ hl);have hh1:1<=zs l:=Zd (by cases l with|nil=>simp at h2l|cons a r=>simp)
 have hh2:zs l<=l.length - 1:=Zc (by omega);have hlt:zs l<l.length:=by omega
 rw [qlU];simp only [st0,zf h];have u1:Upd [] m (m.add (qg false (.slice none 0 0) (.slice none 0 0) (.slice none 0 0))):=Upd.add _ _ _;have g1:(m.add (qg false (.slice none 0 0) (.slice none 0 0) (.slice none 0 0))).get m.next=some (qg false (.slice none 0 0) (.slice none 0 0) (.slice none 0 0)):=Mem.qf ..;have n1:(m.add (qg false (.slice none 0 0) (.slice none 0 0) (.slice none 0 0))).next=m.next+1:=rfl;generalize (m.add (qg false (.slice none 0 0) (.slice none 0 0) (.slice none 0 0)))=m1 at u1 g1 n1;have u2:Upd [] m1 (m1.add (qg false (.slice none 0 0) (.slice none 0 0) (.slice none 0 0))):=Upd.add _ _ _;have h2:(m1.add (qg false (.slice none 0 0) (.slice none 0 0) (.slice none 0 0))).get m1.next=some (qg false (.slice none 0 0) (.slice none 0 0) (.slice none 0 0)):=Mem.qf ..;have n2:(m1.add (qg false (.slice none 0 0) (.slice none 0 0) (.slice none 0 0))).next=m1.next+1:=rfl;have g2:=qq u2 (by omega) g1;generalize (m1.add (qg false (.slice none 0 0) (.slice none 0 0) (.slice none 0 0)))=m2 at u2 h2 n2 g2;have u02:=u1.qu u2;refine qfp (m0:=m2) hl hk _ _ _ _ (λm3 u3=>?_) hs _ 0 m2 rfl (by omega) (h.qn u02) (Upd.refl _ _);rw [P203_1_eq];refine qdF (m0:=m2) hl h2l hk _ _ _ hs (zs l) (λm4 u4=>?_) _ 0 0 m3 rfl (by omega) (by omega) ((h.qn u02).qn u3) u3 (by simp [zs,vf]);have g4:=qq u4 (by omega) g2;have h4:=qq u4 (by omega) h2;have k4:=(h.qn u02).qn u4;have x4:=u4.next;have u04:=u02.qu u4;obtain ⟨va,ea,ka⟩:=k4.YG (k:=zs l) (by omega);obtain ⟨vb,eb,kb⟩:=k4.from (k:=zs l) (by omega);rw [qT] at ea eb;rw [P203_3_eq];simp only [st0,ea];refine qh.2 ((ZV ka (by rw [ltI]; omega)).mono λv5 m5 ⟨t5,u5,b5⟩=>?_);have k5:=k4.qn u5;have eb5:=eb m5 (λb hb=>u5.same b (k4.2 b hb).2 (by simp));simp only [st0,qgg v5 t5.ap.one.1,eb5];refine qh.2 ((ZV (kb.qn u5) (by rw [ldI]; omega)).mono λv6 m6 ⟨t6,u6,b6⟩=>?_);have k6:=k5.qn u6;obtain ⟨b,off,q1,q2⟩:=k6.1.at .i64 (jB hlt);rw [qT] at q1;have qv:∀ {M:Mem},RSl lo qK M sp l->qa (.pointer (some ⟨b,off+0,none⟩)) M=some (str l[zs l].1):=λhM=>(q2 _ hM.1).2 0 (str l[zs l].1) rfl
 have x5:=u5.next;have x6:=u6.next;have g6:=qq u6 (by omega) (qq u5 (by omega) g4);have h6:=qq u6 (by omega) (qq u5 (by omega) h4);simp only [st0,qgg v6 t6.ap.one.1,q1,fa,qv k6,qX g6 true (sp':=v5) (sk':=.slice none 0 0) (si':=.slice none 0 0) t5.ap.one.2 rfl rfl];have g7:(m6.put m.next (qg true v5 (.slice none 0 0) (.slice none 0 0))).get m.next=_:=Mem.qe ..;have h7:(m6.put m.next (qg true v5 (.slice none 0 0) (.slice none 0 0))).get m1.next=_:=(Mem.qs m6 _ (by omega)).trans h6;have u7:Upd [m.next] m6 (m6.put m.next (qg true v5 (.slice none 0 0) (.slice none 0 0))):=Upd.put _ _ (by simp);generalize (m6.put m.next (qg true v5 (.slice none 0 0) (.slice none 0 0)))=m7 at g7 h7 u7;simp only [st0,qX h7 true (sp':=v6) (sk':=.slice none 0 0) (si':=.slice none 0 0) t6.ap.one.2 rfl rfl];have h8:(m7.put m1.next (qg true v6 (.slice none 0 0) (.slice none 0 0))).get m1.next=_:=Mem.qe ..;have g8:(m7.put m1.next (qg true v6 (.slice none 0 0) (.slice none 0 0))).get m.next=_:=(Mem.qs m7 _ (by omega)).trans g7;have u8:Upd [m1.next] m7 (m7.put m1.next (qg true v6 (.slice none 0 0) (.slice none 0 0))):=Upd.put _ _ (by simp);generalize (m7.put m1.next (qg true v6 (.slice none 0 0) (.slice none 0 0)))=m8 at g8 h8 u8;have x7:=u7.next;have x8:=u8.next;have hnk:∀ {c:Nat},m.next<=c->c<m4.next->∀ b∈qc sp,b≠c:=λhc1 hc2 b hb=>by have:=(h.2 b hb).2; omega
 have k7:=k6.zL u7 (λb hb hm=>by simp at hm; have:=(h.2 b hb).2; omega);have k8:=k7.zL u8 (λb hb hm=>by simp at hm; have:=(h.2 b hb).2; omega);have ta:TAp qK 81 m8 v5 (l.take (zs l)):=((t5.ap.qn u6).upd u7 (λb hb hm=>by simp at hm; have:=b5 b hb; omega)).upd u8 (λb hb hm=>by simp at hm; have:=b5 b hb; omega);have tb:TAp qK 81 m8 v6 (l.drop (zs l)):=(t6.ap.upd u7 (λb hb hm=>by simp at hm; have:=b6 b hb; omega)).upd u8 (λb hb hm=>by simp at hm; have:=b6 b hb; omega);simp only [st0,qD g8,qD h8];refine jC (λr hr=>?_) (zv.2 ⟨⟨_,_,?_,⟨_,_,_,rfl,ta.rsl (λb hb=>by have:=b5 b hb; omega),RSl.nil _ _ _,RSl.nil _ _ _⟩,⟨_,_,_,rfl,tb.rsl (λb hb=>by have:=b6 b hb; omega),RSl.nil _ _ _,RSl.nil _ _ _⟩⟩,?_⟩)
 ·simp only [lcI,nmI,or_false] at hr;rcases hr with rfl|rfl|rfl
  ·exact okR λk _ hk'=>by
    obtain rfl:k=0:=by omega
    exact ⟨_,rfl,ea _⟩
  ·exact okR λk _ hk'=>by
    have:k=0∨k=1:=by omega
    rcases this with rfl|rfl
    ·exact ⟨_,rfl,eb _ (λ_ _=>rfl)⟩
    ·exact ⟨_,rfl,eb5⟩
  ·exact okL (λM hM=>by
    simp only [lcI,nmI,or_false] at hM;rcases hM with rfl|rfl|rfl|rfl|rfl
    ·exact qv k4
    ·exact qv k5
    ·exact qv k6
    ·exact qv k7
    ·exact qv k8) (by simp)
 ·rw [List.getElem?_eq_getElem hlt]; rfl
 ·exact (((u04.qu u5).qu u6).then' u7 (λb hb=>.inr (by simp at hb; omega))).then' u8 (λb hb=>.inr (by simp at hb; omega))
end Go.Fx.Tryz
