/- Parts of a proof: TreeM, TreeA, TreeB, TreeC, TreeD. Conditions: none. -/
import Derived.Test.YtbhdhhgpfanmcaaGreatDoorQw12
set_option linter.unusedSimpArgs false
set_option linter.unusedVariables false
namespace Go.Fx
open Go
abbrev Bs:=List UInt8
abbrev Pr:=Bs × Bs
structure Nd where
 leaf:Bool
 pairs:List Pr
 keys:List Bs
 kids:List Nat
deriving DecidableEq
def Nd.lf (l:List Pr):Nd:=⟨true,l,[],[]⟩
def Nd.nd (ks:List Bs) (ps:List Nat):Nd:=⟨false,[],ks,ps⟩
def qJ (p:Pr):Nat:=2+p.1.length+p.2.length
def qW (n:Nd):Nat:=if n.leaf then 2+(n.pairs.map qJ).sum else 4+(n.keys.map λk=>3+k.length).sum
def ltB (a b:Bs):Bool:=decide (a<b)
def qE:List Bs->Bool
 | []=>true
 | k::r=>decide (k≠[])&&decide (k.length<=32)&&(match r with|[]=>true|j::_=>ltB k j)&&qE r
def qO (n:Nd):Bool :=
 if n.leaf then n.keys.isEmpty&&n.kids.isEmpty&&qE (n.pairs.map (·.1))&&n.pairs.all (λp=>decide (p.2.length<=40))
 else n.pairs.isEmpty&&decide (n.kids.length=n.keys.length+1)&&qE n.keys&&n.kids.all (λk=>decide (1<=k/\k<=65535))
def xI (k:Nat):Bs:=[UInt8.ofNat (k / 256),UInt8.ofNat k]
def zD (s:Bs):Bs:=UInt8.ofNat s.length::s
def xR (p:Pr):Bs:=zD p.1++zD p.2
def yk (p:Bs × Nat):Bs:=zD p.1++xI p.2
def vg (n:Nd):Bs :=
 if n.leaf then [1,UInt8.ofNat n.pairs.length]++(n.pairs.map xR).flatten
 else [2,UInt8.ofNat n.keys.length]++xI (n.kids.headD 0)++((n.keys.zip n.kids.tail).map yk).flatten
def qp (k:Nat):Bs:=List.replicate k 0
def zC (n:Nd):Bs:=vg n++qp (256 - (vg n).length)
theorem ZL (p:Pr):(xR p).length=qJ p:=by simp [xR,zD,qJ]; omega
theorem JS (p:Bs × Nat):(yk p).length=3+p.1.length:=by simp [yk,zD,xI]; omega
theorem wN {α:Type} (f:α->Bs) (g:α->Nat) (h:∀ a,(f a).length=g a):∀ l:List α,((l.map f).flatten).length=(l.map g).sum
 | []=>rfl
 | a::l=>by rw [List.map_cons,List.flatten_cons,laI,wN f g h l,h a,List.map_cons,List.sum_cons]
theorem Qy:∀ (ks:List Bs) (ps:List Nat),ks.length<=ps.length->((ks.zip ps).map λp=>3+p.1.length).sum=(ks.map λk=>3+k.length).sum
 | [],_,_=>by simp
 | k::ks,[],h=>by simp at h
 | k::ks,p::ps,h=>by
  simp only [List.zip_cons_cons,List.map_cons,List.sum_cons];rw [Qy ks ps (by simpa using h)]
theorem ZW {n:Nd} (h:qO n=true):(vg n).length=qW n:=by
 unfold vg qW;cases hl:n.leaf with
 | true =>
  simp only [if_true,laI,lnI,List.length_nil];rw [wN xR qJ ZL]
 | false =>
  simp only [qO,hl,Bool.false_eq_true,if_false,baI,decide_eq_true_eq] at h;simp only [Bool.false_eq_true,if_false,laI,lnI,List.length_nil,xI];rw [wN yk (λp=>3+p.1.length) JS,Qy _ _ (by rw [List.length_tail]; omega)]
theorem Zn {n:Nd} (h:qO n=true) (hs:qW n<=256):(zC n).length=256:=by
 have:=ZW h;simp [zC,qp]; omega
structure RSl {α:Type} (lo:Nat) (E:Enc α) (m:Mem) (v:Value) (l:List α):Prop where
 ts:TSl E m v l
 lt:∀ b∈qc v,lo<=b/\b<m.next
 kn:∀ b∈qc v,m.known b=.exact∨m.known b=.loose E.size
section
variable {α:Type} {E:Enc α} {lo:Nat}
theorem RSl.zL {fp:List Nat} {m m':Mem} {v:Value} {l:List α} (h:RSl lo E m v l) (hu:Upd fp m m') (hf:∀ b∈qc v,b∉fp):RSl lo E m' v l :=
 ⟨h.1.upd hu (λb hb=>⟨(h.2 b hb).2,hf b hb⟩),λb hb=>⟨(h.2 b hb).1,Nat.lt_of_lt_of_le (h.2 b hb).2 hu.next⟩,λb hb=>by
  have:=h.3 b hb;simp only [Mem.known] at this ⊢;rw [hu.same b (h.2 b hb).2 (hf b hb)];exact this⟩
theorem RSl.upd {fp:List Nat} {m m':Mem} {v:Value} {l:List α} (h:RSl lo E m v l) (hu:Upd fp m m') (hf:∀ b∈fp,b<lo):RSl lo E m' v l :=
 h.zL hu (λb hb hm=>by have:=hf b hm; have:=(h.2 b hb).1; omega)
theorem RSl.qn {m m':Mem} {v:Value} {l:List α} (h:RSl lo E m v l) (hu:Upd [] m m'):RSl lo E m' v l:=h.upd hu (λb hb=>by cases hb)
theorem RSl.low {lo':Nat} {m:Mem} {v:Value} {l:List α} (h:RSl lo E m v l) (hl:lo'<=lo):RSl lo' E m v l:=⟨h.1,λb hb=>⟨Nat.le_trans hl (h.2 b hb).1,(h.2 b hb).2⟩,h.3⟩
theorem RSl.nil (lo:Nat) (E:Enc α) (m:Mem):RSl lo E m (.slice none 0 0) []:=⟨TSl.nil m,λb hb=>by simp [qc] at hb,λb hb=>by simp [qc] at hb⟩
theorem TAp.rsl {e:TypeId} {m:Mem} {v:Value} {l:List α} (h:TAp E e m v l) (hl:∀ b∈qc v,lo<=b):RSl lo E m v l:=⟨h.tsl,λb hb=>⟨hl b hb,h.lt b hb⟩,λb hb=>by
 rcases h with ⟨rfl,rfl⟩|⟨c,cap,rest,x,rfl,h1,hg,hx,_⟩
 ·simp [qc] at hb
 ·simp [qc] at hb;subst hb;rcases hx with rfl|rfl
  ·left; simp [Mem.known,hg]
  ·right; simp [Mem.known,hg]⟩
theorem RSl.from {m:Mem} {v:Value} {l:List α} (h:RSl lo E m v l) {k:Nat} (hk:k<=l.length) :
  ∃ v',(∀ m',(∀ b∈qc v,m'.get b=m.get b)->qx E.size v (some (.int .i64 (k:Int))) none m'=some v')/\RSl lo E m v' (l.drop k):=by
 have h1:=h.1;obtain ⟨hcl,⟨rfl,h0⟩|⟨b,off,cap,rfl,hc,hd⟩⟩:=h1
 ·obtain rfl:l=[]:=by simpa using h0
  obtain rfl:k=0:=by simpa using hk
  exact ⟨.slice none 0 0,λm' _=>by simp [qx,zz,xB],RSl.nil _ _ _⟩
 ·have hkn:=h.3 b (by simp [qc]);refine ⟨.slice (some ⟨b,if cap=k then off else off+k * E.size,none⟩) (l.length - k) (cap - k),λm' hm'=>?_,⟨E.zd _,.inr ⟨b,_,cap - k,by rw [ldI],by rw [ldI]; omega,?_⟩⟩,λc hcb=>h.2 c (by simp [qc] at hcb ⊢; exact hcb),λc hcb=>h.3 c (by simp [qc] at hcb ⊢; exact hcb)⟩
  ·have hbd:zz l.length cap (some (.int .i64 (k:Int))) none=some (k,l.length):=by
    have:(0:Int)<=(k:Int)/\(k:Int)<=(l.length:Int):=by omega
    simp only [zz,xB,bmI,if_pos this,Option.map_some];simp
   have hkn':m'.known b=m.known b:=by simp only [Mem.known]; rw [hm' b (by simp [qc])]
   simp only [qx,hbd,bmI,hkn'];rw [if_pos (.inr hkn)]
  ·by_cases h0:l.length - k=0
   ·left; rw [ldI]; exact h0
   ·right;rcases hd with hd|⟨c,hcs,hle,hpc⟩
    ·omega
    ·have hf:=E.zd l;refine ⟨c,hcs,?_,?_⟩
     ·rw [if_neg (by omega),ldI,Nat.add_assoc,<- Nat.add_mul];have:k+(l.length - k)=l.length:=by omega
      rw [this]; exact hle
     ·rw [if_neg (by omega),<- E.wq,hpc,ldI,<- List.drop_drop,List.drop_take,Nat.sub_mul]
theorem RSl.YG {m:Mem} {v:Value} {l:List α} (h:RSl lo E m v l) {k:Nat} (hk:k<=l.length) :
  ∃ v',(∀ m',qx E.size v none (some (.int .i64 (k:Int))) m'=some v')/\RSl lo E m v' (l.take k):=by
 obtain ⟨v',h1,h2,h3⟩:=h.1.qbK hk;exact ⟨v',h1,h2,by rw [h3]; exact h.2,by rw [h3]; exact h.3⟩
end
def qK:Enc Pr:=⟨2,λp=>[str p.1,str p.2],λ_=>rfl,λ_=>rfl⟩
def zN:Enc Nat:=⟨1,λk=>[.int .i64 (k:Int)],λ_=>rfl,λ_=>rfl⟩
theorem qT:qK.size=2:=rfl
theorem jU:zN.size=1:=rfl
theorem xw:encS.size=1:=rfl
abbrev qce (p:Pr):Value:=.agg #[str p.1,str p.2]
abbrev kT (b:Bool) (sp sk si:Value):Value:=.agg #[.bool b,sp,sk,si]
structure TN (lo:Nat) (m:Mem) (v:Value) (n:Nd):Prop where
 ex:∃ sp sk si,v=kT n.leaf sp sk si/\RSl lo qK m sp n.pairs/\RSl lo encS m sk n.keys/\RSl lo zN m si n.kids
theorem TN.upd {lo:Nat} {fp:List Nat} {m m':Mem} {v:Value} {n:Nd} (h:TN lo m v n) (hu:Upd fp m m') (hf:∀ b∈fp,b<lo):TN lo m' v n:=by
 obtain ⟨sp,sk,si,e,h1,h2,h3⟩:=h.ex;exact ⟨sp,sk,si,e,h1.upd hu hf,h2.upd hu hf,h3.upd hu hf⟩
theorem TN.qn {lo:Nat} {m m':Mem} {v:Value} {n:Nd} (h:TN lo m v n) (hu:Upd [] m m'):TN lo m' v n:=h.upd hu (λb hb=>by cases hb)
theorem TN.low {lo lo':Nat} {m:Mem} {v:Value} {n:Nd} (h:TN lo m v n) (hl:lo'<=lo):TN lo' m v n:=by
 obtain ⟨sp,sk,si,e,h1,h2,h3⟩:=h.ex;exact ⟨sp,sk,si,e,h1.low hl,h2.low hl,h3.low hl⟩
structure Nd.Fit (n:Nd):Prop where
 pl:n.pairs.length<=65536
 kl:n.keys.length<=65536
 il:n.kids.length<=65536
 ps:∀ p∈n.pairs,p.1.length<=65536/\p.2.length<=65536
 ks:∀ k∈n.keys,k.length<=65536
 is:∀ k∈n.kids,k<=65536
end Go.Fx
namespace Go.Fx.Tryz
open Go Go.Fx
theorem fa (k b o:Nat):qb k (.pointer (some ⟨b,o,none⟩))=some (.pointer (some ⟨b,o+k,none⟩)):=rfl
theorem nck (b o:Nat):qC (.pointer (some ⟨b,o,none⟩))=some (.pointer (some ⟨b,o,none⟩)):=rfl
theorem vJ (b o:Nat):qU .ptr false (.pointer (some ⟨b,o,none⟩)) (.pointer none)=some (.bool false):=rfl
theorem zf {lo:Nat} {α:Type} {E:Enc α} {m:Mem} {v:Value} {l:List α} (h:RSl lo E m v l):qd v=some (.int .i64 (l.length:Int)):=h.1.len
theorem addN {i j:Nat} (h:i+j<2 ^ 62):arith .add (.int .i64 (i:Int)) (.int .i64 (j:Int))=some (.int .i64 ((i+j:Nat):Int)):=qfw h
theorem vo:∀ (x y:Bs),Op.bytesLess x y=ltB x y
 | x,[]=>by simp [Op.bytesLess,ltB]
 | [],b::y=>by simp [Op.bytesLess,ltB]
 | a::x,b::y=>by
  have ih:=vo x y;simp only [Op.bytesLess,ih,ltB,List.cons_lt_cons_iff];by_cases h1:a<b<;>by_cases h2:a=b<;>by_cases h3:x<y<;>simp [h1,h2,h3]
theorem XO (a b:Bs):arith .lss (str a) (str b)=some (.bool (ltB a b)):=by
 show some (Value.bool (Op.bytesLess a b))=_;rw [vo]
theorem yP (a b:Bs):arith .geq (str a) (str b)=some (.bool (!ltB a b)):=by
 show some (Value.bool (!Op.bytesLess a b))=_;rw [vo]
theorem leB_eq (a b:Bs):(ltB a b||decide (a=b))=!ltB b a:=by
 simp only [ltB];by_cases h1:a<b
 ·have:¬ b<a:=λh2=>List.lt_irrefl _ (List.lt_trans h1 h2)
  simp [h1,this]
 ·by_cases h2:a=b
  ·subst h2; simp [List.lt_irrefl]
  ·have:b<a:=by
    rcases List.le_total a b with h|h
    ·rcases List.le_iff_lt_or_eq.1 h with h|h
     ·exact absurd h h1
     ·exact absurd h h2
    ·rcases List.le_iff_lt_or_eq.1 h with h|h
     ·exact h
     ·exact absurd h.symm h2
   simp [h1,h2,this]
theorem QX (a b:Bs):arith .leq (str a) (str b)=some (.bool (!ltB b a)):=by
 show some (Value.bool (Op.bytesLess a b||a == b))=_;rw [vo,<- leB_eq];congr 3;by_cases h:a=b<;>simp [h]
theorem jf {e:TypeId} {n:Nat} {c z:List Value} {m:Mem} {K:Mem->O} {Q:Value->Mem->Prop} (hz:z.length=n) (hc:c.length=n) (h1:c.all (·.oneCell')=true)
  (h:∀ m',m'.get m.next=some ⟨.cells c e,false,none⟩->Upd [] m m'->m.next<m'.next->W (K m') Q) :
  W ((qj n (.pointer (some ⟨m.next,0,none⟩)) (.agg c.toArray) (m.add ⟨.cells z e,false,none⟩)).bind K) Q:=by
 refine W.Zp (qec m e hz hc h1) (h _ (Mem.qe ..) ?_ (by simp));exact (Upd.add [] m _).ki _ (.inr (Nat.le_refl _))
theorem XV (p:Pr) (m:Mem) (h1:p.1.length<=65536) (h2:p.2.length<=65536):W (Call S tab 202 [qce p] m) λr m'=>r=.int .i64 (qJ p:Nat)/\Upd [] m m':=by
 rw [qlV];have e2:arith .add (.int .i64 2) (.int .i64 (p.1.length:Int))=some (.int .i64 ((2+p.1.length:Nat):Int)):=addN (i:=2) (by omega);simp only [st0,fa,qS,qm (Mem.qf m _) (show [str p.1,str p.2][0+0]? = some (str p.1) from rfl),qm (Mem.qf m _) (show [str p.1,str p.2][0+1]? = some (str p.2) from rfl),qZ,e2,addN (i:=2+p.1.length) (j:=p.2.length) (by omega)];exact ⟨rfl,Upd.add _ _ _⟩
theorem jB {α:Type} {l:List α} {i:Nat} (h:i<l.length):l[i]? = some l[i]:=List.getElem?_eq_getElem h
theorem drop_cons {α:Type} {l:List α} {i:Nat} (h:i<l.length):l.drop i=l[i]::l.drop (i+1):=List.drop_eq_getElem_cons h
theorem qaz {lo:Nat} {l:List Pr} {sp:Value} (hl:l.length<=65536) (hs:∀ p∈l,p.1.length<=65536/\p.2.length<=65536):∀ (d i acc:Nat) (m:Mem),l.length - i=d->i<=l.length->acc<=2+i * 200000->RSl lo qK m sp l ->
  W (Yn (.int .i64 (acc:Int)) sp (.int .i64 (l.length:Int)) (.int .i64 (i:Int)) m) λr m'=>r=.int .i64 ((acc+((l.drop i).map qJ).sum:Nat):Int)/\Upd [] m m':=by
 intro d
 induction d with
 | zero =>
  intro i acc m hd hi ha h;obtain rfl:i=l.length:=by omega
  rw [P169_0_eq];simp only [st0,Int.lt_irrefl];exact ⟨by simp,Upd.refl _ _⟩
 | succ d ih =>
  intro i acc m hd hi ha h;have hlt:i<l.length:=by omega
  have hp:=hs _ (List.getElem_mem hlt);have e1:((i:Int)<(l.length:Int))=True:=by simp; omega
  rw [P169_0_eq];obtain ⟨b,off,h1,h2⟩:=h.1.at .i64 (jB hlt);rw [qT] at h1 h2;have h2:=h2 m h.1;simp only [st0,e1,h1,h2.1];refine jf (c:=qK.cells l[i]) rfl rfl rfl λm1 g1 u1 n1=>?_
  simp only [st0,zG g1 (show (qK.cells l[i]).length=2 from rfl)];refine (XV l[i] m1 hp.1 hp.2).bind λr m2 ⟨hr,u2⟩=>?_
  subst hr;have hw:qJ l[i]<=200000:=by unfold qJ; omega
  simp only [st0,addN (i:=acc) (j:=qJ l[i]) (by omega),qB (i:=i) (by omega)];have hu:=u1.qu u2;refine (ih (i+1) (acc+qJ l[i]) m2 (by omega) hlt (by omega) (h.qn hu)).mono λr m3 ⟨hr,u3⟩=>⟨?_,hu.qu u3⟩
  rw [hr,drop_cons hlt,List.map_cons,List.sum_cons,Nat.add_assoc]
theorem qay {lo:Nat} {l:List Bs} {sk:Value} (hl:l.length<=65536) (hs:∀ k∈l,k.length<=65536):∀ (d i acc:Nat) (m:Mem),l.length - i=d->i<=l.length->acc<=4+i * 200000->RSl lo encS m sk l ->
  W (Ym (.int .i64 (acc:Int)) sk (.int .i64 (l.length:Int)) (.int .i64 (i:Int)) m) λr m'=>r=.int .i64 ((acc+((l.drop i).map λk=>3+k.length).sum:Nat):Int)/\Upd [] m m':=by
 intro d
 induction d with
 | zero =>
  intro i acc m hd hi ha h;obtain rfl:i=l.length:=by omega
  rw [P169_1_eq];simp only [st0,Int.lt_irrefl];exact ⟨by simp,Upd.refl _ _⟩
 | succ d ih =>
  intro i acc m hd hi ha h;have hlt:i<l.length:=by omega
  have hp:=hs _ (List.getElem_mem hlt);have e1:((i:Int)<(l.length:Int))=True:=by simp; omega
  rw [P169_1_eq];obtain ⟨p,h1,_,h2⟩:=h.1.index .i64 (jB hlt);rw [xw] at h1;have h2:=h2 (str l[i]) rfl;have e3:arith .add (.int .i64 3) (.int .i64 (l[i].length:Int))=some (.int .i64 ((3+l[i].length:Nat):Int)):=addN (i:=3) (by omega);simp only [st0,e1,h1,h2,qZ,e3,addN (i:=acc) (j:=3+l[i].length) (by omega),qB (i:=i) (by omega)];refine (ih (i+1) (acc+(3+l[i].length)) m (by omega) hlt (by omega) h).mono λr m3 ⟨hr,u3⟩=>⟨?_,u3⟩
  rw [hr,drop_cons hlt,List.map_cons,List.sum_cons,Nat.add_assoc]
theorem XE {lo:Nat} {v:Value} {n:Nd} {m:Mem} (h:TN lo m v n) (hf:n.Fit):W (Call S tab 169 [v] m) λr m'=>r=.int .i64 (qW n:Nat)/\Upd [] m m':=by
 obtain ⟨sp,sk,si,rfl,h1,h2,h3⟩:=h.ex;rw [qmj];have u1:Upd [] m (m.add ⟨.cells [.bool n.leaf,sp,sk,si] 169,false,none⟩):=Upd.add _ _ _;simp only [st0,fa,qS,qm (Mem.qf m _) (show [Value.bool n.leaf,sp,sk,si][0+0]? = some (.bool n.leaf) from rfl),qm (Mem.qf m _) (show [Value.bool n.leaf,sp,sk,si][0+1]? = some sp from rfl),qm (Mem.qf m _) (show [Value.bool n.leaf,sp,sk,si][0+2]? = some sk from rfl),zf h1,zf h2];cases hl:n.leaf with
 | true =>
  simp only [st0];rw [hl] at u1;refine (qaz hf.pl hf.ps _ 0 2 _ rfl (by omega) (by omega) (h1.qn u1)).mono λr m' ⟨hr,hu⟩=>⟨?_,u1.qu hu⟩
  rw [hr]; simp [qW,hl]
 | false =>
  have e1:arith .add (.int .i64 2) (.int .i64 2)=some (.int .i64 ((4:Nat):Int)):=by kernel_rfl
  simp only [st0,e1];rw [hl] at u1;refine (qay hf.kl hf.ks _ 0 4 _ rfl (by omega) (by omega) (h2.qn u1)).mono λr m' ⟨hr,hu⟩=>⟨?_,u1.qu hu⟩
  rw [hr]; simp [qW,hl]
end Go.Fx.Tryz
namespace Go.Fx.Tryz
open Go Go.Fx
theorem zW:∀ {l:List Bs},qE l=true->∀ (i:Nat) (h:i<l.length),l[i]≠[]/\l[i].length<=32/\∀ (j:Nat) (hj:j<l.length),j+1=i->ltB l[j] l[i]=true
 | [],_,i,h=>by simp at h
 | [k],hr,i,h=>by
  obtain rfl:i=0:=by simpa using h
  simp only [qE,baI,decide_eq_true_eq] at hr;exact ⟨hr.1.1.1,hr.1.1.2,λj _ hj=>by omega⟩
 | k::k'::r,hr,i,h=>by
  simp only [qE,baI,decide_eq_true_eq] at hr;have ih:=zW (l:=k'::r) (by simp only [qE,baI,decide_eq_true_eq]; exact hr.2);cases i with
  | zero=>exact ⟨hr.1.1.1,hr.1.1.2,λj _ hj=>by omega⟩
  | succ i =>
   obtain ⟨h1,h2,h3⟩:=ih i (by simpa using h);refine ⟨h1,h2,λj hjl hj=>?_⟩;obtain rfl:j=i:=by omega
   cases j with
   | zero=>exact hr.1.2
   | succ j=>exact h3 j (by simp at hjl ⊢; omega) rfl
theorem wB:(Value.string ⟨#[]⟩)=str []:=rfl
theorem Hf {lo:Nat} {l:List Bs} {sk:Value} (hl:l.length<=65536) (hr:qE l=true):∀ (d i:Nat) (m:Mem),l.length - i=d->i<=l.length->RSl lo encS m sk l ->
  W (Yi sk sk (.int .i64 (l.length:Int)) (.int .i64 (i:Int)) m) λr m'=>r=.bool true/\m'=m:=by
 intro d
 induction d with
 | zero =>
  intro i m hd hi h;obtain rfl:i=l.length:=by omega
  rw [P208_0_eq];simp only [st0,Int.lt_irrefl];exact ⟨trivial,trivial⟩
 | succ d ih =>
  intro i m hd hi h;have hlt:i<l.length:=by omega
  obtain ⟨r1,r2,r3⟩:=zW hr i hlt;have e1:((i:Int)<(l.length:Int))=True:=by simp; omega
  obtain ⟨p,h1,_,h2⟩:=h.1.index .i64 (jB hlt);rw [xw] at h1;have h2:=h2 (str l[i]) rfl;have e2:((32:Int)<(l[i].length:Int))=False:=by simp; omega
  rw [P208_0_eq];cases i with
  | zero =>
   have e3:((0:Int)<((0:Nat):Int))=False:=by simp
   simp only [st0,e1,h1,h2,wB,jJ,r1,qZ,e2,e3,qB (i:=0) (by omega)];exact ih 1 m (by omega) hlt h
  | succ i =>
   have hlt':i<l.length:=by omega
   obtain ⟨p',h1',_,h2'⟩:=h.1.index .i64 (jB hlt');rw [xw] at h1';have h2':=h2' (str l[i]) rfl;have e3:((0:Int)<((i+1:Nat):Int))=True:=eq_true (by omega);have e4:arith .sub (.int .i64 ((i+1:Nat):Int)) (.int .i64 1)=some (.int .i64 (i:Int)):=by rw [xh (by omega) (by omega)]; congr 2; omega
   simp only [st0,e1,h1,h2,wB,jJ,r1,qZ,e2,e3,e4,h1',h2',yP,r3 i hlt' rfl,qB (i:=i+1) (by omega)];exact ih (i+1+1) m (by omega) hlt h
theorem Va {lo:Nat} {l:List Bs} {sk:Value} {m:Mem} (hl:l.length<=65536) (hr:qE l=true) (h:RSl lo encS m sk l):Call S tab 208 [sk] m=some (.bool true,m):=by
 have:W (Call S tab 208 [sk] m) λr m'=>r=.bool true/\m'=m:=by
  rw [qlP];simp only [st0,zf h];exact Hf hl hr _ 0 m rfl (by omega) h
 obtain ⟨r,m',e,rfl,rfl⟩:=this;exact e
theorem qdG {lo:Nat} {l:List Pr} {sp:Value} (hl:l.length<=65536):∀ (d i:Nat) (m0 m:Mem) (v:Value),l.length - i=d->i<=l.length->RSl lo qK m sp l->TAp encS 9 m v ((l.take i).map (·.1))->(∀ b∈qc v,m0.next<=b)->(∀ b∈qc sp,b<m0.next)->Upd [] m0 m ->
  W (Yh v sp (.int .i64 (l.length:Int)) (.int .i64 (i:Int)) m) λr m'=>TAp encS 9 m' r (l.map (·.1))/\(∀ b∈qc r,m0.next<=b)/\Upd [] m0 m':=by
 intro d
 induction d with
 | zero =>
  intro i m0 m v hd hi h hv hb hsp hu;obtain rfl:i=l.length:=by omega
  rw [P209_0_eq];simp only [st0,Int.lt_irrefl];rw [List.take_length] at hv;exact ⟨hv,hb,hu⟩
 | succ d ih =>
  intro i m0 m v hd hi h hv hb hsp hu;have hlt:i<l.length:=by omega
  have e1:((i:Int)<(l.length:Int))=True:=by simp; omega
  rw [P209_0_eq];obtain ⟨b,off,h1,h2⟩:=h.1.at .i64 (jB hlt);rw [qT] at h1 h2;have h2:=h2 m h.1;simp only [st0,e1,h1,h2.1];refine jf (c:=qK.cells l[i]) rfl rfl rfl λm1 g1 u1 n1=>?_
  have e2:qt [.string ⟨#[]⟩] [(0,1,str l[i].1)]=some (encS.flat [l[i].1]):=by kernel_rfl
  simp only [st0,fa,qm g1 (show (qK.cells l[i])[0+0]? = some (str l[i].1) from rfl),e2];refine zZ (E:=encS) [l[i].1] (by decide) (hv.qn u1) (by simp; omega) λv' m2 q1 q2 q3=>?_
  simp only [st0,qB (i:=i) (by omega)];have hu1:Upd [] m0 m1:=hu.qu u1;have hu2:Upd [] m0 m2:=hu1.then' q2 (λb hbv=>.inr (hb b hbv));have e3:(l.take i).map (·.1)++[l[i].1]=(l.take (i+1)).map (·.1):=by rw [tsI hlt,List.map_append]; rfl
  rw [e3] at q1;refine ih (i+1) m0 m2 v' (by omega) hlt ((h.qn u1).zL q2 (λb hbs hbv=>by have:=hb b hbv; have:=hsp b hbs; omega)) q1 (λb hbv=>?_) hsp hu2;rcases q3 b hbv with hb1|hb1
  ·exact hb b hb1
  ·exact Nat.le_trans hu1.next hb1
theorem qhW {lo:Nat} {v:Value} {n:Nd} {m:Mem} (h:TN lo m v n) (hf:n.Fit):W (Call S tab 209 [v] m) λr m'=>RSl m.next encS m' r (n.pairs.map (·.1))/\Upd [] m m':=by
 obtain ⟨sp,sk,si,rfl,h1,h2,h3⟩:=h.ex;rw [qlO];have u1:Upd [] m (m.add ⟨.cells [.bool n.leaf,sp,sk,si] 169,false,none⟩):=Upd.add _ _ _;simp only [st0,fa,qS,qm (Mem.qf m _) (show [Value.bool n.leaf,sp,sk,si][0+1]? = some sp from rfl),zf h1];refine (qdG hf.pl _ 0 m _ _ rfl (by omega) (h1.qn u1) (TAp.nil _) (λb hb=>by simp [qc] at hb) (λb hb=>(h1.2 b hb).2) u1).mono λr m' ⟨q1,q2,q3⟩=>⟨q1.rsl q2,q3⟩
theorem qhS (p:Pr) (m:Mem) (h:p.2.length<=40):W (Call S tab 207 [qce p] m) λr m'=>r=.bool false/\Upd [] m m':=by
 rw [qlQ];have e1:((40:Int)<(p.2.length:Int))=False:=by simp; omega
 simp only [st0,fa,qS,qm (Mem.qf m _) (show [str p.1,str p.2][0+1]? = some (str p.2) from rfl),qZ,e1];exact ⟨trivial,Upd.add _ _ _⟩
theorem qjA (k:Nat) (m:Mem) (h:1<=k/\k<=65535):Call S tab 211 [.int .i64 (k:Int)] m=some (.bool false,m):=by
 rw [qkt];have e1:((k:Int)<1)=False:=by simp; omega
 have e2:((65535:Int)<(k:Int))=False:=by simp; omega
 have:W (Call S tab 211 [.int .i64 (k:Int)] m) λr m'=>r=.bool false/\m'=m:=by
  rw [qkt];simp only [st0,e1,e2];exact ⟨trivial,trivial⟩
 obtain ⟨r,m',e,rfl,rfl⟩:=this;rw [<- qkt]; exact e
theorem VE (f:FuncId) (h:Nat.blt f yBase=true):kH (.func (.func f) #[] #[])=some (f,[],[]):=by simp [kH,h]
theorem qee {lo:Nat} {l:List Pr} {sp:Value} (hl:l.length<=65536) (hs:∀ p∈l,p.2.length<=40):∀ (d i:Nat) (m:Mem),l.length - i=d->i<=l.length->RSl lo qK m sp l ->
  W (Ya sp (.func (.func 207) #[] #[]) (.int .i64 (l.length:Int)) (.int .i64 (i:Int)) m) λr m'=>r=.int .i64 (-1)/\Upd [] m m':=by
 intro d
 induction d with
 | zero =>
  intro i m hd hi h;obtain rfl:i=l.length:=by omega
  rw [P232_0_eq];simp only [st0,Int.lt_irrefl];exact ⟨trivial,Upd.refl _ _⟩
 | succ d ih =>
  intro i m hd hi h;have hlt:i<l.length:=by omega
  have e1:((i:Int)<(l.length:Int))=True:=by simp; omega
  rw [P232_0_eq];obtain ⟨b,off,h1,h2⟩:=h.1.at .i64 (jB hlt);rw [qT] at h1 h2;have h2:=h2 m h.1;simp only [st0,e1,h1,h2.1,VE 207 rfl,List.nil_append,List.append_nil];refine (qhS l[i] m (hs _ (List.getElem_mem hlt))).bind λr m1 ⟨hr,u1⟩=>?_
  subst hr;simp only [st0,qB (i:=i) (by omega)];exact (ih (i+1) m1 (by omega) hlt (h.qn u1)).mono λr m' ⟨hr,u2⟩=>⟨hr,u1.qu u2⟩
theorem qef {lo:Nat} {l:List Nat} {si:Value} (hl:l.length<=65536) (hs:∀ k∈l,1<=k/\k<=65535):∀ (d i:Nat) (m:Mem),l.length - i=d->i<=l.length->RSl lo zN m si l ->
  W (WZ si (.func (.func 211) #[] #[]) (.int .i64 (l.length:Int)) (.int .i64 (i:Int)) m) λr m'=>r=.int .i64 (-1)/\m'=m:=by
 intro d
 induction d with
 | zero =>
  intro i m hd hi h;obtain rfl:i=l.length:=by omega
  rw [P233_0_eq];simp only [st0,Int.lt_irrefl];exact ⟨trivial,trivial⟩
 | succ d ih =>
  intro i m hd hi h;have hlt:i<l.length:=by omega
  have e1:((i:Int)<(l.length:Int))=True:=by simp; omega
  rw [P233_0_eq];obtain ⟨p,h1,_,h2⟩:=h.1.index .i64 (jB hlt);rw [jU] at h1;have h2:=h2 (.int .i64 (l[i]:Int)) rfl;simp only [st0,e1,h1,h2,VE 211 rfl,List.nil_append,List.append_nil,qjA _ m (hs _ (List.getElem_mem hlt)),qB (i:=i) (by omega)];exact ih (i+1) m (by omega) hlt h
theorem qiK:decide ((0:Int)<=-1)=false:=rfl
theorem qin {lo:Nat} {l:List Pr} {sp:Value} {m:Mem} (hl:l.length<=65536) (hs:∀ p∈l,p.2.length<=40) (h:RSl lo qK m sp l):W (Call S tab 210 [sp,.func (.func 207) #[] #[]] m) λr m'=>r=.bool false/\Upd [] m m':=by
 rw [qlN,qlH];simp only [st0,zf h];refine qh.2 ((qee hl hs _ 0 m rfl (by omega) h).mono λr m' ⟨hr,hu⟩=>?_);subst hr;simp only [st0,qiK];exact ⟨trivial,hu⟩
theorem qio {lo:Nat} {l:List Nat} {si:Value} {m:Mem} (hl:l.length<=65536) (hs:∀ k∈l,1<=k/\k<=65535) (h:RSl lo zN m si l):Call S tab 212 [si,.func (.func 211) #[] #[]] m=some (.bool false,m):=by
 have:W (Call S tab 212 [si,.func (.func 211) #[] #[]] m) λr m'=>r=.bool false/\m'=m:=by
  rw [qlM,qlG];simp only [st0,zf h];refine qh.2 ((qef hl hs _ 0 m rfl (by omega) h).mono λr m' ⟨hr,hu⟩=>?_);subst hr;simp only [st0,qiK];exact ⟨trivial,hu⟩
 obtain ⟨r,m',e,rfl,rfl⟩:=this;exact e
theorem wG {n:Nd} (h:qO n=true) (hp:n.pairs.length<=65536) (hk:n.keys.length<65536):n.Fit:=by
 unfold qO at h;cases hl:n.leaf with
 | true =>
  simp only [hl,if_true,baI,List.all_eq_true,decide_eq_true_eq,List.isEmpty_iff] at h;obtain ⟨⟨⟨h1,h2⟩,h3⟩,h4⟩:=h;refine ⟨hp,by omega,by simp [h2],λp hp=>⟨?_,by have:=h4 p hp; omega⟩,λk hk=>by simp [h1] at hk,λk hk=>by simp [h2] at hk⟩;obtain ⟨i,hi,rfl⟩:=List.mem_iff_getElem.1 hp;have:=(zW h3 i (by simpa using hi)).2.1;rw [List.getElem_map] at this;omega
 | false =>
  simp only [hl,Bool.false_eq_true,if_false,baI,List.all_eq_true,decide_eq_true_eq,List.isEmpty_iff] at h;obtain ⟨⟨⟨h1,h2⟩,h3⟩,h4⟩:=h;refine ⟨hp,by omega,by omega,λp hp=>by simp [h1] at hp,λk hk=>?_,λk hk=>by have:=h4 k hk; omega⟩;obtain ⟨i,hi,rfl⟩:=List.mem_iff_getElem.1 hk;have:=(zW h3 i hi).2.1;omega
theorem qq {m1 m2:Mem} {b:Nat} {x:ABlk} (hu:Upd [] m1 m2) (n1:b<m1.next) (g:m1.get b=some x):m2.get b=some x:=(hu.same b n1 (by simp)).trans g
theorem JI {lo:Nat} {v:Value} {n:Nd} {m:Mem} (h:TN lo m v n) (hr:qO n=true) (hp:n.pairs.length<=65536) (hk:n.keys.length<65536):W (Call S tab 173 [v] m) λr m'=>r=.bool true/\Upd [] m m':=by
 have hf:=wG hr hp hk;have hn:=h;obtain ⟨sp,sk,si,rfl,h1,h2,h3⟩:=h.ex;rw [qmf];have g1:(m.add ⟨.cells [.bool n.leaf,sp,sk,si] 169,false,none⟩).get m.next=some ⟨.cells [.bool n.leaf,sp,sk,si] 169,false,none⟩:=Mem.qf ..;have u1:Upd [] m (m.add ⟨.cells [.bool n.leaf,sp,sk,si] 169,false,none⟩):=Upd.add _ _ _;have n1:m.next<(m.add ⟨.cells [.bool n.leaf,sp,sk,si] 169,false,none⟩).next:=by simp
 simp only [st0,fa,qS];generalize (m.add ⟨.cells [.bool n.leaf,sp,sk,si] 169,false,none⟩)=m1 at g1 u1 n1;have ld:∀ {m2:Mem},m2.get m.next=some ⟨.cells [.bool n.leaf,sp,sk,si] 169,false,none⟩->∀ {o:Nat} {x:Value},[Value.bool n.leaf,sp,sk,si][o]? = some x->qa (.pointer (some ⟨m.next,o,none⟩)) m2=some x:=λg _ _ hx=>qm g hx
 have lw:=zG g1 (show [Value.bool n.leaf,sp,sk,si].length=4 from rfl);simp only [st0,ld g1 (o:=0+0) rfl,ld g1 (o:=0+1) rfl,ld g1 (o:=0+2) rfl,ld g1 (o:=0+3) rfl,zf h1,zf h2,zf h3];unfold qO at hr;have hn1:=hn.qn u1;cases hl:n.leaf with
 | true =>
  simp only [hl,if_true,baI,List.all_eq_true,decide_eq_true_eq,List.isEmpty_iff] at hr;obtain ⟨⟨⟨r1,r2⟩,r3⟩,r4⟩:=hr;have e1:arith .add (.int .i64 (n.keys.length:Int)) (.int .i64 (n.kids.length:Int))=some (.int .i64 0):=by rw [r1,r2]; kernel_rfl
  have e2:decide ((0:Int)=0)=true:=rfl;rw [hl] at lw hn1 ld g1;simp only [st0,e1,e2,lw];refine qh.2 ((qhW hn1 hf).bind λr m2 ⟨q1,q2⟩=>zv.2 ?_);have hr3:=Va (by simpa using hf.pl) r3 q1;simp only [st0,hr3,fa,ld (qq q2 n1 g1) (o:=0+1) rfl];refine qh.2 ((qin hf.pl r4 ((h1.qn u1).qn q2)).bind λr m3 ⟨hr,q3⟩=>?_);subst hr;simp only [st0];exact ⟨trivial,(u1.qu q2).qu q3⟩
 | false =>
  simp only [hl,Bool.false_eq_true,if_false,baI,List.all_eq_true,decide_eq_true_eq,List.isEmpty_iff] at hr;obtain ⟨⟨⟨r1,r2⟩,r3⟩,r4⟩:=hr;have e1:((n.pairs.length:Int)=0)=True:=by rw [r1]; simp
  have e2:(((n.keys.length+1:Nat):Int)=((n.keys.length+1:Nat):Int))=True:=by simp
  rw [hl] at lw hn1 ld g1;have hk1:=Va hf.kl r3 (h2.qn u1);have hk2:=qio hf.il r4 (h3.qn u1);simp only [st0,e1,r2,qB (i:=n.keys.length) (by omega),e2,fa,ld g1 (o:=0+0) rfl,ld g1 (o:=0+1) rfl,ld g1 (o:=0+2) rfl,ld g1 (o:=0+3) rfl,zf h1,zf h2,zf h3,hk1,hk2];exact ⟨trivial,u1⟩
end Go.Fx.Tryz
namespace Go.Fx.Tryz
open Go Go.Fx
theorem okR {ms:List Mem} {q:Req} {v:Value} {lo hi:Nat} (h:∀ k,lo<=k->k<=hi->∃ M,ms[k]? = some M/\q.run M=some v):wU ms (q,v,lo,hi)=true:=by
 unfold wU;simp only [List.all_eq_true,List.mem_range];intro k hk;obtain ⟨M,h1,h2⟩:=h (lo+k) (by omega) (by omega);rw [h1];simp only [h2];exact QA v
theorem okL {ms:List Mem} {p v:Value} {lo hi:Nat} (h:∀ M∈ms,qa p M=some v) (hhi:hi<ms.length):wU ms (.load1 p,v,lo,hi)=true :=
 okR λk _ hk=>⟨_,List.getElem?_eq_getElem (by omega),h _ (List.getElem_mem _)⟩
theorem jC {ms:List Mem} {rq:List Rq} {o:O} {Q:Value->Mem->Prop} (h:∀ r∈rq,wU ms r=true) (hw:W o Q):W (chk ms rq o) Q:=qlh.2 ⟨List.all_eq_true.2 h,hw⟩
structure Gw (m:Mem) (v:Value) (m':Mem) (v':Value) (l:Bs):Prop where
 ap:TAp xx 5 m' v' l
 upd:Upd (qc v) m m'
 own:∀ b∈qc v',b∈qc v∨m.next<=b
theorem Gw.trans {m m1 m2:Mem} {v v1 v2:Value} {l1 l2:Bs} (h:Gw m v m1 v1 l1) (h':Gw m1 v1 m2 v2 l2):Gw m v m2 v2 l2 :=
 ⟨h'.ap,h.upd.then' h'.upd h.own,λb hb=>(h'.own b hb).elim (λhb=>h.own b hb) (λhb=>.inr (Nat.le_trans h.upd.next hb))⟩
theorem Gw.ahead {m0 m m1:Mem} {v v1:Value} {l:Bs} (hu:Upd [] m0 m) (h:Gw m v m1 v1 l):Gw m0 v m1 v1 l :=
 ⟨h.ap,hu.nil'.trans h.upd,λb hb=>(h.own b hb).elim .inl (λhb=>.inr (Nat.le_trans hu.next hb))⟩
theorem Gw.sl {lo:Nat} {α:Type} {E:Enc α} {m m':Mem} {v v' x:Value} {l:Bs} {xs:List α} (h:Gw m v m' v' l) (hx:RSl lo E m x xs) (hd:∀ b∈qc x,b∉qc v):RSl lo E m' x xs :=
 hx.zL h.upd hd
theorem u8N (k:Nat):((UInt8.ofNat k).toNat:Int)=((k % 256:Nat):Int):=by simp
theorem vm (kk:IntKind) (k:Nat):zn .u8 (.int kk (k:Int))=some (.int .u8 ((UInt8.ofNat k).toNat:Int)):=by
 have:IntKind.u8.wrap (k:Int)=((k % 256:Nat):Int):=by
  unfold IntKind.wrap;have hb:(2 ^ IntKind.u8.bits:Int)=256:=by decide
  have hs:IntKind.u8.signed=false:=rfl;simp only [hb,hs,Bool.false_and,Bool.false_eq_true,if_false];omega
 simp only [zn,this,u8N]
theorem WH (b:UInt8):qt [.int .u8 0] [(0,1,.int .u8 (b.toNat:Int))]=some (xx.flat [b]):=by kernel_rfl
theorem qkC (k j:Nat) (hj:j<=64):arith .shr (.int .u64 (k:Int)) (.int .i64 (j:Int))=some (.int .u64 ((k / 2 ^ j:Nat):Int)):=by
 have h1:min (j:Int).toNat IntKind.u64.bits=j:=by simp only [Int.toNat_natCast]; exact Nat.min_eq_left hj
 have h2:¬ ((j:Int)<0):=by omega
 simp only [arith,if_neg h2,h1];congr 2;rw [Int.fdiv_eq_ediv_of_nonneg _ (by have:(0:Int)<2 ^ j:=Int.pow_pos (by decide); omega)];rw [show ((2:Int) ^ j)=((2 ^ j:Nat):Int) by simp];rfl
theorem qaU {m:Mem} {v:Value} {l:Bs} (k:Nat) (h:TAp xx 5 m v l) (hl:l.length<2 ^ 40):W (Call S tab 31 [v,.int .u64 (k:Int),.int .i64 2] m) λr m'=>Gw m v m' r (l++xI k):=by
 have c1:Call S tab 65 [.int .i64 2] m=some (.int .i64 2,m):=by
  rw [C65]; kernel_rfl
 have e0:arith .sub (.int .i64 2) (.int .i64 1)=some (.int .i64 1):=by kernel_rfl
 have e1:arith .mul (.int .i64 8) (.int .i64 1)=some (.int .i64 ((8:Nat):Int)):=by kernel_rfl
 have e2:arith .mul (.int .i64 8) (.int .i64 0)=some (.int .i64 ((0:Nat):Int)):=by kernel_rfl
 have e3:arith .sub (.int .i64 1) (.int .i64 1)=some (.int .i64 0):=by kernel_rfl
 have e4:arith .sub (.int .i64 0) (.int .i64 1)=some (.int .i64 (-1)):=by kernel_rfl
 have d1:decide ((0:Int)<=1)=true:=rfl;have d2:decide ((0:Int)<=0)=true:=rfl;have d3:decide ((0:Int)<=-1)=false:=rfl;rw [C31,c1];simp only [st0,e0];rw [P31_0_eq];simp only [st0,d1,e1,qkC k 8 (by omega),vm,WH];refine zZ (E:=xx) [UInt8.ofNat (k / 2 ^ 8)] (by decide) h (by simp; omega) λv1 m1 q1 q2 q3=>?_
 simp only [st0,e3];rw [P31_0_eq];simp only [st0,d2,e2,qkC k 0 (by omega),vm,WH];refine zZ (E:=xx) [UInt8.ofNat (k / 2 ^ 0)] (by decide) q1 (by simp; omega) λv2 m2 r1 r2 r3=>?_
 simp only [st0,e4];rw [P31_0_eq];simp only [st0,d3];have g1:Gw m v m1 v1 (l++[UInt8.ofNat (k / 2 ^ 8)]):=⟨q1,q2,q3⟩;have g2:Gw m1 v1 m2 v2 ((l++[UInt8.ofNat (k / 2 ^ 8)])++[UInt8.ofNat (k / 2 ^ 0)]):=⟨r1,r2,r3⟩;have:=g1.trans g2;simpa [xI] using this
theorem yF {m:Mem} {v:Value} {l:Bs} (s:Bs) (h:TAp xx 5 m v l) (hl:l.length<2 ^ 40) (hs:s.length<=255):W (Call S tab 32 [v,str s] m) λr m'=>Gw m v m' r (l++zD s):=by
 have e1:((255:Int)<(s.length:Int))=False:=eq_false (by omega);rw [C32];simp only [st0,qZ,e1,vy (Nat.le_refl s.length),List.take_length,vm,WH];refine zZ (E:=xx) [UInt8.ofNat s.length] (by decide) h (by simp; omega) λv1 m1 q1 q2 q3=>?_
 refine jy (E:=xx) s (by decide) q1 (qbR s m1) (by simp; omega) λv2 m2 r1 r2 r3=>?_
 refine zv.2 ?_;have g1:Gw m v m1 v1 (l++[UInt8.ofNat s.length]):=⟨q1,q2,q3⟩;have g2:Gw m1 v1 m2 v2 ((l++[UInt8.ofNat s.length])++s):=⟨r1,r2,r3⟩;have:=g1.trans g2;simpa [zD] using this
theorem qhI (k:Nat):Lib.repeatL [0] k=qp k:=by
 induction k with
 | zero=>rfl
 | succ k ih=>rw [Lib.repeatL,ih]; rfl
theorem Vc (k:Nat) (hk:k<=1000000) (m:Mem):Call S tab 174 [.string ⟨#[0]⟩,.int .i64 (k:Int)] m=some (str (qp k),m):=by
 refine Qx ?_;show Zs [.string ⟨#[0]⟩,.int .i64 (k:Int)] m=_;have h:(0:Int)<=(k:Int)/\(k:Int)<=1000000/\(⟨#[0]⟩:ByteArray).size<=1000000:=⟨by omega,by omega,by decide⟩;simp only [Zs];rw [if_pos h];simp only [Int.toNat_natCast];rw [qhI]
theorem qge {m:Mem} {v:Value} {l:Bs} (h:TAp xx 5 m v l) (hl:l.length<=256):W (Yr v m) λr m'=>r=.tuple #[str (l++qp (256 - l.length)),.int .i64 0]/\m'=m:=by
 have hb:=Kn h.tsl;have e1:arith .sub (.int .i64 256) (.int .i64 (l.length:Int))=some (.int .i64 ((256 - l.length:Nat):Int)):=by rw [xh (by omega) (by omega)]; congr 2; omega
 rw [P129_2_eq];simp only [st0,hb,h.tsl.len,e1,Vc (256 - l.length) (by omega),yV (a:=l) (b:=qp (256 - l.length)) (by simp [qp]; omega)];refine jC (λr hr=>?_) (zv.2 ⟨rfl,rfl⟩);simp only [lcI,nmI,or_false] at hr;subst hr;exact okR λk _ hk=>by
  have:k=0∨k=1:=by omega
  rcases this with rfl|rfl<;>exact ⟨m,rfl,hb⟩
theorem Gw.box {m m':Mem} {v v':Value} {l:Bs} {b:Nat} {x:ABlk} (h:Gw m v m' v' l) (hg:m.get b=some x) (hb:b<m.next) (hd:b∉qc v):m'.get b=some x:=(h.upd.same b hb hd).trans hg
theorem qal {lo:Nat} {l:List Pr} {sp:Value} (hl:l.length<=1000) (hs:∀ p∈l,p.1.length<=255/\p.2.length<=255) {m0:Mem} (hsp:∀ b∈qc sp,b<m0.next):∀ (d i:Nat) (m:Mem) (v:Value) (k:Bs),l.length - i=d->i<=l.length->RSl lo qK m sp l->TAp xx 5 m v k->(∀ b∈qc v,m0.next<=b)->Upd [] m0 m ->
  k.length+((l.drop i).map xR).flatten.length<=256 ->
  W (Yu v sp (.int .i64 (l.length:Int)) (.int .i64 (i:Int)) m) λr m'=>r=.tuple #[str ((k++((l.drop i).map xR).flatten)++qp (256 - (k++((l.drop i).map xR).flatten).length)),.int .i64 0]/\Upd [] m0 m':=by
 intro d
 induction d with
 | zero =>
  intro i m v k hd hi h hv hvb hu hk;obtain rfl:i=l.length:=by omega
  rw [P129_0_eq];simp only [st0,Int.lt_irrefl];simp only [List.drop_length,List.map_nil,List.flatten_nil,List.append_nil,List.length_nil,Nat.add_zero] at hk ⊢;exact (qge hv hk).mono λr m' ⟨h1,h2⟩=>⟨h1,h2 ▸ hu⟩
 | succ d ih =>
  intro i m v k hd hi h hv hvb hu hk;have hlt:i<l.length:=by omega
  have hp:=hs _ (List.getElem_mem hlt);rw [drop_cons hlt,List.map_cons,List.flatten_cons,laI] at hk;have hpl:(xR l[i]).length=l[i].1.length+l[i].2.length+2:=by rw [ZL]; unfold qJ; omega
  have e1:((i:Int)<(l.length:Int))=True:=eq_true (by omega);rw [P129_0_eq];obtain ⟨b,off,h1,h2⟩:=h.1.at .i64 (jB hlt);rw [qT] at h1 h2;have h2:=h2 m h.1;simp only [st0,e1,h1,h2.1];refine jf (c:=qK.cells l[i]) rfl rfl rfl λm1 g1 u1 n1=>?_
  have ld:∀ {m2:Mem},m2.get m.next=some ⟨.cells (qK.cells l[i]) 81,false,none⟩->qa (.pointer (some ⟨m.next,0+0,none⟩)) m2=some (str l[i].1)/\qa (.pointer (some ⟨m.next,0+1,none⟩)) m2=some (str l[i].2):=λg=>⟨qm g rfl,qm g rfl⟩
  simp only [st0,fa,(ld g1).1];refine (yF l[i].1 (hv.qn u1) (by omega) hp.1).bind λv2 m2 w2=>?_
  have hnb:m.next∉qc v:=λhb=>by have:=hv.lt _ hb; omega
  have g2:=w2.box g1 n1 hnb;simp only [st0,fa,(ld g2).2];have hkl:(k++zD l[i].1).length=k.length+l[i].1.length+1:=by simp [zD]; omega
  refine (yF l[i].2 w2.ap (by omega) hp.2).bind λv3 m3 w3=>?_
  have hnb2:m.next∉qc v2:=λhb=>by
   rcases w2.own _ hb with h|h
   ·exact hnb h
   ·omega
  have g3:=w3.box g2 (Nat.lt_of_lt_of_le n1 w2.upd.next) hnb2;refine jC (λr hr=>?_) ?_
  ·simp only [lcI,nmI,or_false] at hr;rcases hr with rfl|rfl
   ·exact okL (λM hM=>by simp only [lcI,nmI,or_false] at hM; rcases hM with rfl|rfl|rfl<;>exact (ld (by assumption)).1) (by simp)
   ·exact okL (λM hM=>by simp only [lcI,nmI,or_false] at hM; rcases hM with rfl|rfl|rfl<;>exact (ld (by assumption)).2) (by simp)
  simp only [st0,qB (i:=i) (by omega)];have w3':=(w2.trans w3).ahead u1;have ev:(k++zD l[i].1)++zD l[i].2=k++xR l[i]:=by simp [xR]
  have w4:Gw m v m3 v3 (k++xR l[i]):=by rw [<- ev]; exact w3'
  refine (ih (i+1) m3 v3 _ (by omega) hlt (w4.sl h (λb hb hv=>by have:=hsp b hb; have:=hvb b hv; omega)) w4.ap (λb hb=>?_) (hu.then' w4.upd (λb hb=>.inr (hvb b hb))) (by rw [laI]; omega)).mono λr m' ⟨hr,hu'⟩=>⟨?_,hu'⟩
  ·rcases w4.own b hb with h|h
   ·exact hvb b h
   ·exact Nat.le_trans hu.next h
  ·rw [hr,drop_cons hlt,List.map_cons,List.flatten_cons];simp only [aaI]
theorem qaj {ks:List Bs} {ps:List Nat} (h:ps.length=ks.length+1) {i:Nat} (hi:i<ks.length):(ks.zip ps.tail)[i]'(by rw [List.length_zip,List.length_tail]; omega)=(ks[i],ps[i+1]'(by omega)):=by
 rw [List.getElem_zip,List.getElem_tail]
theorem vu (kk:IntKind) (k:Nat) (h:k<=65536):zn .u64 (.int kk (k:Int))=some (.int .u64 (k:Int)):=HN kk (by omega) (by omega)
theorem YE {lo:Nat} {ks:List Bs} {ps:List Nat} {lf:Bool} {sp sk si:Value} (hl:ks.length<=1000) (hps:ps.length=ks.length+1) (hs:∀ k∈ks,k.length<=255) (hp:∀ k∈ps,k<=65536) {m0:Mem} {bn:Nat} (hbn:bn<m0.next) (hsk:∀ b∈qc sk,b<m0.next) (hsi:∀ b∈qc si,b<m0.next) :
  ∀ (d i:Nat) (m:Mem) (v:Value) (k:Bs),ks.length - i=d->i<=ks.length->RSl lo encS m sk ks->RSl lo zN m si ps->m.get bn=some ⟨.cells [.bool lf,sp,sk,si] 169,false,none⟩->TAp xx 5 m v k->(∀ b∈qc v,m0.next<=b)->Upd [] m0 m ->
  k.length+(((ks.zip ps.tail).drop i).map yk).flatten.length<=256 ->
  W (Yt (.pointer (some ⟨bn,0,none⟩)) v sk (.int .i64 (ks.length:Int)) (.int .i64 (i:Int)) m) λr m'=>r=.tuple #[str ((k++(((ks.zip ps.tail).drop i).map yk).flatten)++qp (256 - (k++(((ks.zip ps.tail).drop i).map yk).flatten).length)),.int .i64 0]/\Upd [] m0 m':=by
 have hzl:(ks.zip ps.tail).length=ks.length:=by rw [List.length_zip,List.length_tail]; omega
 intro d
 induction d with
 | zero =>
  intro i m v k hd hi h hki hg hv hvb hu hk;obtain rfl:i=ks.length:=by omega
  rw [P129_1_eq];simp only [st0,Int.lt_irrefl];have e0:(ks.zip ps.tail).drop ks.length=[]:=by rw [<- hzl]; exact List.drop_length
  simp only [e0,List.map_nil,List.flatten_nil,List.append_nil,List.length_nil,Nat.add_zero] at hk ⊢;exact (qge hv hk).mono λr m' ⟨h1,h2⟩=>⟨h1,h2 ▸ hu⟩
 | succ d ih =>
  intro i m v k hd hi h hki hg hv hvb hu hk;have hlt:i<ks.length:=by omega
  have hp1:=hs _ (List.getElem_mem hlt);have hlt2:i+1<ps.length:=by omega
  have hp2:=hp _ (List.getElem_mem hlt2);rw [drop_cons (by omega:i<(ks.zip ps.tail).length),qaj hps hlt,List.map_cons,List.flatten_cons,laI,JS] at hk;have e1:((i:Int)<(ks.length:Int))=True:=eq_true (by omega);rw [P129_1_eq];obtain ⟨p,h1,_,h2⟩:=h.1.index .i64 (jB hlt);rw [xw] at h1;have h2:=h2 (str ks[i]) rfl;simp only [st0,e1,h1,h2];refine (yF ks[i] hv (by omega) hp1).bind λv1 m1 w1=>?_
  have hd1:∀ b,b<m0.next->b∉qc v:=λb hb hv=>by have:=hvb b hv; omega
  have hbm:bn<m.next:=Nat.lt_of_lt_of_le hbn hu.next;have g1:=w1.box hg hbm (hd1 _ hbn);have hk1:=w1.sl hki (λb hb=>hd1 b (hsi b hb));obtain ⟨b,off,q1,q2⟩:=hki.1.at .i64 (jB hlt2);rw [jU] at q1;have qv:∀ {M:Mem},RSl lo zN M si ps->qa (.pointer (some ⟨b,off,none⟩)) M=some (.int .i64 ((ps[i+1]:Nat):Int)):=λhM=>by
   have:=(q2 _ hM.1).2 0 (.int .i64 ((ps[i+1]:Nat):Int)) rfl
   rwa [Nat.add_zero] at this
  have ld:∀ {M:Mem},M.get bn=some ⟨.cells [.bool lf,sp,sk,si] 169,false,none⟩->qa (.pointer (some ⟨bn,0+3,none⟩)) M=some si:=λg=>qm g rfl
  simp only [st0,fa,ld g1,qB (i:=i) (by omega),q1,qv hk1,vu _ _ hp2];have hkl:(k++zD ks[i]).length=k.length+ks[i].length+1:=by simp [zD]; omega
  refine (qaU ps[i+1] w1.ap (by omega)).bind λv2 m2 w2=>?_
  have hd2:∀ b,b<m0.next->b∉qc v1:=λb hb hv=>by
   rcases w1.own b hv with h|h
   ·exact hd1 b hb h
   ·have:=hu.next; omega
  have g2:=w2.box g1 (Nat.lt_of_lt_of_le hbm w1.upd.next) (hd2 _ hbn);have hk2:=w2.sl hk1 (λb hb=>hd2 b (hsi b hb));refine jC (λr hr=>?_) ?_
  ·simp only [lcI,nmI,or_false] at hr;rcases hr with rfl|rfl
   ·exact okL (λM hM=>by simp only [lcI,nmI,or_false] at hM; rcases hM with rfl|rfl|rfl<;>exact ld (by assumption)) (by simp)
   ·exact okL (λM hM=>by simp only [lcI,nmI,or_false] at hM; rcases hM with rfl|rfl|rfl<;>exact qv (by assumption)) (by simp)
  simp only [st0,qB (i:=i) (by omega)];have w3:=w1.trans w2;have ev:(k++zD ks[i])++xI ps[i+1]=k++yk (ks[i],ps[i+1]):=by simp [yk]
  rw [ev] at w3;refine (ih (i+1) m2 v2 _ (by omega) hlt (w3.sl h (λb hb=>hd1 b (hsk b hb))) hk2 g2 w3.ap (λb hb=>?_) (hu.then' w3.upd (λb hb=>.inr (hvb b hb))) (by rw [laI,JS]; omega)).mono λr m' ⟨hr,hu'⟩=>⟨?_,hu'⟩
  ·rcases w3.own b hb with h|h
   ·exact hvb b h
   ·exact Nat.le_trans hu.next h
  ·rw [hr,drop_cons (by omega:i<(ks.zip ps.tail).length),qaj hps hlt,List.map_cons,List.flatten_cons];simp only [aaI]
theorem Vr {l:List Nat} (h:0<l.length):l.headD 0=l[0]:=by
 cases l with
 | nil=>simp at h
 | cons a r=>rfl
theorem TN.load {m:Mem} {n:Nd} {sp sk si:Value} {b:Nat} (g:m.get b=some ⟨.cells [.bool n.leaf,sp,sk,si] 169,false,none⟩):∀ {o:Nat} {x:Value},[Value.bool n.leaf,sp,sk,si][o]? = some x->qa (.pointer (some ⟨b,o,none⟩)) m=some x:=λhx=>qm g hx
theorem Vh {lo:Nat} {v:Value} {n:Nd} {m:Mem} (h:TN lo m v n) (hr:qO n=true) (hp:n.pairs.length<=1000) (hk:n.keys.length<=1000) :
  W (Call S tab 129 [v] m) λr m'=>r=(if qW n<=256 then .tuple #[str (zC n),.int .i64 0] else .tuple #[str [],.int .i64 3])/\Upd [] m m':=by
 have hf:=wG hr (by omega) (by omega);have hn:=h;obtain ⟨sp,sk,si,rfl,h1,h2,h3⟩:=h.ex;rw [qmx];have g1:(m.add ⟨.cells [.bool n.leaf,sp,sk,si] 169,false,none⟩).get m.next=some ⟨.cells [.bool n.leaf,sp,sk,si] 169,false,none⟩:=Mem.qf ..;have u1:Upd [] m (m.add ⟨.cells [.bool n.leaf,sp,sk,si] 169,false,none⟩):=Upd.add _ _ _;have n1:m.next<(m.add ⟨.cells [.bool n.leaf,sp,sk,si] 169,false,none⟩).next:=by simp
 simp only [st0,fa,qS];generalize (m.add ⟨.cells [.bool n.leaf,sp,sk,si] 169,false,none⟩)=m1 at g1 u1 n1;have lw:∀ {M:Mem},M.get m.next=some ⟨.cells [.bool n.leaf,sp,sk,si] 169,false,none⟩->ql 4 (.pointer (some ⟨m.next,0,none⟩)) M=some (.agg #[.bool n.leaf,sp,sk,si]):=λg=>zG g rfl
 simp only [st0,lw g1];refine (JI (hn.qn u1) hr (by omega) (by omega)).bind λr m2 ⟨hr2,u2⟩=>?_
 subst hr2;have g2:=qq u2 n1 g1;have n2:=Nat.lt_of_lt_of_le n1 u2.next;simp only [st0,lw g2];refine (XE ((hn.qn u1).qn u2) hf).bind λr m3 ⟨hr3,u3⟩=>?_
 subst hr3;have g3:=qq u3 n2 g2;have n3:=Nat.lt_of_lt_of_le n2 u3.next;have u03:Upd [] m m3:=(u1.qu u2).qu u3;by_cases hsz:qW n<=256
 ·have e1:((256:Int)<((qW n:Nat):Int))=False:=eq_false (by omega);have hbl:=ZW hr;rw [if_pos hsz];simp only [st0,e1,TN.load g3 (o:=0+0) rfl];have nil:TAp xx 5 m3 (.slice none 0 0) []:=TAp.nil _;cases hl:n.leaf with
  | true =>
   have hs:∀ p∈n.pairs,p.1.length<=255/\p.2.length<=255:=by
    intro p hp';have:=hr;simp only [qO,hl,if_true,baI,List.all_eq_true,decide_eq_true_eq] at this;refine ⟨?_,by have:=this.2 p hp'; omega⟩;obtain ⟨i,hi,rfl⟩:=List.mem_iff_getElem.1 hp';have:=(zW this.1.2 i (by simpa using hi)).2.1;rw [List.getElem_map] at this;omega
   simp only [st0,TN.load g3 (o:=0+1) rfl,zf h1,vm];have ef:qt [.int .u8 0,.int .u8 0] [(0,1,.int .u8 1),(1,1,.int .u8 ((UInt8.ofNat n.pairs.length).toNat:Int))]=some (xx.flat [1,UInt8.ofNat n.pairs.length]):=by kernel_rfl
   simp only [st0,ef];refine zZ (E:=xx) [1,UInt8.ofNat n.pairs.length] (by decide) nil (by simp) λv1 m4 q1 q2 q3=>?_
   have w1:Gw m3 (.slice none 0 0) m4 v1 ([]++[1,UInt8.ofNat n.pairs.length]):=⟨q1,q2,q3⟩;rw [List.nil_append] at w1;have u4:Upd [] m3 m4:=w1.upd.mono (λb hb _=>by simp [qc] at hb);have g4:=qq u4 n3 g3;simp only [st0,TN.load g4 (o:=0+1) rfl,zf h1];have hbody:vg n=[1,UInt8.ofNat n.pairs.length]++((n.pairs.drop 0).map xR).flatten:=by simp [vg,hl]
   have hbl':([1,UInt8.ofNat n.pairs.length]:Bs).length+((n.pairs.drop 0).map xR).flatten.length<=256:=by rw [<- laI,<- hbody]; omega
   refine (qal (m0:=m3) hp hs (λb hb=>Nat.lt_of_lt_of_le (h1.2 b hb).2 u03.next) _ 0 m4 v1 _ rfl (by omega) ((h1.qn u03).qn u4) w1.ap (λb hb=>(w1.own b hb).elim (λh=>by simp [qc] at h) id) u4 hbl').mono λr m' ⟨hr',hu'⟩=>⟨?_,u03.qu hu'⟩
   rw [hr',<- hbody]; rfl
  | false =>
   have hr':=hr;simp only [qO,hl,Bool.false_eq_true,if_false,baI,List.all_eq_true,decide_eq_true_eq] at hr';obtain ⟨⟨⟨r1,r2⟩,r3⟩,r4⟩:=hr';have hs:∀ k∈n.keys,k.length<=255:=by
    intro k hk';obtain ⟨i,hi,rfl⟩:=List.mem_iff_getElem.1 hk';have:=(zW r3 i hi).2.1;omega
   simp only [st0,TN.load g3 (o:=0+2) rfl,zf h2,vm];have ef:qt [.int .u8 0,.int .u8 0] [(0,1,.int .u8 2),(1,1,.int .u8 ((UInt8.ofNat n.keys.length).toNat:Int))]=some (xx.flat [2,UInt8.ofNat n.keys.length]):=by kernel_rfl
   simp only [st0,ef];refine zZ (E:=xx) [2,UInt8.ofNat n.keys.length] (by decide) nil (by simp) λv1 m4 q1 q2 q3=>?_
   have w1:Gw m3 (.slice none 0 0) m4 v1 ([]++[2,UInt8.ofNat n.keys.length]):=⟨q1,q2,q3⟩;rw [List.nil_append] at w1;have u4:Upd [] m3 m4:=w1.upd.mono (λb hb _=>by simp [qc] at hb);have g4:=qq u4 n3 g3;have h0:0<n.kids.length:=by omega
   have hi4:RSl lo zN m4 si n.kids:=(h3.qn u03).qn u4;obtain ⟨b,off,q1',q2'⟩:=hi4.1.at .i64 (jB h0);rw [jU] at q1';have qv:∀ {M:Mem},RSl lo zN M si n.kids->qa (.pointer (some ⟨b,off,none⟩)) M=some (.int .i64 ((n.kids[0]:Nat):Int)):=λhM=>by
    have:=(q2' _ hM.1).2 0 (.int .i64 ((n.kids[0]:Nat):Int)) rfl
    rwa [Nat.add_zero] at this
   have q1'':qi 1 si (.int .i64 0)=some (.pointer (some ⟨b,off,none⟩)):=q1';have hk0:=hf.is _ (List.getElem_mem h0);simp only [st0,TN.load g4 (o:=0+3) rfl,q1'',qv hi4,vu _ _ hk0];refine (qaU n.kids[0] w1.ap (by simp)).bind λv2 m5 w2=>?_
   have hv1:∀ b∈qc v1,m3.next<=b:=λb hb=>(w1.own b hb).elim (λh=>by simp [qc] at h) id
   have n4:=Nat.lt_of_lt_of_le n3 u4.next;have g5:=w2.box g4 n4 (λhb=>by have:=hv1 _ hb; omega);have hi5:=w2.sl hi4 (λb hb hv=>by have:=hv1 b hv; have:=(h3.2 b hb).2; have:=u03.next; omega);refine jC (λr hr=>?_) ?_
   ·simp only [lcI,nmI,or_false] at hr;have hi3:RSl lo zN m3 si n.kids:=h3.qn u03;rcases hr with rfl|rfl|rfl
    ·exact okR λk _ hk=>by
      obtain rfl:k=0:=by omega
      exact ⟨m3,rfl,TN.load g3 rfl⟩
    ·exact okR λk _ hk=>by
      have:k=0∨k=1∨k=2:=by omega
      rcases this with rfl|rfl|rfl
      ·exact ⟨m3,rfl,TN.load g3 rfl⟩
      ·exact ⟨_,rfl,TN.load (by rw [Mem.zO _ _ n3]; exact g3) rfl⟩
      ·exact ⟨m4,rfl,TN.load g4 rfl⟩
    ·exact okR λk _ hk=>by
      have:k=0∨k=1∨k=2:=by omega
      rcases this with rfl|rfl|rfl
      ·exact ⟨m3,rfl,qv hi3⟩
      ·exact ⟨_,rfl,qv (hi3.qn (Upd.add _ _ _))⟩
      ·exact ⟨m4,rfl,qv hi4⟩
   simp only [st0,fa,TN.load g5 (o:=0+2) rfl,zf h2];have hhd:n.kids.headD 0=n.kids[0]:=Vr h0;have hbody:vg n=([2,UInt8.ofNat n.keys.length]++xI n.kids[0])++(((n.keys.zip n.kids.tail).drop 0).map yk).flatten:=by simp [vg,hl,<- hhd]
   have hbl':([2,UInt8.ofNat n.keys.length]++xI n.kids[0]:Bs).length+(((n.keys.zip n.kids.tail).drop 0).map yk).flatten.length<=256:=by rw [<- laI,<- hbody]; omega
   rw [hl] at g5;have u5:Upd [] m3 m5:=u4.then' w2.upd (λb hb=>.inr (hv1 b hb));refine (YE (m0:=m3) (bn:=m.next) hk r2 hs hf.is n3 (λb hb=>Nat.lt_of_lt_of_le (h2.2 b hb).2 u03.next) (λb hb=>Nat.lt_of_lt_of_le (h3.2 b hb).2 u03.next) _ 0 m5 v2 _ rfl (by omega) (w2.sl ((h2.qn u03).qn u4) (λb hb hv=>by have:=hv1 b hv; have:=(h2.2 b hb).2; have:=u03.next; omega)) hi5 g5 w2.ap (λb hb=>(w2.own b hb).elim (hv1 b) (λh=>Nat.le_trans u4.next h)) u5 hbl').mono λr m' ⟨hr',hu'⟩=>⟨?_,u03.qu hu'⟩
   rw [hr',<- hbody]; rfl
 ·have e1:((256:Int)<((qW n:Nat):Int))=True:=eq_true (by omega);rw [if_neg hsz];simp only [st0,e1];exact ⟨trivial,u03⟩
end Go.Fx.Tryz
namespace Go.Fx.Tryz
open Go Go.Fx
theorem W_eq {o:O} {v:Value} {m:Mem} (h:W o λr m'=>r=v/\m'=m):o=some (v,m):=by
 obtain ⟨r,m',e,rfl,rfl⟩:=h;exact e
abbrev rdB (rest:Bs):ABlk:=⟨.cells [str rest,.int .i64 0] 134,false,none⟩
theorem rd0 {m:Mem} {b:Nat} {rest:Bs} (h:m.get b=some (rdB rest)):qa (.pointer (some ⟨b,0+0,none⟩)) m=some (str rest):=qm h rfl
theorem rd1 {m:Mem} {b:Nat} {rest:Bs} (h:m.get b=some (rdB rest)):qa (.pointer (some ⟨b,0+1,none⟩)) m=some (.int .i64 0):=qm h rfl
theorem qaX:decide ((0:Int)=0)=true:=rfl
theorem WG (s:Bs) (m:Mem):Call S tab 28 [str s] m=some (.pointer (some ⟨m.next,0,none⟩),m.add (rdB s)):=by
 refine W_eq ?_;rw [C28];have e1:qt [.string ⟨#[]⟩,.int .i64 0] [(0,1,str s)]=some [str s,.int .i64 0]:=by kernel_rfl
 simp only [st0,e1,qS];exact ⟨trivial,trivial⟩
theorem ye {m:Mem} {b:Nat} {rest:Bs} (h:m.get b=some (rdB rest)) {k:Nat} (hk:k<=rest.length) (hr:rest.length<2 ^ 62) :
  Call S tab 111 [.pointer (some ⟨b,0,none⟩),.int .i64 (k:Int)] m=some (.tuple #[str (rest.take k),.bool true],m.put b (rdB (rest.drop k))):=by
 refine W_eq ?_;rw [qku];have e1:((rest.length:Int)<(k:Int))=False:=eq_false (by omega);have e2:qj 1 (.pointer (some ⟨b,0+0,none⟩)) (str (rest.drop k)) m=some (m.put b (rdB (rest.drop k))):=zF h (by simp) rfl rfl;simp only [st0,vJ,nck,fa,rd0 h,rd1 h,qaX,qZ,e1,vy hk,yb hk,e2];exact ⟨trivial,trivial⟩
theorem qbT (s:Bs) (m:Mem):Qe 5 (str s) m=some (.slice (some ⟨m.next,0,none⟩) s.length s.length,m.add ⟨.cells (xx.flat s) 5,false,some 1⟩):=by
 have:(s.map λb=>Value.int .u8 b.toNat)=xx.flat s:=by
  simp only [Enc.flat,xx]
  induction s with
  | nil=>rfl
  | cons a l ih=>simp at ih ⊢; exact ih
 simp only [Qe,ByteArray.size,List.size_toArray,this]
theorem qcY (s:Bs) (m:Mem):RSl m.next xx (m.add ⟨.cells (xx.flat s) 5,false,some 1⟩) (.slice (some ⟨m.next,0,none⟩) s.length s.length) s:=by
 have h:TAp xx 5 (m.add ⟨.cells (xx.flat s) 5,false,some 1⟩) (.slice (some ⟨m.next,0,none⟩) s.length s.length) s :=
  .inr ⟨m.next,s.length,[],some 1,rfl,by simp,by rw [Mem.qf]; simp,.inr rfl,by simp,Nat.le_refl _⟩
 exact h.rsl (λb hb=>by simp [qc] at hb; omega)
theorem YD {a:Nat} (h:a<2 ^ 64):IntKind.u64.wrap (a:Int)=(a:Int):=XD (by omega) (by omega)
theorem qlv (a:Nat) (h:a<=65535):arith .shl (.int .u64 (a:Int)) (.int .u64 8)=some (.int .u64 ((a * 256:Nat):Int)):=by
 have hb:min (8:Int).toNat IntKind.u64.bits=8:=by decide
 have h2:¬ ((8:Int)<0):=by omega
 simp only [arith,if_neg h2,hb];congr 2;rw [show ((a:Int) * 2 ^ 8)=((a * 256:Nat):Int) by simp];exact YD (by omega)
theorem or8 (a c:Nat) (ha:a<=65535) (hc:c<256):arith .or (.int .u64 ((a * 256:Nat):Int)) (.int .u64 (c:Int))=some (.int .u64 ((a * 256+c:Nat):Int)):=by
 have h1:(BitVec.ofInt 64 ((a * 256:Nat):Int) ||| BitVec.ofInt 64 (c:Int)).toNat=a * 256+c:=by
  have e1:BitVec.ofInt 64 ((a * 256:Nat):Int)=BitVec.ofNat 64 (a * 256):=BitVec.ofInt_natCast ..;have e2:BitVec.ofInt 64 (c:Int)=BitVec.ofNat 64 c:=BitVec.ofInt_natCast ..;rw [e1,e2,BitVec.toNat_or,BitVec.toNat_ofNat,BitVec.toNat_ofNat,Nat.mod_eq_of_lt (by omega),Nat.mod_eq_of_lt (by omega)];have:=Nat.two_pow_add_eq_or_of_lt (i:=8) (b:=c) (by omega) a;rw [show a * 256=2 ^ 8 * a by omega,this]
 simp only [arith,if_true,iop,Xp];rw [show IntKind.u64.bits=64 from rfl,h1,YD (by omega)];rfl
theorem qdY (c:UInt8):zn .u64 (.int .u8 (c.toNat:Int))=some (.int .u64 ((c.toNat:Nat):Int)):=HN .u8 (by omega) (by have:=c.toNat_lt; omega)
def beN:Nat->Bs->Nat
 | a,[]=>a
 | a,c::r=>beN (a * 256+c.toNat) r
theorem qdo {lo:Nat} {s:Bs} {v:Value} (hs:s.length<=2):∀ (d i acc:Nat) (m:Mem),s.length - i=d->i<=s.length->acc<256 ^ i->RSl lo xx m v s ->
  W (qcI (.int .u64 (acc:Int)) v (.int .i64 (s.length:Int)) (.int .i64 (i:Int)) m) λr m'=>r=.int .u64 ((beN acc (s.drop i):Nat):Int)/\m'=m:=by
 intro d
 induction d with
 | zero =>
  intro i acc m hd hi ha h;obtain rfl:i=s.length:=by omega
  rw [P61_0_eq];simp only [st0,Int.lt_irrefl,List.drop_length,beN];exact ⟨trivial,trivial⟩
 | succ d ih =>
  intro i acc m hd hi ha h;have hlt:i<s.length:=by omega
  have e1:((i:Int)<(s.length:Int))=True:=eq_true (by omega);obtain ⟨p,h1,_,h2⟩:=h.1.index .i64 (jB hlt);rw [ZU] at h1;have h2:=h2 (.int .u8 (s[i].toNat:Int)) rfl;have hacc:acc<=255:=by
   have:i=0∨i=1:=by omega
   rcases this with rfl|rfl<;>omega
  have hc:=s[i].toNat_lt;rw [P61_0_eq];simp only [st0,e1,h1,h2,qlv acc (by omega),qdY,or8 acc s[i].toNat (by omega) (by omega),qB (i:=i) (by omega)];refine (ih (i+1) (acc * 256+s[i].toNat) m (by omega) hlt (by rw [Nat.pow_succ]; omega) h).mono λr m' ⟨hr,hm⟩=>⟨?_,hm⟩
  rw [hr,drop_cons hlt,beN]
theorem qbX {m:Mem} {b:Nat} {rest:Bs} (h:m.get b=some (rdB rest)) (hb:b<m.next) {k:Nat} (hk:k<=rest.length) (hk1:1<=k) (hk2:k<=2) (hr:rest.length<2 ^ 62) :
  W (Call S tab 61 [.pointer (some ⟨b,0,none⟩),.int .i64 (k:Int)] m) λr m'=>r=.int .u64 ((beN 0 (rest.take k):Nat):Int)/\m'.get b=some (rdB (rest.drop k))/\Upd [b] m m':=by
 rw [C61];have c1:Call S tab 65 [.int .i64 (k:Int)] m=some (.int .i64 (k:Int),m):=by
  refine W_eq ?_;rw [C65];have h1:((1:Int) > (k:Int))=False:=eq_false (by omega);have h8:((8:Int)<(k:Int))=False:=eq_false (by omega);simp only [st0,h1,h8];exact ⟨trivial,trivial⟩
 have e1:qG 0 (.tuple #[str (rest.take k),.bool true])=some (str (rest.take k)):=rfl;have e2:qG 1 (.tuple #[str (rest.take k),.bool true])=some (.bool true):=rfl;rw [c1];simp only [st0,ye h hk hr,e1,e2,qbT];have hl:(rest.take k).length<=2:=by rw [ltI]; omega
 have e3:qd (.slice (some ⟨(m.put b (rdB (rest.drop k))).next,0,none⟩) (rest.take k).length (rest.take k).length)=some (.int .i64 ((rest.take k).length:Int)):=rfl;simp only [st0,e3];have hnew:=qcY (rest.take k) (m.put b (rdB (rest.drop k)));refine (qdo hl _ 0 0 _ rfl (by omega) (by simp) hnew).mono λr m' ⟨hr',hm'⟩=>?_
 subst hm';refine ⟨hr',by rw [Mem.zO _ _ (by simpa using hb)]; exact Mem.qe ..,(Upd.put _ _ (by simp)).trans (Upd.add _ _ _)⟩
theorem be1 (c:UInt8):beN 0 [c]=c.toNat:=by simp [beN]
theorem be2 (k:Nat) (h:k<=65535):beN 0 (xI k)=k:=by
 simp only [beN,xI,UInt8.toNat_ofNat'];omega
theorem wa {m:Mem} {b:Nat} {c:UInt8} {r:Bs} (h:m.get b=some (rdB (c::r))) (hb:b<m.next) (hr:(c::r).length<2 ^ 62) :
  W (Call S tab 61 [.pointer (some ⟨b,0,none⟩),.int .i64 1] m) λv m'=>v=.int .u64 ((c.toNat:Nat):Int)/\m'.get b=some (rdB r)/\Upd [b] m m':=by
 have:=qbX h hb (k:=1) (by simp) (by omega) (by omega) hr
 rwa [show (c::r).take 1=[c] from rfl,be1,show (c::r).drop 1=r from rfl] at this
theorem JG {m:Mem} {b:Nat} {k:Nat} {r:Bs} (hk:k<=65535) (h:m.get b=some (rdB (xI k++r))) (hb:b<m.next) (hr:(xI k++r).length<2 ^ 62) :
  W (Call S tab 61 [.pointer (some ⟨b,0,none⟩),.int .i64 2] m) λv m'=>v=.int .u64 (k:Int)/\m'.get b=some (rdB r)/\Upd [b] m m':=by
 have:=qbX h hb (k:=2) (by simp [xI]) (by omega) (by omega) hr
 rwa [show (xI k++r).take 2=xI k from rfl,be2 k hk,show (xI k++r).drop 2=r from rfl] at this
theorem XH {m:Mem} {b:Nat} {s r:Bs} {most:Nat} (h:m.get b=some (rdB (zD s++r))) (hb:b<m.next) (hs:s.length<=most) (hm:most<=255) (hr:(zD s++r).length<2 ^ 62) :
  W (Call S tab 104 [.pointer (some ⟨b,0,none⟩),.int .i64 (most:Int)] m) λv m'=>v=str s/\m'.get b=some (rdB r)/\Upd [b] m m':=by
 have hl:(UInt8.ofNat s.length).toNat=s.length:=by simp; omega
 rw [qkv];have t1:=ye h (k:=1) (by simp [zD]) hr;rw [show (zD s++r).take 1=[UInt8.ofNat s.length] from rfl,show (zD s++r).drop 1=s++r from rfl] at t1;have e1:qG 0 (.tuple #[str [UInt8.ofNat s.length],.bool true])=some (str [UInt8.ofNat s.length]):=rfl;have e2:qG 1 (.tuple #[str [UInt8.ofNat s.length],.bool true])=some (.bool true):=rfl;have e3:zm (str [UInt8.ofNat s.length]) (.int .i64 0)=some (.int .u8 ((UInt8.ofNat s.length).toNat:Int)):=yN (i:=0) rfl;have e4:zn .i64 (.int .u8 ((UInt8.ofNat s.length).toNat:Int))=some (.int .i64 (s.length:Int)):=by rw [Zo .u8 (by omega) (by omega),hl]
 have e5:((most:Int)<(s.length:Int))=False:=eq_false (by omega);have g1:(m.put b (rdB (s++r))).get b=some (rdB (s++r)):=Mem.qe ..;have hlen:(s++r).length<2 ^ 62:=by simp [zD] at hr ⊢; omega
 have t2:=ye g1 (k:=s.length) (by simp) hlen;rw [List.take_left' rfl,List.drop_left' rfl] at t2;have e6:qG 0 (.tuple #[str s,.bool true])=some (str s):=rfl;have e7:qG 1 (.tuple #[str s,.bool true])=some (.bool true):=rfl;have t1':Call S tab 111 [.pointer (some ⟨b,0,none⟩),.int .i64 1] m=some (.tuple #[str [UInt8.ofNat s.length],.bool true],m.put b (rdB (s++r))):=t1;simp only [st0,vJ,nck,fa,rd0 h,rd1 h,qaX,t1',e1,e2,e3,e4,e5,t2,e6,e7];exact ⟨trivial,Mem.qe ..,(Upd.put _ _ (by simp)).trans (Upd.put _ _ (by simp))⟩
theorem He {m:Mem} {b:Nat} {rest:Bs} (h:m.get b=some (rdB rest)):Call S tab 106 [.pointer (some ⟨b,0,none⟩)] m=some (.int .i64 (rest.length:Int),m):=by
 refine W_eq ?_;rw [qmK];simp only [st0,vJ,nck,fa,rd0 h,qZ];exact ⟨trivial,trivial⟩
theorem QJ {m:Mem} {b:Nat} {rest:Bs} (h:m.get b=some (rdB rest)):Call S tab 107 [.pointer (some ⟨b,0,none⟩)] m=some (.int .i64 0,m):=by
 refine W_eq ?_;rw [qlq];simp only [st0,vJ,nck,fa,rd1 h];exact ⟨trivial,trivial⟩
theorem qbW {m:Mem} {b:Nat} {rest:Bs} (h:m.get b=some (rdB rest)) (hr:rest.length<2 ^ 62):Call S tab 105 [.pointer (some ⟨b,0,none⟩),.int .i64 (rest.length:Int)] m=some (str rest,m.put b (rdB [])):=by
 refine W_eq ?_;rw [qmL];have e0:((0:Int) > (rest.length:Int))=False:=eq_false (by omega);have t:=ye h (k:=rest.length) (Nat.le_refl _) hr;rw [List.take_length,List.drop_length] at t;have e1:qG 0 (.tuple #[str rest,.bool true])=some (str rest):=rfl;have e2:qG 1 (.tuple #[str rest,.bool true])=some (.bool true):=rfl;simp only [st0,e0,t,e1,e2];exact ⟨trivial,trivial⟩
end Go.Fx.Tryz
