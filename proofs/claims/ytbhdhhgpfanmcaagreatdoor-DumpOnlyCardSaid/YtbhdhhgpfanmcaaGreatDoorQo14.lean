/- Parts of a proof: TreeM, TreeA, TreeB, TreeC. Conditions: none. -/
import Derived.Test.YtbhdhhgpfanmcaaGreatDoorQo13
set_option linter.unusedSimpArgs false
set_option linter.unusedVariables false
namespace Go.Fx
open Go
abbrev Bs:=List UInt8
abbrev Pr:=Bs × Bs
structure Nd where
 leaf:Bool
 pairs:List Pr
 keys:List Bs
 kids:List Nat
deriving DecidableEq
def Nd.lf (l:List Pr):Nd:=⟨true,l,[],[]⟩
def Nd.nd (ks:List Bs) (ps:List Nat):Nd:=⟨false,[],ks,ps⟩
def qI (p:Pr):Nat:=2+p.1.length+p.2.length
def zt (n:Nd):Nat:=if n.leaf then 2+(n.pairs.map qI).sum else 4+(n.keys.map fun k=>3+k.length).sum
def ltB (a b:Bs):Bool:=decide (a<b)
def qC:List Bs→Bool
 | []=>true
 | k::r=>decide (k≠[])&&decide (k.length≤32)&&(match r with|[]=>true|j::_=>ltB k j)&&qC r
def qT (n:Nd):Bool :=
 if n.leaf then n.keys.isEmpty&&n.kids.isEmpty&&qC (n.pairs.map (·.1))&&n.pairs.all (fun p=>decide (p.2.length≤40))
 else n.pairs.isEmpty&&decide (n.kids.length=n.keys.length+1)&&qC n.keys&&n.kids.all (fun k=>decide (1≤k∧k≤65535))
def xU (k:Nat):Bs:=[UInt8.ofNat (k / 256),UInt8.ofNat k]
def xa (s:Bs):Bs:=UInt8.ofNat s.length::s
def xz (p:Pr):Bs:=xa p.1++xa p.2
def wA (p:Bs × Nat):Bs:=xa p.1++xU p.2
def kF (n:Nd):Bs :=
 if n.leaf then [1,UInt8.ofNat n.pairs.length]++(n.pairs.map xz).flatten
 else [2,UInt8.ofNat n.keys.length]++xU (n.kids.headD 0)++((n.keys.zip n.kids.tail).map wA).flatten
def qp (k:Nat):Bs:=List.replicate k 0
def xv (n:Nd):Bs:=kF n++qp (256 - (kF n).length)
theorem QL (p:Pr):(xz p).length=qI p:=by simp [xz,xa,qI]; omega
theorem XL (p:Bs × Nat):(wA p).length=3+p.1.length:=by simp [wA,xa,xU]; omega
theorem vR {α:Type} (f:α→Bs) (g:α→Nat) (h:∀ a,(f a).length=g a):∀ l:List α,((l.map f).flatten).length=(l.map g).sum
 | []=>rfl
 | a::l=>by rw [List.map_cons,List.flatten_cons,List.length_append,vR f g h l,h a,List.map_cons,List.sum_cons]
theorem yP:∀ (ks:List Bs) (ps:List Nat),ks.length≤ps.length→((ks.zip ps).map fun p=>3+p.1.length).sum=(ks.map fun k=>3+k.length).sum
 | [],_,_=>by simp
 | k::ks,[],h=>by simp at h
 | k::ks,p::ps,h=>by
  simp only [List.zip_cons_cons,List.map_cons,List.sum_cons]
  rw [yP ks ps (by simpa using h)]
theorem QY {n:Nd} (h:qT n=true):(kF n).length=zt n:=by
 unfold kF zt
 cases hl:n.leaf with
 | true =>
  simp only [if_true,List.length_append,List.length_cons,List.length_nil]
  rw [vR xz qI QL]
 | false =>
  simp only [qT,hl,Bool.false_eq_true,if_false,Bool.and_eq_true,decide_eq_true_eq] at h
  simp only [Bool.false_eq_true,if_false,List.length_append,List.length_cons,List.length_nil,xU]
  rw [vR wA (fun p=>3+p.1.length) XL,yP _ _ (by rw [List.length_tail]; omega)]
theorem Qr {n:Nd} (h:qT n=true) (hs:zt n≤256):(xv n).length=256:=by
 have:=QY h
 simp [xv,qp]; omega
structure RSl {α:Type} (lo:Nat) (E:Enc α) (m:Mem) (v:Value) (l:List α):Prop where
 ts:TSl E m v l
 lt:∀ b∈qf v,lo≤b∧b<m.next
 kn:∀ b∈qf v,m.known b=.exact∨m.known b=.loose E.size
section
variable {α:Type} {E:Enc α} {lo:Nat}
theorem RSl.jB {fp:List Nat} {m m':Mem} {v:Value} {l:List α} (h:RSl lo E m v l) (hu:Upd fp m m') (hf:∀ b∈qf v,b∉fp):RSl lo E m' v l :=
 ⟨h.1.upd hu (fun b hb=>⟨(h.2 b hb).2,hf b hb⟩),fun b hb=>⟨(h.2 b hb).1,Nat.lt_of_lt_of_le (h.2 b hb).2 hu.next⟩,fun b hb=>by
  have:=h.3 b hb
  simp only [Mem.known] at this ⊢
  rw [hu.same b (h.2 b hb).2 (hf b hb)]
  exact this⟩
theorem RSl.upd {fp:List Nat} {m m':Mem} {v:Value} {l:List α} (h:RSl lo E m v l) (hu:Upd fp m m') (hf:∀ b∈fp,b<lo):RSl lo E m' v l :=
 h.jB hu (fun b hb hm=>by have:=hf b hm; have:=(h.2 b hb).1; omega)
theorem RSl.qx {m m':Mem} {v:Value} {l:List α} (h:RSl lo E m v l) (hu:Upd [] m m'):RSl lo E m' v l:=h.upd hu (fun b hb=>by cases hb)
theorem RSl.low {lo':Nat} {m:Mem} {v:Value} {l:List α} (h:RSl lo E m v l) (hl:lo'≤lo):RSl lo' E m v l:=⟨h.1,fun b hb=>⟨Nat.le_trans hl (h.2 b hb).1,(h.2 b hb).2⟩,h.3⟩
theorem RSl.nil (lo:Nat) (E:Enc α) (m:Mem):RSl lo E m (.slice none 0 0) []:=⟨TSl.nil m,fun b hb=>by simp [qf] at hb,fun b hb=>by simp [qf] at hb⟩
theorem TAp.rsl {e:TypeId} {m:Mem} {v:Value} {l:List α} (h:TAp E e m v l) (hl:∀ b∈qf v,lo≤b):RSl lo E m v l:=⟨h.tsl,fun b hb=>⟨hl b hb,h.lt b hb⟩,fun b hb=>by
 rcases h with ⟨rfl,rfl⟩|⟨c,cap,rest,x,rfl,h1,hg,hx,_⟩
 ·simp [qf] at hb
 ·simp [qf] at hb
  subst hb
  rcases hx with rfl|rfl
  ·left; simp [Mem.known,hg]
  ·right; simp [Mem.known,hg]⟩
theorem RSl.from {m:Mem} {v:Value} {l:List α} (h:RSl lo E m v l) {k:Nat} (hk:k≤l.length) :
  ∃ v',(∀ m',(∀ b∈qf v,m'.get b=m.get b)→qD E.size v (some (.int .i64 (k:Int))) none m'=some v')∧RSl lo E m v' (l.drop k):=by
 have h1:=h.1
 obtain ⟨hcl,⟨rfl,h0⟩|⟨b,off,cap,rfl,hc,hd⟩⟩:=h1
 ·obtain rfl:l=[]:=by simpa using h0
  obtain rfl:k=0:=by simpa using hk
  exact ⟨.slice none 0 0,fun m' _=>by simp [qD,zm,xf],RSl.nil _ _ _⟩
 ·have hkn:=h.3 b (by simp [qf])
  refine ⟨.slice (some ⟨b,if cap=k then off else off+k * E.size,none⟩) (l.length - k) (cap - k),fun m' hm'=>?_,⟨E.qV _,.inr ⟨b,_,cap - k,by rw [List.length_drop],by rw [List.length_drop]; omega,?_⟩⟩,fun c hcb=>h.2 c (by simp [qf] at hcb ⊢; exact hcb),fun c hcb=>h.3 c (by simp [qf] at hcb ⊢; exact hcb)⟩
  ·have hbd:zm l.length cap (some (.int .i64 (k:Int))) none=some (k,l.length):=by
    have:(0:Int)≤(k:Int)∧(k:Int)≤(l.length:Int):=by omega
    simp only [zm,xf,Option.bind_some,if_pos this,Option.map_some]
    simp
   have hkn':m'.known b=m.known b:=by simp only [Mem.known]; rw [hm' b (by simp [qf])]
   simp only [qD,hbd,Option.bind_some,hkn']
   rw [if_pos (.inr hkn)]
  ·by_cases h0:l.length - k=0
   ·left; rw [List.length_drop]; exact h0
   ·right
    rcases hd with hd|⟨c,hcs,hle,hpc⟩
    ·omega
    ·have hf:=E.qV l
     refine ⟨c,hcs,?_,?_⟩
     ·rw [if_neg (by omega),List.length_drop,Nat.add_assoc,← Nat.add_mul]
      have:k+(l.length - k)=l.length:=by omega
      rw [this]; exact hle
     ·rw [if_neg (by omega),← E.vB,hpc,List.length_drop,← List.drop_drop,List.drop_take,Nat.sub_mul]
theorem RSl.VM {m:Mem} {v:Value} {l:List α} (h:RSl lo E m v l) {k:Nat} (hk:k≤l.length) :
  ∃ v',(∀ m',qD E.size v none (some (.int .i64 (k:Int))) m'=some v')∧RSl lo E m v' (l.take k):=by
 obtain ⟨v',h1,h2,h3⟩:=h.1.qhX hk
 exact ⟨v',h1,h2,by rw [h3]; exact h.2,by rw [h3]; exact h.3⟩
end
def qN:Enc Pr:=⟨2,fun p=>[str p.1,str p.2],fun _=>rfl,fun _=>rfl⟩
def xd:Enc Nat:=⟨1,fun k=>[.int .i64 (k:Int)],fun _=>rfl,fun _=>rfl⟩
theorem zc:qN.size=2:=rfl
theorem jy:xd.size=1:=rfl
theorem zZ:encS.size=1:=rfl
abbrev HY (p:Pr):Value:=.agg #[str p.1,str p.2]
abbrev yv (b:Bool) (sp sk si:Value):Value:=.agg #[.bool b,sp,sk,si]
structure TN (lo:Nat) (m:Mem) (v:Value) (n:Nd):Prop where
 ex:∃ sp sk si,v=yv n.leaf sp sk si∧RSl lo qN m sp n.pairs∧RSl lo encS m sk n.keys∧RSl lo xd m si n.kids
theorem TN.upd {lo:Nat} {fp:List Nat} {m m':Mem} {v:Value} {n:Nd} (h:TN lo m v n) (hu:Upd fp m m') (hf:∀ b∈fp,b<lo):TN lo m' v n:=by
 obtain ⟨sp,sk,si,e,h1,h2,h3⟩:=h.ex
 exact ⟨sp,sk,si,e,h1.upd hu hf,h2.upd hu hf,h3.upd hu hf⟩
theorem TN.qx {lo:Nat} {m m':Mem} {v:Value} {n:Nd} (h:TN lo m v n) (hu:Upd [] m m'):TN lo m' v n:=h.upd hu (fun b hb=>by cases hb)
theorem TN.low {lo lo':Nat} {m:Mem} {v:Value} {n:Nd} (h:TN lo m v n) (hl:lo'≤lo):TN lo' m v n:=by
 obtain ⟨sp,sk,si,e,h1,h2,h3⟩:=h.ex
 exact ⟨sp,sk,si,e,h1.low hl,h2.low hl,h3.low hl⟩
structure Nd.Fit (n:Nd):Prop where
 pl:n.pairs.length≤65536
 kl:n.keys.length≤65536
 il:n.kids.length≤65536
 ps:∀ p∈n.pairs,p.1.length≤65536∧p.2.length≤65536
 ks:∀ k∈n.keys,k.length≤65536
 is:∀ k∈n.kids,k≤65536
end Go.Fx
namespace Go.Fx.Tryz
open Go Go.Fx
theorem fa (k b o:Nat):qa k (.pointer (some ⟨b,o,none⟩))=some (.pointer (some ⟨b,o+k,none⟩)):=rfl
theorem nck (b o:Nat):qe (.pointer (some ⟨b,o,none⟩))=some (.pointer (some ⟨b,o,none⟩)):=rfl
theorem vd (b o:Nat):qP .ptr false (.pointer (some ⟨b,o,none⟩)) (.pointer none)=some (.bool false):=rfl
theorem zv {lo:Nat} {α:Type} {E:Enc α} {m:Mem} {v:Value} {l:List α} (h:RSl lo E m v l):qj v=some (.int .i64 (l.length:Int)):=h.1.len
theorem addN {i j:Nat} (h:i+j<2 ^ 62):arith .add (.int .i64 (i:Int)) (.int .i64 (j:Int))=some (.int .i64 ((i+j:Nat):Int)):=qdu h
theorem kL:∀ (x y:Bs),Op.bytesLess x y=ltB x y
 | x,[]=>by simp [Op.bytesLess,ltB]
 | [],b::y=>by simp [Op.bytesLess,ltB]
 | a::x,b::y=>by
  have ih:=kL x y
  simp only [Op.bytesLess,ih,ltB,List.cons_lt_cons_iff]
  by_cases h1:a<b<;>by_cases h2:a=b<;>by_cases h3:x<y<;>simp [h1,h2,h3]
theorem ZM (a b:Bs):arith .lss (str a) (str b)=some (.bool (ltB a b)):=by
 show some (Value.bool (Op.bytesLess a b))=_
 rw [kL]
theorem yd (a b:Bs):arith .geq (str a) (str b)=some (.bool (!ltB a b)):=by
 show some (Value.bool (!Op.bytesLess a b))=_
 rw [kL]
theorem leB_eq (a b:Bs):(ltB a b||decide (a=b))=!ltB b a:=by
 simp only [ltB]
 by_cases h1:a<b
 ·have:¬ b<a:=fun h2=>List.lt_irrefl _ (List.lt_trans h1 h2)
  simp [h1,this]
 ·by_cases h2:a=b
  ·subst h2; simp [List.lt_irrefl]
  ·have:b<a:=by
    rcases List.le_total a b with h|h
    ·rcases List.le_iff_lt_or_eq.1 h with h|h
     ·exact absurd h h1
     ·exact absurd h h2
    ·rcases List.le_iff_lt_or_eq.1 h with h|h
     ·exact h
     ·exact absurd h.symm h2
   simp [h1,h2,this]
theorem Qh (a b:Bs):arith .leq (str a) (str b)=some (.bool (!ltB b a)):=by
 show some (Value.bool (Op.bytesLess a b||a == b))=_
 rw [kL,← leB_eq]
 congr 3
 by_cases h:a=b<;>simp [h]
theorem jJ {e:TypeId} {n:Nat} {c z:List Value} {m:Mem} {K:Mem→O} {Q:Value→Mem→Prop} (hz:z.length=n) (hc:c.length=n) (h1:c.all (·.oneCell')=true)
  (h:∀ m',m'.get m.next=some ⟨.cells c e,false,none⟩→Upd [] m m'→m.next<m'.next→W (K m') Q) :
  W ((qg n (.pointer (some ⟨m.next,0,none⟩)) (.agg c.toArray) (m.add ⟨.cells z e,false,none⟩)).bind K) Q:=by
 refine W.Qt (qch m e hz hc h1) (h _ (Mem.qi ..) ?_ (by simp))
 exact (Upd.add [] m _).kr _ (.inr (Nat.le_refl _))
theorem ZR (p:Pr) (m:Mem) (h1:p.1.length≤65536) (h2:p.2.length≤65536):W (Call S tab 202 [HY p] m) fun r m'=>r=.int .i64 (qI p:Nat)∧Upd [] m m':=by
 rw [qkg]
 have e2:arith .add (.int .i64 2) (.int .i64 (p.1.length:Int))=some (.int .i64 ((2+p.1.length:Nat):Int)):=addN (i:=2) (by omega)
 simp -implicitDefEqProofs only [st0,qb,reduceIte,fa,qR,qs (Mem.qh m _) (show [str p.1,str p.2][0+0]? = some (str p.1) from rfl),qs (Mem.qh m _) (show [str p.1,str p.2][0+1]? = some (str p.2) from rfl),zN,e2,addN (i:=2+p.1.length) (j:=p.2.length) (by omega)]
 exact ⟨rfl,Upd.add _ _ _⟩
theorem jE {α:Type} {l:List α} {i:Nat} (h:i<l.length):l[i]? = some l[i]:=List.getElem?_eq_getElem h
theorem drop_cons {α:Type} {l:List α} {i:Nat} (h:i<l.length):l.drop i=l[i]::l.drop (i+1):=List.drop_eq_getElem_cons h
theorem YH {lo:Nat} {l:List Pr} {sp:Value} (hl:l.length≤65536) (hs:∀ p∈l,p.1.length≤65536∧p.2.length≤65536):∀ (d i acc:Nat) (m:Mem),l.length - i=d→i≤l.length→acc≤2+i * 200000→RSl lo qN m sp l →
  W (Vx (.int .i64 (acc:Int)) sp (.int .i64 (l.length:Int)) (.int .i64 (i:Int)) m) fun r m'=>r=.int .i64 ((acc+((l.drop i).map qI).sum:Nat):Int)∧Upd [] m m':=by
 intro d
 induction d with
 | zero =>
  intro i acc m hd hi ha h
  obtain rfl:i=l.length:=by omega
  rw [P169_0_eq]
  simp -implicitDefEqProofs only [st0,qb,reduceIte,Int.lt_irrefl]
  exact ⟨by simp,Upd.refl _ _⟩
 | succ d ih =>
  intro i acc m hd hi ha h
  have hlt:i<l.length:=by omega
  have hp:=hs _ (List.getElem_mem hlt)
  have e1:((i:Int)<(l.length:Int))=True:=by simp; omega
  rw [P169_0_eq]
  obtain ⟨b,off,h1,h2⟩:=h.1.at .i64 (jE hlt)
  rw [zc] at h1 h2
  have h2:=h2 m h.1
  simp -implicitDefEqProofs only [st0,qb,reduceIte,e1,h1,h2.1]
  refine jJ (c:=qN.cells l[i]) rfl rfl rfl fun m1 g1 u1 n1=>?_
  simp -implicitDefEqProofs only [st0,qb,reduceIte,zu g1 (show (qN.cells l[i]).length=2 from rfl)]
  refine (ZR l[i] m1 hp.1 hp.2).bind fun r m2 ⟨hr,u2⟩=>?_
  subst hr
  have hw:qI l[i]≤200000:=by unfold qI; omega
  simp -implicitDefEqProofs only [st0,qb,reduceIte,addN (i:=acc) (j:=qI l[i]) (by omega),qH (i:=i) (by omega)]
  have hu:=u1.qz u2
  refine (ih (i+1) (acc+qI l[i]) m2 (by omega) hlt (by omega) (h.qx hu)).mono fun r m3 ⟨hr,u3⟩=>⟨?_,hu.qz u3⟩
  rw [hr,drop_cons hlt,List.map_cons,List.sum_cons,Nat.add_assoc]
theorem YG {lo:Nat} {l:List Bs} {sk:Value} (hl:l.length≤65536) (hs:∀ k∈l,k.length≤65536):∀ (d i acc:Nat) (m:Mem),l.length - i=d→i≤l.length→acc≤4+i * 200000→RSl lo encS m sk l →
  W (Vw (.int .i64 (acc:Int)) sk (.int .i64 (l.length:Int)) (.int .i64 (i:Int)) m) fun r m'=>r=.int .i64 ((acc+((l.drop i).map fun k=>3+k.length).sum:Nat):Int)∧Upd [] m m':=by
 intro d
 induction d with
 | zero =>
  intro i acc m hd hi ha h
  obtain rfl:i=l.length:=by omega
  rw [P169_1_eq]
  simp -implicitDefEqProofs only [st0,qb,reduceIte,Int.lt_irrefl]
  exact ⟨by simp,Upd.refl _ _⟩
 | succ d ih =>
  intro i acc m hd hi ha h
  have hlt:i<l.length:=by omega
  have hp:=hs _ (List.getElem_mem hlt)
  have e1:((i:Int)<(l.length:Int))=True:=by simp; omega
  rw [P169_1_eq]
  obtain ⟨p,h1,_,h2⟩:=h.1.index .i64 (jE hlt)
  rw [zZ] at h1
  have h2:=h2 (str l[i]) rfl
  have e3:arith .add (.int .i64 3) (.int .i64 (l[i].length:Int))=some (.int .i64 ((3+l[i].length:Nat):Int)):=addN (i:=3) (by omega)
  simp -implicitDefEqProofs only [st0,qb,reduceIte,e1,h1,h2,zN,e3,addN (i:=acc) (j:=3+l[i].length) (by omega),qH (i:=i) (by omega)]
  refine (ih (i+1) (acc+(3+l[i].length)) m (by omega) hlt (by omega) h).mono fun r m3 ⟨hr,u3⟩=>⟨?_,u3⟩
  rw [hr,drop_cons hlt,List.map_cons,List.sum_cons,Nat.add_assoc]
theorem HK {lo:Nat} {v:Value} {n:Nd} {m:Mem} (h:TN lo m v n) (hf:n.Fit):W (Call S tab 169 [v] m) fun r m'=>r=.int .i64 (zt n:Nat)∧Upd [] m m':=by
 obtain ⟨sp,sk,si,rfl,h1,h2,h3⟩:=h.ex
 rw [qkr]
 have u1:Upd [] m (m.add ⟨.cells [.bool n.leaf,sp,sk,si] 169,false,none⟩):=Upd.add _ _ _
 simp -implicitDefEqProofs only [st0,qb,reduceIte,fa,qR,qs (Mem.qh m _) (show [Value.bool n.leaf,sp,sk,si][0+0]? = some (.bool n.leaf) from rfl),qs (Mem.qh m _) (show [Value.bool n.leaf,sp,sk,si][0+1]? = some sp from rfl),qs (Mem.qh m _) (show [Value.bool n.leaf,sp,sk,si][0+2]? = some sk from rfl),zv h1,zv h2]
 cases hl:n.leaf with
 | true =>
  simp -implicitDefEqProofs only [st0,qb,reduceIte]
  rw [hl] at u1
  refine (YH hf.pl hf.ps _ 0 2 _ rfl (by omega) (by omega) (h1.qx u1)).mono fun r m' ⟨hr,hu⟩=>⟨?_,u1.qz hu⟩
  rw [hr]; simp [zt,hl]
 | false =>
  have e1:arith .add (.int .i64 2) (.int .i64 2)=some (.int .i64 ((4:Nat):Int)):=by kernel_rfl
  simp -implicitDefEqProofs only [st0,qb,reduceIte,e1]
  rw [hl] at u1
  refine (YG hf.kl hf.ks _ 0 4 _ rfl (by omega) (by omega) (h2.qx u1)).mono fun r m' ⟨hr,hu⟩=>⟨?_,u1.qz hu⟩
  rw [hr]; simp [zt,hl]
end Go.Fx.Tryz
namespace Go.Fx.Tryz
open Go Go.Fx
theorem zK:∀ {l:List Bs},qC l=true→∀ (i:Nat) (h:i<l.length),l[i]≠[]∧l[i].length≤32∧∀ (j:Nat) (hj:j<l.length),j+1=i→ltB l[j] l[i]=true
 | [],_,i,h=>by simp at h
 | [k],hr,i,h=>by
  obtain rfl:i=0:=by simpa using h
  simp only [qC,Bool.and_eq_true,decide_eq_true_eq] at hr
  exact ⟨hr.1.1.1,hr.1.1.2,fun j _ hj=>by omega⟩
 | k::k'::r,hr,i,h=>by
  simp only [qC,Bool.and_eq_true,decide_eq_true_eq] at hr
  have ih:=zK (l:=k'::r) (by simp only [qC,Bool.and_eq_true,decide_eq_true_eq]; exact hr.2)
  cases i with
  | zero=>exact ⟨hr.1.1.1,hr.1.1.2,fun j _ hj=>by omega⟩
  | succ i =>
   obtain ⟨h1,h2,h3⟩:=ih i (by simpa using h)
   refine ⟨h1,h2,fun j hjl hj=>?_⟩
   obtain rfl:j=i:=by omega
   cases j with
   | zero=>exact hr.1.2
   | succ j=>exact h3 j (by simp at hjl ⊢; omega) rfl
theorem ZE:(Value.string ⟨#[]⟩)=str []:=rfl
theorem Wm {lo:Nat} {l:List Bs} {sk:Value} (hl:l.length≤65536) (hr:qC l=true):∀ (d i:Nat) (m:Mem),l.length - i=d→i≤l.length→RSl lo encS m sk l →
  W (Vr sk sk (.int .i64 (l.length:Int)) (.int .i64 (i:Int)) m) fun r m'=>r=.bool true∧m'=m:=by
 intro d
 induction d with
 | zero =>
  intro i m hd hi h
  obtain rfl:i=l.length:=by omega
  rw [P208_0_eq]
  simp -implicitDefEqProofs only [st0,qb,reduceIte,Int.lt_irrefl]
  exact ⟨trivial,trivial⟩
 | succ d ih =>
  intro i m hd hi h
  have hlt:i<l.length:=by omega
  obtain ⟨r1,r2,r3⟩:=zK hr i hlt
  have e1:((i:Int)<(l.length:Int))=True:=by simp; omega
  obtain ⟨p,h1,_,h2⟩:=h.1.index .i64 (jE hlt)
  rw [zZ] at h1
  have h2:=h2 (str l[i]) rfl
  have e2:((32:Int)<(l[i].length:Int))=False:=by simp; omega
  rw [P208_0_eq]
  cases i with
  | zero =>
   have e3:((0:Int)<((0:Nat):Int))=False:=by simp
   simp -implicitDefEqProofs only [st0,qb,reduceIte,e1,h1,h2,ZE,kI,r1,zN,e2,e3,qH (i:=0) (by omega)]
   exact ih 1 m (by omega) hlt h
  | succ i =>
   have hlt':i<l.length:=by omega
   obtain ⟨p',h1',_,h2'⟩:=h.1.index .i64 (jE hlt')
   rw [zZ] at h1'
   have h2':=h2' (str l[i]) rfl
   have e3:((0:Int)<((i+1:Nat):Int))=True:=eq_true (by omega)
   have e4:arith .sub (.int .i64 ((i+1:Nat):Int)) (.int .i64 1)=some (.int .i64 (i:Int)):=by rw [jf (by omega) (by omega)]; congr 2; omega
   simp -implicitDefEqProofs only [st0,qb,reduceIte,e1,h1,h2,ZE,kI,r1,zN,e2,e3,e4,h1',h2',yd,r3 i hlt' rfl,qH (i:=i+1) (by omega)]
   exact ih (i+1+1) m (by omega) hlt h
theorem Jz {lo:Nat} {l:List Bs} {sk:Value} {m:Mem} (hl:l.length≤65536) (hr:qC l=true) (h:RSl lo encS m sk l):Call S tab 208 [sk] m=some (.bool true,m):=by
 have:W (Call S tab 208 [sk] m) fun r m'=>r=.bool true∧m'=m:=by
  rw [qka]
  simp -implicitDefEqProofs only [st0,qb,reduceIte,zv h]
  exact Wm hl hr _ 0 m rfl (by omega) h
 obtain ⟨r,m',e,rfl,rfl⟩:=this
 exact e
theorem qbF {lo:Nat} {l:List Pr} {sp:Value} (hl:l.length≤65536):∀ (d i:Nat) (m0 m:Mem) (v:Value),l.length - i=d→i≤l.length→RSl lo qN m sp l→TAp encS 9 m v ((l.take i).map (·.1))→(∀ b∈qf v,m0.next≤b)→(∀ b∈qf sp,b<m0.next)→Upd [] m0 m →
  W (Vq v sp (.int .i64 (l.length:Int)) (.int .i64 (i:Int)) m) fun r m'=>TAp encS 9 m' r (l.map (·.1))∧(∀ b∈qf r,m0.next≤b)∧Upd [] m0 m':=by
 intro d
 induction d with
 | zero =>
  intro i m0 m v hd hi h hv hb hsp hu
  obtain rfl:i=l.length:=by omega
  rw [P209_0_eq]
  simp -implicitDefEqProofs only [st0,qb,reduceIte,Int.lt_irrefl]
  rw [List.take_length] at hv
  exact ⟨hv,hb,hu⟩
 | succ d ih =>
  intro i m0 m v hd hi h hv hb hsp hu
  have hlt:i<l.length:=by omega
  have e1:((i:Int)<(l.length:Int))=True:=by simp; omega
  rw [P209_0_eq]
  obtain ⟨b,off,h1,h2⟩:=h.1.at .i64 (jE hlt)
  rw [zc] at h1 h2
  have h2:=h2 m h.1
  simp -implicitDefEqProofs only [st0,qb,reduceIte,e1,h1,h2.1]
  refine jJ (c:=qN.cells l[i]) rfl rfl rfl fun m1 g1 u1 n1=>?_
  have e2:qy [.string ⟨#[]⟩] [(0,1,str l[i].1)]=some (encS.flat [l[i].1]):=by kernel_rfl
  simp -implicitDefEqProofs only [st0,qb,reduceIte,fa,qs g1 (show (qN.cells l[i])[0+0]? = some (str l[i].1) from rfl),e2]
  refine zX (E:=encS) [l[i].1] (by decide) (hv.qx u1) (by simp; omega) fun v' m2 q1 q2 q3=>?_
  simp -implicitDefEqProofs only [st0,qb,reduceIte,qH (i:=i) (by omega)]
  have hu1:Upd [] m0 m1:=hu.qz u1
  have hu2:Upd [] m0 m2:=hu1.then' q2 (fun b hbv=>.inr (hb b hbv))
  have e3:(l.take i).map (·.1)++[l[i].1]=(l.take (i+1)).map (·.1):=by rw [List.take_succ_eq_append_getElem hlt,List.map_append]; rfl
  rw [e3] at q1
  refine ih (i+1) m0 m2 v' (by omega) hlt ((h.qx u1).jB q2 (fun b hbs hbv=>by have:=hb b hbv; have:=hsp b hbs; omega)) q1 (fun b hbv=>?_) hsp hu2
  rcases q3 b hbv with hb1|hb1
  ·exact hb b hb1
  ·exact Nat.le_trans hu1.next hb1
theorem qfa {lo:Nat} {v:Value} {n:Nd} {m:Mem} (h:TN lo m v n) (hf:n.Fit):W (Call S tab 209 [v] m) fun r m'=>RSl m.next encS m' r (n.pairs.map (·.1))∧Upd [] m m':=by
 obtain ⟨sp,sk,si,rfl,h1,h2,h3⟩:=h.ex
 rw [qjZ]
 have u1:Upd [] m (m.add ⟨.cells [.bool n.leaf,sp,sk,si] 169,false,none⟩):=Upd.add _ _ _
 simp -implicitDefEqProofs only [st0,qb,reduceIte,fa,qR,qs (Mem.qh m _) (show [Value.bool n.leaf,sp,sk,si][0+1]? = some sp from rfl),zv h1]
 refine (qbF hf.pl _ 0 m _ _ rfl (by omega) (h1.qx u1) (TAp.nil _) (fun b hb=>by simp [qf] at hb) (fun b hb=>(h1.2 b hb).2) u1).mono fun r m' ⟨q1,q2,q3⟩=>⟨q1.rsl q2,q3⟩
theorem qeW (p:Pr) (m:Mem) (h:p.2.length≤40):W (Call S tab 207 [HY p] m) fun r m'=>r=.bool false∧Upd [] m m':=by
 rw [qkb]
 have e1:((40:Int)<(p.2.length:Int))=False:=by simp; omega
 simp -implicitDefEqProofs only [st0,qb,reduceIte,fa,qR,qs (Mem.qh m _) (show [str p.1,str p.2][0+1]? = some (str p.2) from rfl),zN,e1]
 exact ⟨trivial,Upd.add _ _ _⟩
theorem qhm (k:Nat) (m:Mem) (h:1≤k∧k≤65535):Call S tab 211 [.int .i64 (k:Int)] m=some (.bool false,m):=by
 rw [qhQ]
 have e1:((k:Int)<1)=False:=by simp; omega
 have e2:((65535:Int)<(k:Int))=False:=by simp; omega
 have:W (Call S tab 211 [.int .i64 (k:Int)] m) fun r m'=>r=.bool false∧m'=m:=by
  rw [qhQ]
  simp -implicitDefEqProofs only [st0,qb,reduceIte,e1,e2]
  exact ⟨trivial,trivial⟩
 obtain ⟨r,m',e,rfl,rfl⟩:=this
 rw [← qhQ]; exact e
theorem JY (f:FuncId) (h:Nat.blt f yBase=true):jV (.func (.func f) #[] #[])=some (f,[],[]):=by simp [jV,h]
theorem qcj {lo:Nat} {l:List Pr} {sp:Value} (hl:l.length≤65536) (hs:∀ p∈l,p.2.length≤40):∀ (d i:Nat) (m:Mem),l.length - i=d→i≤l.length→RSl lo qN m sp l →
  W (Vp sp (.func (.func 207) #[] #[]) (.int .i64 (l.length:Int)) (.int .i64 (i:Int)) m) fun r m'=>r=.int .i64 (-1)∧Upd [] m m':=by
 intro d
 induction d with
 | zero =>
  intro i m hd hi h
  obtain rfl:i=l.length:=by omega
  rw [P232_0_eq]
  simp -implicitDefEqProofs only [st0,qb,reduceIte,Int.lt_irrefl]
  exact ⟨trivial,Upd.refl _ _⟩
 | succ d ih =>
  intro i m hd hi h
  have hlt:i<l.length:=by omega
  have e1:((i:Int)<(l.length:Int))=True:=by simp; omega
  rw [P232_0_eq]
  obtain ⟨b,off,h1,h2⟩:=h.1.at .i64 (jE hlt)
  rw [zc] at h1 h2
  have h2:=h2 m h.1
  simp -implicitDefEqProofs only [st0,qb,reduceIte,e1,h1,h2.1,JY 207 rfl,List.nil_append,List.append_nil]
  refine (qeW l[i] m (hs _ (List.getElem_mem hlt))).bind fun r m1 ⟨hr,u1⟩=>?_
  subst hr
  simp -implicitDefEqProofs only [st0,qb,reduceIte,qH (i:=i) (by omega)]
  exact (ih (i+1) m1 (by omega) hlt (h.qx u1)).mono fun r m' ⟨hr,u2⟩=>⟨hr,u1.qz u2⟩
theorem qck {lo:Nat} {l:List Nat} {si:Value} (hl:l.length≤65536) (hs:∀ k∈l,1≤k∧k≤65535):∀ (d i:Nat) (m:Mem),l.length - i=d→i≤l.length→RSl lo xd m si l →
  W (Vo si (.func (.func 211) #[] #[]) (.int .i64 (l.length:Int)) (.int .i64 (i:Int)) m) fun r m'=>r=.int .i64 (-1)∧m'=m:=by
 intro d
 induction d with
 | zero =>
  intro i m hd hi h
  obtain rfl:i=l.length:=by omega
  rw [P233_0_eq]
  simp -implicitDefEqProofs only [st0,qb,reduceIte,Int.lt_irrefl]
  exact ⟨trivial,trivial⟩
 | succ d ih =>
  intro i m hd hi h
  have hlt:i<l.length:=by omega
  have e1:((i:Int)<(l.length:Int))=True:=by simp; omega
  rw [P233_0_eq]
  obtain ⟨p,h1,_,h2⟩:=h.1.index .i64 (jE hlt)
  rw [jy] at h1
  have h2:=h2 (.int .i64 (l[i]:Int)) rfl
  simp -implicitDefEqProofs only [st0,qb,reduceIte,e1,h1,h2,JY 211 rfl,List.nil_append,List.append_nil,qhm _ m (hs _ (List.getElem_mem hlt)),qH (i:=i) (by omega)]
  exact ih (i+1) m (by omega) hlt h
theorem qfM:decide ((0:Int)≤-1)=false:=rfl
theorem qft {lo:Nat} {l:List Pr} {sp:Value} {m:Mem} (hl:l.length≤65536) (hs:∀ p∈l,p.2.length≤40) (h:RSl lo qN m sp l):W (Call S tab 210 [sp,.func (.func 207) #[] #[]] m) fun r m'=>r=.bool false∧Upd [] m m':=by
 rw [qjY,qjV]
 simp -implicitDefEqProofs only [st0,qb,reduceIte,zv h]
 refine qo.2 ((qcj hl hs _ 0 m rfl (by omega) h).mono fun r m' ⟨hr,hu⟩=>?_)
 subst hr
 simp -implicitDefEqProofs only [st0,qb,reduceIte,qfM]
 exact ⟨trivial,hu⟩
theorem qfu {lo:Nat} {l:List Nat} {si:Value} {m:Mem} (hl:l.length≤65536) (hs:∀ k∈l,1≤k∧k≤65535) (h:RSl lo xd m si l):Call S tab 212 [si,.func (.func 211) #[] #[]] m=some (.bool false,m):=by
 have:W (Call S tab 212 [si,.func (.func 211) #[] #[]] m) fun r m'=>r=.bool false∧m'=m:=by
  rw [qjX,qjU]
  simp -implicitDefEqProofs only [st0,qb,reduceIte,zv h]
  refine qo.2 ((qck hl hs _ 0 m rfl (by omega) h).mono fun r m' ⟨hr,hu⟩=>?_)
  subst hr
  simp -implicitDefEqProofs only [st0,qb,reduceIte,qfM]
  exact ⟨trivial,hu⟩
 obtain ⟨r,m',e,rfl,rfl⟩:=this
 exact e
theorem vM {n:Nd} (h:qT n=true) (hp:n.pairs.length≤65536) (hk:n.keys.length<65536):n.Fit:=by
 unfold qT at h
 cases hl:n.leaf with
 | true =>
  simp only [hl,if_true,Bool.and_eq_true,List.all_eq_true,decide_eq_true_eq,List.isEmpty_iff] at h
  obtain ⟨⟨⟨h1,h2⟩,h3⟩,h4⟩:=h
  refine ⟨hp,by omega,by simp [h2],fun p hp=>⟨?_,by have:=h4 p hp; omega⟩,fun k hk=>by simp [h1] at hk,fun k hk=>by simp [h2] at hk⟩
  obtain ⟨i,hi,rfl⟩:=List.mem_iff_getElem.1 hp
  have:=(zK h3 i (by simpa using hi)).2.1
  rw [List.getElem_map] at this
  omega
 | false =>
  simp only [hl,Bool.false_eq_true,if_false,Bool.and_eq_true,List.all_eq_true,decide_eq_true_eq,List.isEmpty_iff] at h
  obtain ⟨⟨⟨h1,h2⟩,h3⟩,h4⟩:=h
  refine ⟨hp,by omega,by omega,fun p hp=>by simp [h1] at hp,fun k hk=>?_,fun k hk=>by have:=h4 k hk; omega⟩
  obtain ⟨i,hi,rfl⟩:=List.mem_iff_getElem.1 hk
  have:=(zK h3 i hi).2.1
  omega
theorem qA {m1 m2:Mem} {b:Nat} {x:ABlk} (hu:Upd [] m1 m2) (n1:b<m1.next) (g:m1.get b=some x):m2.get b=some x:=(hu.same b n1 (by simp)).trans g
theorem XA {lo:Nat} {v:Value} {n:Nd} {m:Mem} (h:TN lo m v n) (hr:qT n=true) (hp:n.pairs.length≤65536) (hk:n.keys.length<65536):W (Call S tab 173 [v] m) fun r m'=>r=.bool true∧Upd [] m m':=by
 have hf:=vM hr hp hk
 have hn:=h
 obtain ⟨sp,sk,si,rfl,h1,h2,h3⟩:=h.ex
 rw [qkn]
 have g1:(m.add ⟨.cells [.bool n.leaf,sp,sk,si] 169,false,none⟩).get m.next=some ⟨.cells [.bool n.leaf,sp,sk,si] 169,false,none⟩:=Mem.qh ..
 have u1:Upd [] m (m.add ⟨.cells [.bool n.leaf,sp,sk,si] 169,false,none⟩):=Upd.add _ _ _
 have n1:m.next<(m.add ⟨.cells [.bool n.leaf,sp,sk,si] 169,false,none⟩).next:=by simp
 simp -implicitDefEqProofs only [st0,qb,reduceIte,fa,qR]
 generalize (m.add ⟨.cells [.bool n.leaf,sp,sk,si] 169,false,none⟩)=m1 at g1 u1 n1
 have ld:∀ {m2:Mem},m2.get m.next=some ⟨.cells [.bool n.leaf,sp,sk,si] 169,false,none⟩→∀ {o:Nat} {x:Value},[Value.bool n.leaf,sp,sk,si][o]? = some x→qc (.pointer (some ⟨m.next,o,none⟩)) m2=some x:=fun g _ _ hx=>qs g hx
 have lw:=zu g1 (show [Value.bool n.leaf,sp,sk,si].length=4 from rfl)
 simp -implicitDefEqProofs only [st0,qb,reduceIte,ld g1 (o:=0+0) rfl,ld g1 (o:=0+1) rfl,ld g1 (o:=0+2) rfl,ld g1 (o:=0+3) rfl,zv h1,zv h2,zv h3]
 unfold qT at hr
 have hn1:=hn.qx u1
 cases hl:n.leaf with
 | true =>
  simp only [hl,if_true,Bool.and_eq_true,List.all_eq_true,decide_eq_true_eq,List.isEmpty_iff] at hr
  obtain ⟨⟨⟨r1,r2⟩,r3⟩,r4⟩:=hr
  have e1:arith .add (.int .i64 (n.keys.length:Int)) (.int .i64 (n.kids.length:Int))=some (.int .i64 0):=by rw [r1,r2]; kernel_rfl
  have e2:decide ((0:Int)=0)=true:=rfl
  rw [hl] at lw hn1 ld g1
  simp -implicitDefEqProofs only [st0,qb,reduceIte,e1,e2,lw]
  refine qo.2 ((qfa hn1 hf).bind fun r m2 ⟨q1,q2⟩=>zs.2 ?_)
  have hr3:=Jz (by simpa using hf.pl) r3 q1
  simp -implicitDefEqProofs only [st0,qb,reduceIte,hr3,fa,ld (qA q2 n1 g1) (o:=0+1) rfl]
  refine qo.2 ((qft hf.pl r4 ((h1.qx u1).qx q2)).bind fun r m3 ⟨hr,q3⟩=>?_)
  subst hr
  simp -implicitDefEqProofs only [st0,qb,reduceIte]
  exact ⟨trivial,(u1.qz q2).qz q3⟩
 | false =>
  simp only [hl,Bool.false_eq_true,if_false,Bool.and_eq_true,List.all_eq_true,decide_eq_true_eq,List.isEmpty_iff] at hr
  obtain ⟨⟨⟨r1,r2⟩,r3⟩,r4⟩:=hr
  have e1:((n.pairs.length:Int)=0)=True:=by rw [r1]; simp
  have e2:(((n.keys.length+1:Nat):Int)=((n.keys.length+1:Nat):Int))=True:=by simp
  rw [hl] at lw hn1 ld g1
  have hk1:=Jz hf.kl r3 (h2.qx u1)
  have hk2:=qfu hf.il r4 (h3.qx u1)
  simp -implicitDefEqProofs only [st0,qb,reduceIte,e1,r2,qH (i:=n.keys.length) (by omega),e2,fa,ld g1 (o:=0+0) rfl,ld g1 (o:=0+1) rfl,ld g1 (o:=0+2) rfl,ld g1 (o:=0+3) rfl,zv h1,zv h2,zv h3,hk1,hk2]
  exact ⟨trivial,u1⟩
end Go.Fx.Tryz
namespace Go.Fx.Tryz
open Go Go.Fx
theorem okR {ms:List Mem} {q:Req} {v:Value} {lo hi:Nat} (h:∀ k,lo≤k→k≤hi→∃ M,ms[k]? = some M∧q.run M=some v):vY ms (q,v,lo,hi)=true:=by
 unfold vY
 simp only [List.all_eq_true,List.mem_range]
 intro k hk
 obtain ⟨M,h1,h2⟩:=h (lo+k) (by omega) (by omega)
 rw [h1]
 simp only [h2]
 exact yR v
theorem okL {ms:List Mem} {p v:Value} {lo hi:Nat} (h:∀ M∈ms,qc p M=some v) (hhi:hi<ms.length):vY ms (.load1 p,v,lo,hi)=true :=
 okR fun k _ hk=>⟨_,List.getElem?_eq_getElem (by omega),h _ (List.getElem_mem _)⟩
theorem kJ {ms:List Mem} {rq:List Rq} {o:O} {Q:Value→Mem→Prop} (h:∀ r∈rq,vY ms r=true) (hw:W o Q):W (chk ms rq o) Q:=qjC.2 ⟨List.all_eq_true.2 h,hw⟩
structure Gw (m:Mem) (v:Value) (m':Mem) (v':Value) (l:Bs):Prop where
 ap:TAp xo 5 m' v' l
 upd:Upd (qf v) m m'
 own:∀ b∈qf v',b∈qf v∨m.next≤b
theorem Gw.trans {m m1 m2:Mem} {v v1 v2:Value} {l1 l2:Bs} (h:Gw m v m1 v1 l1) (h':Gw m1 v1 m2 v2 l2):Gw m v m2 v2 l2 :=
 ⟨h'.ap,h.upd.then' h'.upd h.own,fun b hb=>(h'.own b hb).elim (fun hb=>h.own b hb) (fun hb=>.inr (Nat.le_trans h.upd.next hb))⟩
theorem Gw.ahead {m0 m m1:Mem} {v v1:Value} {l:Bs} (hu:Upd [] m0 m) (h:Gw m v m1 v1 l):Gw m0 v m1 v1 l :=
 ⟨h.ap,hu.nil'.trans h.upd,fun b hb=>(h.own b hb).elim .inl (fun hb=>.inr (Nat.le_trans hu.next hb))⟩
theorem Gw.sl {lo:Nat} {α:Type} {E:Enc α} {m m':Mem} {v v' x:Value} {l:Bs} {xs:List α} (h:Gw m v m' v' l) (hx:RSl lo E m x xs) (hd:∀ b∈qf x,b∉qf v):RSl lo E m' x xs :=
 hx.jB h.upd hd
theorem u8N (k:Nat):((UInt8.ofNat k).toNat:Int)=((k % 256:Nat):Int):=by simp
theorem yi (kk:IntKind) (k:Nat):zk .u8 (.int kk (k:Int))=some (.int .u8 ((UInt8.ofNat k).toNat:Int)):=by
 have:IntKind.u8.wrap (k:Int)=((k % 256:Nat):Int):=by
  unfold IntKind.wrap
  have hb:(2 ^ IntKind.u8.bits:Int)=256:=by decide
  have hs:IntKind.u8.signed=false:=rfl
  simp only [hb,hs,Bool.false_and,Bool.false_eq_true,if_false]
  omega
 simp only [zk,this,u8N]
theorem Vb (b:UInt8):qy [.int .u8 0] [(0,1,.int .u8 (b.toNat:Int))]=some (xo.flat [b]):=by kernel_rfl
theorem qib (k j:Nat) (hj:j≤64):arith .shr (.int .u64 (k:Int)) (.int .i64 (j:Int))=some (.int .u64 ((k / 2 ^ j:Nat):Int)):=by
 have h1:min (j:Int).toNat IntKind.u64.bits=j:=by simp only [Int.toNat_natCast]; exact Nat.min_eq_left hj
 have h2:¬ ((j:Int)<0):=by omega
 simp only [arith,if_neg h2,h1]
 congr 2
 rw [Int.fdiv_eq_ediv_of_nonneg _ (by have:(0:Int)<2 ^ j:=Int.pow_pos (by decide); omega)]
 rw [show ((2:Int) ^ j)=((2 ^ j:Nat):Int) by simp]
 rfl
theorem YW {m:Mem} {v:Value} {l:Bs} (k:Nat) (h:TAp xo 5 m v l) (hl:l.length<2 ^ 40):W (Call S tab 31 [v,.int .u64 (k:Int),.int .i64 2] m) fun r m'=>Gw m v m' r (l++xU k):=by
 have c1:Call S tab 65 [.int .i64 2] m=some (.int .i64 2,m):=by
  rw [C65]; kernel_rfl
 have e0:arith .sub (.int .i64 2) (.int .i64 1)=some (.int .i64 1):=by kernel_rfl
 have e1:arith .mul (.int .i64 8) (.int .i64 1)=some (.int .i64 ((8:Nat):Int)):=by kernel_rfl
 have e2:arith .mul (.int .i64 8) (.int .i64 0)=some (.int .i64 ((0:Nat):Int)):=by kernel_rfl
 have e3:arith .sub (.int .i64 1) (.int .i64 1)=some (.int .i64 0):=by kernel_rfl
 have e4:arith .sub (.int .i64 0) (.int .i64 1)=some (.int .i64 (-1)):=by kernel_rfl
 have d1:decide ((0:Int)≤1)=true:=rfl
 have d2:decide ((0:Int)≤0)=true:=rfl
 have d3:decide ((0:Int)≤-1)=false:=rfl
 rw [C31,c1]
 simp -implicitDefEqProofs only [st0,qb,reduceIte,e0]
 rw [P31_0_eq]
 simp -implicitDefEqProofs only [st0,qb,reduceIte,d1,e1,qib k 8 (by omega),yi,Vb]
 refine zX (E:=xo) [UInt8.ofNat (k / 2 ^ 8)] (by decide) h (by simp; omega) fun v1 m1 q1 q2 q3=>?_
 simp -implicitDefEqProofs only [st0,qb,reduceIte,e3]
 rw [P31_0_eq]
 simp -implicitDefEqProofs only [st0,qb,reduceIte,d2,e2,qib k 0 (by omega),yi,Vb]
 refine zX (E:=xo) [UInt8.ofNat (k / 2 ^ 0)] (by decide) q1 (by simp; omega) fun v2 m2 r1 r2 r3=>?_
 simp -implicitDefEqProofs only [st0,qb,reduceIte,e4]
 rw [P31_0_eq]
 simp -implicitDefEqProofs only [st0,qb,reduceIte,d3]
 have g1:Gw m v m1 v1 (l++[UInt8.ofNat (k / 2 ^ 8)]):=⟨q1,q2,q3⟩
 have g2:Gw m1 v1 m2 v2 ((l++[UInt8.ofNat (k / 2 ^ 8)])++[UInt8.ofNat (k / 2 ^ 0)]):=⟨r1,r2,r3⟩
 have:=g1.trans g2
 simpa [xU] using this
theorem wW {m:Mem} {v:Value} {l:Bs} (s:Bs) (h:TAp xo 5 m v l) (hl:l.length<2 ^ 40) (hs:s.length≤255):W (Call S tab 32 [v,str s] m) fun r m'=>Gw m v m' r (l++xa s):=by
 have e1:((255:Int)<(s.length:Int))=False:=eq_false (by omega)
 rw [C32]
 simp -implicitDefEqProofs only [st0,qb,reduceIte,zN,e1,wj (Nat.le_refl s.length),List.take_length,yi,Vb]
 refine zX (E:=xo) [UInt8.ofNat s.length] (by decide) h (by simp; omega) fun v1 m1 q1 q2 q3=>?_
 refine qaF (E:=xo) s (by decide) q1 (HJ s m1) (by simp; omega) fun v2 m2 r1 r2 r3=>?_
 refine zs.2 ?_
 have g1:Gw m v m1 v1 (l++[UInt8.ofNat s.length]):=⟨q1,q2,q3⟩
 have g2:Gw m1 v1 m2 v2 ((l++[UInt8.ofNat s.length])++s):=⟨r1,r2,r3⟩
 have:=g1.trans g2
 simpa [xa] using this
theorem qeM (k:Nat):Lib.repeatL [0] k=qp k:=by
 induction k with
 | zero=>rfl
 | succ k ih=>rw [Lib.repeatL,ih]; rfl
theorem JB (k:Nat) (hk:k≤1000000) (m:Mem):Call S tab 174 [.string ⟨#[0]⟩,.int .i64 (k:Int)] m=some (str (qp k),m):=by
 refine yO ?_
 show Qw [.string ⟨#[0]⟩,.int .i64 (k:Int)] m=_
 have h:(0:Int)≤(k:Int)∧(k:Int)≤1000000∧(⟨#[0]⟩:ByteArray).size≤1000000:=⟨by omega,by omega,by decide⟩
 simp only [Qw]
 rw [if_pos h]
 simp only [Int.toNat_natCast]
 rw [qeM]
theorem qdC {m:Mem} {v:Value} {l:Bs} (h:TAp xo 5 m v l) (hl:l.length≤256):W (Vz v m) fun r m'=>r=.tuple #[str (l++qp (256 - l.length)),.int .i64 0]∧m'=m:=by
 have hb:=Ho h.tsl
 have e1:arith .sub (.int .i64 256) (.int .i64 (l.length:Int))=some (.int .i64 ((256 - l.length:Nat):Int)):=by rw [jf (by omega) (by omega)]; congr 2; omega
 rw [P129_2_eq]
 simp -implicitDefEqProofs only [st0,qb,reduceIte,hb,h.tsl.len,e1,JB (256 - l.length) (by omega),qfr (a:=l) (b:=qp (256 - l.length)) (by simp [qp]; omega)]
 refine kJ (fun r hr=>?_) (zs.2 ⟨rfl,rfl⟩)
 simp only [List.mem_cons,List.not_mem_nil,or_false] at hr
 subst hr
 exact okR fun k _ hk=>by
  have:k=0∨k=1:=by omega
  rcases this with rfl|rfl<;>exact ⟨m,rfl,hb⟩
theorem Gw.box {m m':Mem} {v v':Value} {l:Bs} {b:Nat} {x:ABlk} (h:Gw m v m' v' l) (hg:m.get b=some x) (hb:b<m.next) (hd:b∉qf v):m'.get b=some x:=(h.upd.same b hb hd).trans hg
theorem Yu {lo:Nat} {l:List Pr} {sp:Value} (hl:l.length≤1000) (hs:∀ p∈l,p.1.length≤255∧p.2.length≤255) {m0:Mem} (hsp:∀ b∈qf sp,b<m0.next):∀ (d i:Nat) (m:Mem) (v:Value) (k:Bs),l.length - i=d→i≤l.length→RSl lo qN m sp l→TAp xo 5 m v k→(∀ b∈qf v,m0.next≤b)→Upd [] m0 m →
  k.length+((l.drop i).map xz).flatten.length≤256 →
  W (VB v sp (.int .i64 (l.length:Int)) (.int .i64 (i:Int)) m) fun r m'=>r=.tuple #[str ((k++((l.drop i).map xz).flatten)++qp (256 - (k++((l.drop i).map xz).flatten).length)),.int .i64 0]∧Upd [] m0 m':=by
 intro d
 induction d with
 | zero =>
  intro i m v k hd hi h hv hvb hu hk
  obtain rfl:i=l.length:=by omega
  rw [P129_0_eq]
  simp -implicitDefEqProofs only [st0,qb,reduceIte,Int.lt_irrefl]
  simp only [List.drop_length,List.map_nil,List.flatten_nil,List.append_nil,List.length_nil,Nat.add_zero] at hk ⊢
  exact (qdC hv hk).mono fun r m' ⟨h1,h2⟩=>⟨h1,h2 ▸ hu⟩
 | succ d ih =>
  intro i m v k hd hi h hv hvb hu hk
  have hlt:i<l.length:=by omega
  have hp:=hs _ (List.getElem_mem hlt)
  rw [drop_cons hlt,List.map_cons,List.flatten_cons,List.length_append] at hk
  have hpl:(xz l[i]).length=l[i].1.length+l[i].2.length+2:=by rw [QL]; unfold qI; omega
  have e1:((i:Int)<(l.length:Int))=True:=eq_true (by omega)
  rw [P129_0_eq]
  obtain ⟨b,off,h1,h2⟩:=h.1.at .i64 (jE hlt)
  rw [zc] at h1 h2
  have h2:=h2 m h.1
  simp -implicitDefEqProofs only [st0,qb,reduceIte,e1,h1,h2.1]
  refine jJ (c:=qN.cells l[i]) rfl rfl rfl fun m1 g1 u1 n1=>?_
  have ld:∀ {m2:Mem},m2.get m.next=some ⟨.cells (qN.cells l[i]) 81,false,none⟩→qc (.pointer (some ⟨m.next,0+0,none⟩)) m2=some (str l[i].1)∧qc (.pointer (some ⟨m.next,0+1,none⟩)) m2=some (str l[i].2):=fun g=>⟨qs g rfl,qs g rfl⟩
  simp -implicitDefEqProofs only [st0,qb,reduceIte,fa,(ld g1).1]
  refine (wW l[i].1 (hv.qx u1) (by omega) hp.1).bind fun v2 m2 w2=>?_
  have hnb:m.next∉qf v:=fun hb=>by have:=hv.lt _ hb; omega
  have g2:=w2.box g1 n1 hnb
  simp -implicitDefEqProofs only [st0,qb,reduceIte,fa,(ld g2).2]
  have hkl:(k++xa l[i].1).length=k.length+l[i].1.length+1:=by simp [xa]; omega
  refine (wW l[i].2 w2.ap (by omega) hp.2).bind fun v3 m3 w3=>?_
  have hnb2:m.next∉qf v2:=fun hb=>by
   rcases w2.own _ hb with h|h
   ·exact hnb h
   ·omega
  have g3:=w3.box g2 (Nat.lt_of_lt_of_le n1 w2.upd.next) hnb2
  refine kJ (fun r hr=>?_) ?_
  ·simp only [List.mem_cons,List.not_mem_nil,or_false] at hr
   rcases hr with rfl|rfl
   ·exact okL (fun M hM=>by simp only [List.mem_cons,List.not_mem_nil,or_false] at hM; rcases hM with rfl|rfl|rfl<;>exact (ld (by assumption)).1) (by simp)
   ·exact okL (fun M hM=>by simp only [List.mem_cons,List.not_mem_nil,or_false] at hM; rcases hM with rfl|rfl|rfl<;>exact (ld (by assumption)).2) (by simp)
  simp -implicitDefEqProofs only [st0,qb,reduceIte,qH (i:=i) (by omega)]
  have w3':=(w2.trans w3).ahead u1
  have ev:(k++xa l[i].1)++xa l[i].2=k++xz l[i]:=by simp [xz]
  have w4:Gw m v m3 v3 (k++xz l[i]):=by rw [← ev]; exact w3'
  refine (ih (i+1) m3 v3 _ (by omega) hlt (w4.sl h (fun b hb hv=>by have:=hsp b hb; have:=hvb b hv; omega)) w4.ap (fun b hb=>?_) (hu.then' w4.upd (fun b hb=>.inr (hvb b hb))) (by rw [List.length_append]; omega)).mono fun r m' ⟨hr,hu'⟩=>⟨?_,hu'⟩
  ·rcases w4.own b hb with h|h
   ·exact hvb b h
   ·exact Nat.le_trans hu.next h
  ·rw [hr,drop_cons hlt,List.map_cons,List.flatten_cons]
   simp only [List.append_assoc]
theorem Yr {ks:List Bs} {ps:List Nat} (h:ps.length=ks.length+1) {i:Nat} (hi:i<ks.length):(ks.zip ps.tail)[i]'(by rw [List.length_zip,List.length_tail]; omega)=(ks[i],ps[i+1]'(by omega)):=by
 rw [List.getElem_zip,List.getElem_tail]
theorem QW (kk:IntKind) (k:Nat) (h:k≤65536):zk .u64 (.int kk (k:Int))=some (.int .u64 (k:Int)):=Yb kk (by omega) (by omega)
theorem VJ {lo:Nat} {ks:List Bs} {ps:List Nat} {lf:Bool} {sp sk si:Value} (hl:ks.length≤1000) (hps:ps.length=ks.length+1) (hs:∀ k∈ks,k.length≤255) (hp:∀ k∈ps,k≤65536) {m0:Mem} {bn:Nat} (hbn:bn<m0.next) (hsk:∀ b∈qf sk,b<m0.next) (hsi:∀ b∈qf si,b<m0.next) :
  ∀ (d i:Nat) (m:Mem) (v:Value) (k:Bs),ks.length - i=d→i≤ks.length→RSl lo encS m sk ks→RSl lo xd m si ps→m.get bn=some ⟨.cells [.bool lf,sp,sk,si] 169,false,none⟩→TAp xo 5 m v k→(∀ b∈qf v,m0.next≤b)→Upd [] m0 m →
  k.length+(((ks.zip ps.tail).drop i).map wA).flatten.length≤256 →
  W (VA (.pointer (some ⟨bn,0,none⟩)) v sk (.int .i64 (ks.length:Int)) (.int .i64 (i:Int)) m) fun r m'=>r=.tuple #[str ((k++(((ks.zip ps.tail).drop i).map wA).flatten)++qp (256 - (k++(((ks.zip ps.tail).drop i).map wA).flatten).length)),.int .i64 0]∧Upd [] m0 m':=by
 have hzl:(ks.zip ps.tail).length=ks.length:=by rw [List.length_zip,List.length_tail]; omega
 intro d
 induction d with
 | zero =>
  intro i m v k hd hi h hki hg hv hvb hu hk
  obtain rfl:i=ks.length:=by omega
  rw [P129_1_eq]
  simp -implicitDefEqProofs only [st0,qb,reduceIte,Int.lt_irrefl]
  have e0:(ks.zip ps.tail).drop ks.length=[]:=by rw [← hzl]; exact List.drop_length
  simp only [e0,List.map_nil,List.flatten_nil,List.append_nil,List.length_nil,Nat.add_zero] at hk ⊢
  exact (qdC hv hk).mono fun r m' ⟨h1,h2⟩=>⟨h1,h2 ▸ hu⟩
 | succ d ih =>
  intro i m v k hd hi h hki hg hv hvb hu hk
  have hlt:i<ks.length:=by omega
  have hp1:=hs _ (List.getElem_mem hlt)
  have hlt2:i+1<ps.length:=by omega
  have hp2:=hp _ (List.getElem_mem hlt2)
  rw [drop_cons (by omega:i<(ks.zip ps.tail).length),Yr hps hlt,List.map_cons,List.flatten_cons,List.length_append,XL] at hk
  have e1:((i:Int)<(ks.length:Int))=True:=eq_true (by omega)
  rw [P129_1_eq]
  obtain ⟨p,h1,_,h2⟩:=h.1.index .i64 (jE hlt)
  rw [zZ] at h1
  have h2:=h2 (str ks[i]) rfl
  simp -implicitDefEqProofs only [st0,qb,reduceIte,e1,h1,h2]
  refine (wW ks[i] hv (by omega) hp1).bind fun v1 m1 w1=>?_
  have hd1:∀ b,b<m0.next→b∉qf v:=fun b hb hv=>by have:=hvb b hv; omega
  have hbm:bn<m.next:=Nat.lt_of_lt_of_le hbn hu.next
  have g1:=w1.box hg hbm (hd1 _ hbn)
  have hk1:=w1.sl hki (fun b hb=>hd1 b (hsi b hb))
  obtain ⟨b,off,q1,q2⟩:=hki.1.at .i64 (jE hlt2)
  rw [jy] at q1
  have qv:∀ {M:Mem},RSl lo xd M si ps→qc (.pointer (some ⟨b,off,none⟩)) M=some (.int .i64 ((ps[i+1]:Nat):Int)):=fun hM=>by
   have:=(q2 _ hM.1).2 0 (.int .i64 ((ps[i+1]:Nat):Int)) rfl
   rwa [Nat.add_zero] at this
  have ld:∀ {M:Mem},M.get bn=some ⟨.cells [.bool lf,sp,sk,si] 169,false,none⟩→qc (.pointer (some ⟨bn,0+3,none⟩)) M=some si:=fun g=>qs g rfl
  simp -implicitDefEqProofs only [st0,qb,reduceIte,fa,ld g1,qH (i:=i) (by omega),q1,qv hk1,QW _ _ hp2]
  have hkl:(k++xa ks[i]).length=k.length+ks[i].length+1:=by simp [xa]; omega
  refine (YW ps[i+1] w1.ap (by omega)).bind fun v2 m2 w2=>?_
  have hd2:∀ b,b<m0.next→b∉qf v1:=fun b hb hv=>by
   rcases w1.own b hv with h|h
   ·exact hd1 b hb h
   ·have:=hu.next; omega
  have g2:=w2.box g1 (Nat.lt_of_lt_of_le hbm w1.upd.next) (hd2 _ hbn)
  have hk2:=w2.sl hk1 (fun b hb=>hd2 b (hsi b hb))
  refine kJ (fun r hr=>?_) ?_
  ·simp only [List.mem_cons,List.not_mem_nil,or_false] at hr
   rcases hr with rfl|rfl
   ·exact okL (fun M hM=>by simp only [List.mem_cons,List.not_mem_nil,or_false] at hM; rcases hM with rfl|rfl|rfl<;>exact ld (by assumption)) (by simp)
   ·exact okL (fun M hM=>by simp only [List.mem_cons,List.not_mem_nil,or_false] at hM; rcases hM with rfl|rfl|rfl<;>exact qv (by assumption)) (by simp)
  simp -implicitDefEqProofs only [st0,qb,reduceIte,qH (i:=i) (by omega)]
  have w3:=w1.trans w2
  have ev:(k++xa ks[i])++xU ps[i+1]=k++wA (ks[i],ps[i+1]):=by simp [wA]
  rw [ev] at w3
  refine (ih (i+1) m2 v2 _ (by omega) hlt (w3.sl h (fun b hb=>hd1 b (hsk b hb))) hk2 g2 w3.ap (fun b hb=>?_) (hu.then' w3.upd (fun b hb=>.inr (hvb b hb))) (by rw [List.length_append,XL]; omega)).mono fun r m' ⟨hr,hu'⟩=>⟨?_,hu'⟩
  ·rcases w3.own b hb with h|h
   ·exact hvb b h
   ·exact Nat.le_trans hu.next h
  ·rw [hr,drop_cons (by omega:i<(ks.zip ps.tail).length),Yr hps hlt,List.map_cons,List.flatten_cons]
   simp only [List.append_assoc]
theorem JM {l:List Nat} (h:0<l.length):l.headD 0=l[0]:=by
 cases l with
 | nil=>simp at h
 | cons a r=>rfl
theorem TN.load {m:Mem} {n:Nd} {sp sk si:Value} {b:Nat} (g:m.get b=some ⟨.cells [.bool n.leaf,sp,sk,si] 169,false,none⟩):∀ {o:Nat} {x:Value},[Value.bool n.leaf,sp,sk,si][o]? = some x→qc (.pointer (some ⟨b,o,none⟩)) m=some x:=fun hx=>qs g hx
theorem JE {lo:Nat} {v:Value} {n:Nd} {m:Mem} (h:TN lo m v n) (hr:qT n=true) (hp:n.pairs.length≤1000) (hk:n.keys.length≤1000) :
  W (Call S tab 129 [v] m) fun r m'=>r=(if zt n≤256 then .tuple #[str (xv n),.int .i64 0] else .tuple #[str [],.int .i64 3])∧Upd [] m m':=by
 have hf:=vM hr (by omega) (by omega)
 have hn:=h
 obtain ⟨sp,sk,si,rfl,h1,h2,h3⟩:=h.ex
 rw [qkD]
 have g1:(m.add ⟨.cells [.bool n.leaf,sp,sk,si] 169,false,none⟩).get m.next=some ⟨.cells [.bool n.leaf,sp,sk,si] 169,false,none⟩:=Mem.qh ..
 have u1:Upd [] m (m.add ⟨.cells [.bool n.leaf,sp,sk,si] 169,false,none⟩):=Upd.add _ _ _
 have n1:m.next<(m.add ⟨.cells [.bool n.leaf,sp,sk,si] 169,false,none⟩).next:=by simp
 simp -implicitDefEqProofs only [st0,qb,reduceIte,fa,qR]
 generalize (m.add ⟨.cells [.bool n.leaf,sp,sk,si] 169,false,none⟩)=m1 at g1 u1 n1
 have lw:∀ {M:Mem},M.get m.next=some ⟨.cells [.bool n.leaf,sp,sk,si] 169,false,none⟩→qm 4 (.pointer (some ⟨m.next,0,none⟩)) M=some (.agg #[.bool n.leaf,sp,sk,si]):=fun g=>zu g rfl
 simp -implicitDefEqProofs only [st0,qb,reduceIte,lw g1]
 refine (XA (hn.qx u1) hr (by omega) (by omega)).bind fun r m2 ⟨hr2,u2⟩=>?_
 subst hr2
 have g2:=qA u2 n1 g1
 have n2:=Nat.lt_of_lt_of_le n1 u2.next
 simp -implicitDefEqProofs only [st0,qb,reduceIte,lw g2]
 refine (HK ((hn.qx u1).qx u2) hf).bind fun r m3 ⟨hr3,u3⟩=>?_
 subst hr3
 have g3:=qA u3 n2 g2
 have n3:=Nat.lt_of_lt_of_le n2 u3.next
 have u03:Upd [] m m3:=(u1.qz u2).qz u3
 by_cases hsz:zt n≤256
 ·have e1:((256:Int)<((zt n:Nat):Int))=False:=eq_false (by omega)
  have hbl:=QY hr
  rw [if_pos hsz]
  simp -implicitDefEqProofs only [st0,qb,reduceIte,e1,TN.load g3 (o:=0+0) rfl]
  have nil:TAp xo 5 m3 (.slice none 0 0) []:=TAp.nil _
  cases hl:n.leaf with
  | true =>
   have hs:∀ p∈n.pairs,p.1.length≤255∧p.2.length≤255:=by
    intro p hp'
    have:=hr
    simp only [qT,hl,if_true,Bool.and_eq_true,List.all_eq_true,decide_eq_true_eq] at this
    refine ⟨?_,by have:=this.2 p hp'; omega⟩
    obtain ⟨i,hi,rfl⟩:=List.mem_iff_getElem.1 hp'
    have:=(zK this.1.2 i (by simpa using hi)).2.1
    rw [List.getElem_map] at this
    omega
   simp -implicitDefEqProofs only [st0,qb,reduceIte,TN.load g3 (o:=0+1) rfl,zv h1,yi]
   have ef:qy [.int .u8 0,.int .u8 0] [(0,1,.int .u8 1),(1,1,.int .u8 ((UInt8.ofNat n.pairs.length).toNat:Int))]=some (xo.flat [1,UInt8.ofNat n.pairs.length]):=by kernel_rfl
   simp -implicitDefEqProofs only [st0,qb,reduceIte,ef]
   refine zX (E:=xo) [1,UInt8.ofNat n.pairs.length] (by decide) nil (by simp) fun v1 m4 q1 q2 q3=>?_
   have w1:Gw m3 (.slice none 0 0) m4 v1 ([]++[1,UInt8.ofNat n.pairs.length]):=⟨q1,q2,q3⟩
   rw [List.nil_append] at w1
   have u4:Upd [] m3 m4:=w1.upd.mono (fun b hb _=>by simp [qf] at hb)
   have g4:=qA u4 n3 g3
   simp -implicitDefEqProofs only [st0,qb,reduceIte,TN.load g4 (o:=0+1) rfl,zv h1]
   have hbody:kF n=[1,UInt8.ofNat n.pairs.length]++((n.pairs.drop 0).map xz).flatten:=by simp [kF,hl]
   have hbl':([1,UInt8.ofNat n.pairs.length]:Bs).length+((n.pairs.drop 0).map xz).flatten.length≤256:=by rw [← List.length_append,← hbody]; omega
   refine (Yu (m0:=m3) hp hs (fun b hb=>Nat.lt_of_lt_of_le (h1.2 b hb).2 u03.next) _ 0 m4 v1 _ rfl (by omega) ((h1.qx u03).qx u4) w1.ap (fun b hb=>(w1.own b hb).elim (fun h=>by simp [qf] at h) id) u4 hbl').mono fun r m' ⟨hr',hu'⟩=>⟨?_,u03.qz hu'⟩
   rw [hr',← hbody]; rfl
  | false =>
   have hr':=hr
   simp only [qT,hl,Bool.false_eq_true,if_false,Bool.and_eq_true,List.all_eq_true,decide_eq_true_eq] at hr'
   obtain ⟨⟨⟨r1,r2⟩,r3⟩,r4⟩:=hr'
   have hs:∀ k∈n.keys,k.length≤255:=by
    intro k hk'
    obtain ⟨i,hi,rfl⟩:=List.mem_iff_getElem.1 hk'
    have:=(zK r3 i hi).2.1
    omega
   simp -implicitDefEqProofs only [st0,qb,reduceIte,TN.load g3 (o:=0+2) rfl,zv h2,yi]
   have ef:qy [.int .u8 0,.int .u8 0] [(0,1,.int .u8 2),(1,1,.int .u8 ((UInt8.ofNat n.keys.length).toNat:Int))]=some (xo.flat [2,UInt8.ofNat n.keys.length]):=by kernel_rfl
   simp -implicitDefEqProofs only [st0,qb,reduceIte,ef]
   refine zX (E:=xo) [2,UInt8.ofNat n.keys.length] (by decide) nil (by simp) fun v1 m4 q1 q2 q3=>?_
   have w1:Gw m3 (.slice none 0 0) m4 v1 ([]++[2,UInt8.ofNat n.keys.length]):=⟨q1,q2,q3⟩
   rw [List.nil_append] at w1
   have u4:Upd [] m3 m4:=w1.upd.mono (fun b hb _=>by simp [qf] at hb)
   have g4:=qA u4 n3 g3
   have h0:0<n.kids.length:=by omega
   have hi4:RSl lo xd m4 si n.kids:=(h3.qx u03).qx u4
   obtain ⟨b,off,q1',q2'⟩:=hi4.1.at .i64 (jE h0)
   rw [jy] at q1'
   have qv:∀ {M:Mem},RSl lo xd M si n.kids→qc (.pointer (some ⟨b,off,none⟩)) M=some (.int .i64 ((n.kids[0]:Nat):Int)):=fun hM=>by
    have:=(q2' _ hM.1).2 0 (.int .i64 ((n.kids[0]:Nat):Int)) rfl
    rwa [Nat.add_zero] at this
   have q1'':qq 1 si (.int .i64 0)=some (.pointer (some ⟨b,off,none⟩)):=q1'
   have hk0:=hf.is _ (List.getElem_mem h0)
   simp -implicitDefEqProofs only [st0,qb,reduceIte,TN.load g4 (o:=0+3) rfl,q1'',qv hi4,QW _ _ hk0]
   refine (YW n.kids[0] w1.ap (by simp)).bind fun v2 m5 w2=>?_
   have hv1:∀ b∈qf v1,m3.next≤b:=fun b hb=>(w1.own b hb).elim (fun h=>by simp [qf] at h) id
   have n4:=Nat.lt_of_lt_of_le n3 u4.next
   have g5:=w2.box g4 n4 (fun hb=>by have:=hv1 _ hb; omega)
   have hi5:=w2.sl hi4 (fun b hb hv=>by have:=hv1 b hv; have:=(h3.2 b hb).2; have:=u03.next; omega)
   refine kJ (fun r hr=>?_) ?_
   ·simp only [List.mem_cons,List.not_mem_nil,or_false] at hr
    have hi3:RSl lo xd m3 si n.kids:=h3.qx u03
    rcases hr with rfl|rfl|rfl
    ·exact okR fun k _ hk=>by
      obtain rfl:k=0:=by omega
      exact ⟨m3,rfl,TN.load g3 rfl⟩
    ·exact okR fun k _ hk=>by
      have:k=0∨k=1∨k=2:=by omega
      rcases this with rfl|rfl|rfl
      ·exact ⟨m3,rfl,TN.load g3 rfl⟩
      ·exact ⟨_,rfl,TN.load (by rw [Mem.zC _ _ n3]; exact g3) rfl⟩
      ·exact ⟨m4,rfl,TN.load g4 rfl⟩
    ·exact okR fun k _ hk=>by
      have:k=0∨k=1∨k=2:=by omega
      rcases this with rfl|rfl|rfl
      ·exact ⟨m3,rfl,qv hi3⟩
      ·exact ⟨_,rfl,qv (hi3.qx (Upd.add _ _ _))⟩
      ·exact ⟨m4,rfl,qv hi4⟩
   simp -implicitDefEqProofs only [st0,qb,reduceIte,fa,TN.load g5 (o:=0+2) rfl,zv h2]
   have hhd:n.kids.headD 0=n.kids[0]:=JM h0
   have hbody:kF n=([2,UInt8.ofNat n.keys.length]++xU n.kids[0])++(((n.keys.zip n.kids.tail).drop 0).map wA).flatten:=by simp [kF,hl,← hhd]
   have hbl':([2,UInt8.ofNat n.keys.length]++xU n.kids[0]:Bs).length+(((n.keys.zip n.kids.tail).drop 0).map wA).flatten.length≤256:=by rw [← List.length_append,← hbody]; omega
   rw [hl] at g5
   have u5:Upd [] m3 m5:=u4.then' w2.upd (fun b hb=>.inr (hv1 b hb))
   refine (VJ (m0:=m3) (bn:=m.next) hk r2 hs hf.is n3 (fun b hb=>Nat.lt_of_lt_of_le (h2.2 b hb).2 u03.next) (fun b hb=>Nat.lt_of_lt_of_le (h3.2 b hb).2 u03.next) _ 0 m5 v2 _ rfl (by omega) (w2.sl ((h2.qx u03).qx u4) (fun b hb hv=>by have:=hv1 b hv; have:=(h2.2 b hb).2; have:=u03.next; omega)) hi5 g5 w2.ap (fun b hb=>(w2.own b hb).elim (hv1 b) (fun h=>Nat.le_trans u4.next h)) u5 hbl').mono fun r m' ⟨hr',hu'⟩=>⟨?_,u03.qz hu'⟩
   rw [hr',← hbody]; rfl
 ·have e1:((256:Int)<((zt n:Nat):Int))=True:=eq_true (by omega)
  rw [if_neg hsz]
  simp -implicitDefEqProofs only [st0,qb,reduceIte,e1]
  exact ⟨trivial,u03⟩
end Go.Fx.Tryz
