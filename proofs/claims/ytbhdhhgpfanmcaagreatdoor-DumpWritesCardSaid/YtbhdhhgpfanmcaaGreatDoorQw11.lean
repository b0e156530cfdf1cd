/- Parts of a proof: FxW, FxStr, FxSt, HookE, ShelfR, HookRa, Keys, FxKeys, HookKs, HookD. Conditions: none. -/
import Derived.Shelf.Strings.Repeat
import Derived.Shelf.Strings.Trim
import Derived.Shelf.Strings.OnBuilder
import Derived.KernelRfl
import Derived.Test.YtbhdhhgpfanmcaaGreatDoorProg
import Derived.Shelf.SlIter.Sorted
import Derived.Shelf.SortM.Plain
import Derived.Shelf.SortM.SortNone
import Derived.Sort.KeysCollected
import Derived.Lib.SlKeysI
import Derived.Test.YtbhdhhgpfanmcaaGreatDoorChecked
import Derived.Test.YtbhdhhgpfanmcaaGreatDoorQw10
set_option linter.unusedSimpArgs false
set_option linter.unusedVariables false
namespace Go.Fx
open Go
def W (o:O) (Q:Value->Mem->Prop):Prop:=∃ v m,o=some (v,m)/\Q v m
theorem zv {v:Value} {m:Mem} {Q:Value->Mem->Prop}:W (some (v,m)) Q↔Q v m :=
 ⟨λ⟨_,_,h,hq⟩=>by cases h; exact hq,λh=>⟨v,m,rfl,h⟩⟩
theorem qh {o:O} {k:Value × Mem->O} {Q:Value->Mem->Prop}:W (o.bind k) Q↔W o λv m=>W (k (v,m)) Q:=by
 cases o with
 | none=>exact ⟨λ⟨_,_,h,_⟩=>(by cases h),λ⟨_,_,h,_⟩=>(by cases h)⟩
 | some p=>exact ⟨λh=>⟨p.1,p.2,rfl,h⟩,λ⟨_,_,h,hq⟩=>(by cases h; exact hq)⟩
theorem qlB {m:Mem} {x:ABlk} {k:Value->Mem->O} {Q:Value->Mem->Prop}:W (nw m x k) Q↔W (k (.pointer (some ⟨m.next,0,none⟩)) (m.add x)) Q:=Iff.rfl
theorem qlg {m:Mem} {x:ABlk} {n:Nat} {k:Value->Mem->O} {Q:Value->Mem->Prop}:W (nws m x n k) Q↔W (k (.slice (some ⟨m.next,0,none⟩) n n) (m.add x)) Q:=Iff.rfl
theorem qks {b:Nat} {m:Mem} {x:ABlk} {n:Option Nat} {k:Value->Mem->O} {Q:Value->Mem->Prop}:W (QN b m x n k) Q↔W (k (ke b n) (m.put b x)) Q:=Iff.rfl
theorem W.mono {o:O} {Q R:Value->Mem->Prop} (h:W o Q) (hr:∀ v m,Q v m->R v m):W o R:=let ⟨v,m,e,q⟩:=h; ⟨v,m,e,hr v m q⟩
theorem W.bind {o:O} {k:Value × Mem->O} {Q R:Value->Mem->Prop} (h:W o Q) (hr:∀ v m,Q v m->W (k (v,m)) R):W (o.bind k) R:=qh.2 (h.mono hr)
theorem W.Zp {α:Type} {o:Option α} {a:α} {k:α->O} {R:Value->Mem->Prop} (h:o=some a) (hr:W (k a) R):W (o.bind k) R:=by subst h; exact hr
theorem W.of_eq {o o':O} {Q:Value->Mem->Prop} (h:o=o') (hw:W o' Q):W o Q:=h ▸ hw
theorem qgx (a b:O):cnd (.bool true) a b=a:=rfl
theorem qdZ (a b:O):cnd (.bool false) a b=b:=rfl
theorem qjD (o:O) (m:Mem):gdo (.bool true) true o m=o:=rfl
theorem qjG (o:O) (m:Mem):gdo (.bool false) false o m=o:=rfl
theorem qjE (o:O) (m:Mem):gdo (.bool true) false o m=some (undef,m):=rfl
theorem qjF (o:O) (m:Mem):gdo (.bool false) true o m=some (undef,m):=rfl
theorem qkV (w:Bool) (o:O) (m:Mem):gdo undef w o m=some (undef,m):=by cases w<;>rfl
theorem qlh {ms:List Mem} {rq:List Rq} {o:O} {Q:Value->Mem->Prop}:W (chk ms rq o) Q↔rq.all (wU ms)=true/\W o Q:=by
 unfold chk;split
 ·rename_i h; simp [h]
 ·rename_i h; exact ⟨λ⟨_,_,h,_⟩=>(by cases h),λ⟨h',_⟩=>absurd h' h⟩
theorem qkj (k:IntKind) (a b:Int):arith .lss (.int k a) (.int k b)=some (.bool (decide (a<b))):=by cases k<;>rfl
theorem qkk (k:IntKind) (a b:Int):arith .leq (.int k a) (.int k b)=some (.bool (decide (a<=b))):=by cases k<;>rfl
theorem qkl (k:IntKind) (a b:Int):arith .gtr (.int k a) (.int k b)=some (.bool (decide (b<a))):=by cases k<;>rfl
theorem qkm (k:IntKind) (a b:Int):arith .geq (.int k a) (.int k b)=some (.bool (decide (b<=a))):=by cases k<;>rfl
theorem ar_eql (k:IntKind) (a b:Int):arith .eql (.int k a) (.int k b)=some (.bool (decide (a=b))):=by cases k<;>simp [arith,iop]<;>rfl
theorem qki (k:IntKind) (a b:Int):arith .neq (.int k a) (.int k b)=some (.bool (decide (¬ a=b))):=by
 cases k<;>simp only [arith,iop,if_true]<;>(congr 2; by_cases h:a=b<;>simp [h])
theorem qgF (k:IntKind) (a b:Int):arith .add (.int k a) (.int k b)=some (.int k (k.wrap (a+b))):=by cases k<;>rfl
theorem qkh (k:IntKind) (a b:Int):arith .sub (.int k a) (.int k b)=some (.int k (k.wrap (a - b))):=by cases k<;>rfl
theorem qgE (k:IntKind) (a b:Int):arith .mul (.int k a) (.int k b)=some (.int k (k.wrap (a * b))):=by cases k<;>rfl
theorem wrap64 {a:Int} (h0:-(2 ^ 63)<=a) (h1:a<2 ^ 63):IntKind.i64.wrap a=a:=qhf h0 (by omega)
theorem qiv {k:IntKind} {a:Int} (hs:k.signed=false) (h0:0<=a) (h1:a<2 ^ k.bits):k.wrap a=a:=by
 simp only [IntKind.wrap,hs,Bool.false_and,Bool.false_eq_true,if_false];exact Int.emod_eq_of_lt h0 h1
theorem XD {a:Int} (h0:0<=a) (h1:a<2 ^ 64):IntKind.u64.wrap a=a:=qiv rfl h0 h1
theorem qjj {a:Int} (h0:0<=a) (h1:a<2 ^ 8):IntKind.u8.wrap a=a:=qiv rfl h0 h1
theorem qcq {a b:Int} (h0:-(2 ^ 63)<=a+b) (h1:a+b<2 ^ 63):arith .add (.int .i64 a) (.int .i64 b)=some (.int .i64 (a+b)):=by rw [qgF,wrap64 h0 h1]
theorem xh {a b:Int} (h0:-(2 ^ 63)<=a - b) (h1:a - b<2 ^ 63):arith .sub (.int .i64 a) (.int .i64 b)=some (.int .i64 (a - b)):=by rw [qkh,wrap64 h0 h1]
theorem qB {i:Nat} (h:i<2 ^ 62):arith .add (.int .i64 (i:Int)) (.int .i64 1)=some (.int .i64 ((i+1:Nat):Int)):=by rw [qcq (by omega) (by omega)]; simp
theorem qfw {i j:Nat} (h:i+j<2 ^ 62):arith .add (.int .i64 (i:Int)) (.int .i64 (j:Int))=some (.int .i64 ((i+j:Nat):Int)):=by rw [qcq (by omega) (by omega)]; simp
theorem HN {a:Int} (k:IntKind) (h0:0<=a) (h1:a<2 ^ 64):zn .u64 (.int k a)=some (.int .u64 a):=by simp only [zn,XD h0 h1]
theorem Zo {a:Int} (k:IntKind) (h0:-(2 ^ 63)<=a) (h1:a<2 ^ 63):zn .i64 (.int k a)=some (.int .i64 a):=by simp only [zn,wrap64 h0 h1]
theorem qjl (b:Bool):zy .not (.bool b)=some (.bool !b):=rfl
theorem qhl (p:Prop) [Decidable p]:zy .not (.bool (decide p))=some (.bool (decide (¬ p))):=by by_cases h:p<;>simp [h,zy]
theorem qld (b:Bool):asB (.bool b)=some b:=rfl
theorem qkL (k:IntKind) (a b:Int):jz max2 (.int k a) [.int k b]=some (.int k (if b > a then b else a)):=rfl
theorem qkK (k:IntKind) (a b:Int):jz min2 (.int k a) [.int k b]=some (.int k (if b<a then b else a)):=rfl
theorem Upd.qeg {fp:List Nat} {m m':Mem} (h:Upd fp m m') (x:ABlk):Upd fp m (m'.add x):=h.trans (Upd.add _ _ _)
theorem Upd.ki {fp:List Nat} {m m':Mem} (h:Upd fp m m') {b:Nat} (x:ABlk) (hb:b∈fp∨m.next<=b):Upd fp m (m'.put b x) :=
 ⟨h.next,λc hc hn=>by rw [Mem.zi,if_neg (by rintro rfl; exact hb.elim hn (λh=>by omega))]; exact h.same c hc hn⟩
theorem Upd.then' {fp gp:List Nat} {m m' m'':Mem} (h:Upd fp m m') (h':Upd gp m' m'') (hs:∀ b∈gp,b∈fp∨m.next<=b):Upd fp m m'':=h.Zx h' hs
theorem Upd.nil' {fp:List Nat} {m m':Mem} (h:Upd [] m m'):Upd fp m m':=h.mono (λb hb=>by simp at hb)
theorem Upd.qu {fp:List Nat} {m m' m'':Mem} (h:Upd fp m m') (h':Upd [] m' m''):Upd fp m m'':=h.Zx h' (λb hb=>by simp at hb)
def TAp {α:Type} (E:Enc α) (e:TypeId) (m:Mem) (v:Value) (l:List α):Prop :=
 (v=.slice none 0 0/\l=[])∨∃ b cap rest lo,v=.slice (some ⟨b,0,none⟩) l.length cap/\b<m.next/\m.get b=some ⟨.cells (E.flat l++rest) e,false,lo⟩/\(lo=none∨lo=some E.size)/\rest.length=(cap - l.length) * E.size/\l.length<=cap
section
variable {α:Type} {E:Enc α} {e:TypeId}
theorem TAp.nil (m:Mem):TAp E e m (.slice none 0 0) []:=.inl ⟨rfl,rfl⟩
theorem TAp.tsl {m:Mem} {v:Value} {l:List α} (h:TAp E e m v l):TSl E m v l:=by
 rcases h with ⟨rfl,rfl⟩|⟨b,cap,rest,lo,rfl,hb,hg,hlo,hr,hc⟩
 ·exact TSl.nil m
 ·exact ⟨E.zd l,.inr ⟨b,0,cap,rfl,hc,.inr ⟨_,zS hg,by rw [laI,E.zd]; omega,by rw [List.drop_zero,<- E.zd,List.take_left']; rfl⟩⟩⟩
theorem TAp.lt {m:Mem} {v:Value} {l:List α} (h:TAp E e m v l):∀ b∈qc v,b<m.next:=by
 rcases h with ⟨rfl,rfl⟩|⟨b,cap,rest,lo,rfl,hb,_⟩
 ·intro c hc; simp [qc] at hc
 ·intro c hc; simp [qc] at hc; subst hc; exact hb
theorem TAp.upd {fp:List Nat} {m m':Mem} {v:Value} {l:List α} (h:TAp E e m v l) (hu:Upd fp m m') (hk:∀ b∈qc v,b∉fp):TAp E e m' v l:=by
 rcases h with h|⟨b,cap,rest,lo,rfl,hb,hg,hlo,hr,hc⟩
 ·exact .inl h
 ·exact .inr ⟨b,cap,rest,lo,rfl,Nat.lt_of_lt_of_le hb hu.next,by rw [hu.same b hb (hk b (by simp [qc]))]; exact hg,hlo,hr,hc⟩
theorem TAp.qn {m m':Mem} {v:Value} {l:List α} (h:TAp E e m v l) (hu:Upd [] m m'):TAp E e m' v l:=h.upd hu (λb _ hb=>by simp at hb)
theorem TAp.one {m:Mem} {v:Value} {l:List α} (h:TAp E e m v l):v.cells=#[v]/\v.oneCell'=true:=by
 rcases h with ⟨rfl,rfl⟩|⟨b,cap,rest,lo,rfl,_⟩<;>exact ⟨rfl,rfl⟩
theorem TAp.fresh (m:Mem) (l:List α):TAp E e (m.add ⟨.cells (E.flat l) e,false,none⟩) (.slice (some ⟨m.next,0,none⟩) l.length l.length) l :=
 .inr ⟨m.next,l.length,[],none,rfl,by simp,by rw [Mem.qf]; simp,.inl rfl,by simp,Nat.le_refl _⟩
theorem TAp.append {m:Mem} {v:Value} {l k:List α} {eb:Nat} (hs:0<E.size) (h:TAp E e m v l) (hb:(l.length+k.length) * eb<=2 ^ 47) (hn:l.length+k.length<=2 ^ 47) :
  ∃ v' m',qA e E.size eb v k.length (E.flat k) m=some (v',m')/\TAp E e m' v' (l++k)/\Upd (qc v) m m'/\∀ b∈qc v',b∈qc v∨m.next<=b:=by
 have hE:=E.zd k;have hA:=E.wu k;rcases h with ⟨rfl,rfl⟩|⟨b,cap,rest,lo,rfl,hbl,hg,hlo,hr,hc⟩
 ·have hc0:¬ ¬ ((0+k.length) * eb<=2 ^ 47/\(0+k.length)<=2 ^ 47/\(E.flat k).length=k.length * E.size/\(E.flat k).all (·.oneCell')=true):=by
   simp only [List.length_nil] at hb hn;simp only [Decidable.not_not]; exact ⟨hb,hn,hE,hA⟩
  by_cases hk0:k=[]
  ·subst hk0;exact ⟨.slice none 0 0,m,by simp only [qA,if_neg hc0]; rfl,TAp.nil m,Upd.refl _ _,λb hb=>by simp [qc] at hb⟩
  ·have hk1:k.length≠0:=by simpa using hk0
   refine ⟨.slice (some ⟨m.next,0,none⟩) k.length k.length,m.add ⟨.cells (E.flat k) e,false,some E.size⟩,?_,.inr ⟨m.next,k.length,[],some E.size,by simp,by simp,by rw [Mem.qf]; simp,.inr rfl,by simp,by simp⟩,Upd.add _ _ _,λb hb=>by simp [qc] at hb; exact .inr (by omega)⟩;have hk':¬ (0+k.length<=0):=by omega
   simp only [qA,if_neg hc0,if_neg hk',and_self,if_true]
 ·have hc0:¬ ¬ ((l.length+k.length) * eb<=2 ^ 47/\(l.length+k.length)<=2 ^ 47/\(E.flat k).length=k.length * E.size/\(E.flat k).all (·.oneCell')=true):=by
   simp only [Decidable.not_not]; exact ⟨hb,hn,hE,hA⟩
  by_cases hfit:l.length+k.length<=cap
  ·by_cases hz:k.length * E.size=0
   ·have:k=[]:=by
     rcases Nat.mul_eq_zero.1 hz with h|h
     ·simpa using h
     ·omega
    subst this;refine ⟨.slice (some ⟨b,0,none⟩) (l.length+0) cap,m,?_,.inr ⟨b,cap,rest,lo,by simp,hbl,by simpa using hg,hlo,by simpa using hr,by simpa using hc⟩,Upd.refl _ _,λc hc=>.inl hc⟩;simp only [List.length_nil] at hc0 hfit hz;simp only [qA,List.length_nil,if_neg hc0,if_pos hfit,if_pos hz]
   ·have hle:k.length * E.size<=(cap - l.length) * E.size:=Nat.mul_le_mul_right _ (by omega);have hlen:0+(l.length+k.length) * E.size<=(E.flat l++rest).length:=by rw [laI,E.zd,hr,Nat.add_mul]; omega
    have hset:qQ (E.flat l++rest) (0+l.length * E.size) (E.flat k)=E.flat (l++k)++rest.drop (k.length * E.size):=by
     have:=xj (E.flat l) (rest.take (k.length * E.size)) (rest.drop (k.length * E.size)) (E.flat k) (by rw [ltI,hE,hr]; omega);rw [List.take_append_drop,E.zd] at this;rw [Nat.zero_add,this,E.xr,aaI]
    refine ⟨.slice (some ⟨b,0,none⟩) (l.length+k.length) cap,m.put b ⟨.cells (E.flat (l++k)++rest.drop (k.length * E.size)) e,false,lo⟩,?_,.inr ⟨b,cap,rest.drop (k.length * E.size),lo,by simp,hbl,by rw [Mem.qe],hlo,?_,by simp; omega⟩,Upd.put _ _ (by simp [qc]),λc hc=>.inl hc⟩
    ·have how:m.jF b=some (E.flat l++rest,e,lo):=by simp [Mem.jF,hg]
     have hcap:cap≠0:=by
      rintro rfl
      have:k.length=0:=by omega
      rw [this] at hz; simp at hz
     simp only [qA,if_neg hc0,if_pos hfit,if_neg hz,how,bmI];rw [if_pos ⟨hlen,hcap⟩,hset]
    ·rw [ldI,hr,laI,<- Nat.sub_sub,Nat.sub_mul (cap - l.length)]
  ·have hle:0+l.length * E.size<=(E.flat l++rest).length:=by rw [laI,E.zd]; omega
   have hpre:((E.flat l++rest).drop 0).take (l.length * E.size)=E.flat l:=by rw [List.drop_zero,<- E.zd,List.take_left']; rfl
   rcases hlo with rfl|rfl
   ·refine ⟨.slice (some ⟨m.next,0,none⟩) (l.length+k.length) (l.length+k.length),m.add ⟨.cells (E.flat (l++k)) e,false,some E.size⟩,?_,.inr ⟨m.next,l.length+k.length,[],some E.size,by simp,by simp,by rw [Mem.qf]; simp,.inr rfl,by simp,by simp⟩,Upd.add _ _ _,λc hc=>by simp [qc] at hc; exact .inr (by omega)⟩;simp only [qA,if_neg hc0,if_neg hfit,hg,hpre,hle,if_true,E.xr]
   ·refine ⟨.slice (some ⟨m.next,0,none⟩) (l.length+k.length) (l.length+k.length),(m.kill b).add ⟨.cells (E.flat (l++k)) e,false,some E.size⟩,?_,.inr ⟨m.next,l.length+k.length,[],some E.size,by simp,by simp,by rw [Mem.zw,Mem.xY,if_pos rfl]; simp,.inr rfl,by simp,by simp⟩,(Upd.kill (fp:=[b]) m (by simp)).trans (Upd.add _ _ _),λc hc=>by simp [qc] at hc; exact .inr (by omega)⟩;simp only [qA,if_neg hc0,if_neg hfit,hg,hpre,hle,hc,and_self,if_true,E.xr]
end
theorem TAp.from {α:Type} {E:Enc α} {e:TypeId} {m:Mem} {v:Value} {l:List α} (h:TAp E e m v l) {k:Nat} (hk:k<=l.length) :
  ∃ v',(∀ m',(∀ b∈qc v,m'.get b=m.get b)->qx E.size v (some (.int .i64 (k:Int))) none m'=some v')/\TSl E m v' (l.drop k)/\qc v'=qc v:=by
 rcases h with ⟨rfl,rfl⟩|⟨b,cap,rest,lo,rfl,hb,hg,hlo,hr,hc⟩
 ·obtain rfl:k=0:=by simpa using hk
  exact ⟨.slice none 0 0,λm' _=>by simp [qx,zz,xB],TSl.nil m,rfl⟩
 ·have hkn:m.known b=.exact∨m.known b=.loose E.size:=by
   rcases hlo with rfl|rfl
   ·left; simp [Mem.known,hg]
   ·right; simp [Mem.known,hg]
  refine ⟨.slice (some ⟨b,if cap=k then 0 else 0+k * E.size,none⟩) (l.length - k) (cap - k),λm' hm'=>?_,⟨E.zd _,.inr ⟨b,_,cap - k,by rw [ldI],by rw [ldI]; omega,?_⟩⟩,by simp [qc]⟩
  ·have hbd:zz l.length cap (some (.int .i64 (k:Int))) none=some (k,l.length):=by
    have:(0:Int)<=(k:Int)/\(k:Int)<=(l.length:Int):=by omega
    simp only [zz,xB,bmI,if_pos this,Option.map_some];simp
   have hkn':m'.known b=m.known b:=by simp only [Mem.known]; rw [hm' b (by simp [qc])]
   simp only [qx,hbd,bmI,hkn'];rw [if_pos (.inr hkn)]
  ·by_cases h0:l.length - k=0
   ·left; rw [ldI]; exact h0
   ·right;have hck:¬ cap=k:=by omega
    rw [if_neg hck];refine ⟨_,zS hg,?_,?_⟩
    ·rw [laI,E.zd,ldI,Nat.zero_add,<- Nat.add_mul];have:(k+(l.length - k))=l.length:=by omega
     rw [this]; omega
    ·rw [Nat.zero_add,ldI,List.drop_append,E.wq,E.zd,Nat.sub_eq_zero_of_le (Nat.mul_le_mul_right _ hk),List.drop_zero];have:(l.length - k) * E.size=(E.flat (l.drop k)).length:=by rw [E.zd,ldI]
     rw [this,List.take_left'];rfl
theorem TSl.qbK {α:Type} {E:Enc α} {m:Mem} {v:Value} {l:List α} (h:TSl E m v l) {k:Nat} (hk:k<=l.length) :
  ∃ v',(∀ m',qx E.size v none (some (.int .i64 (k:Int))) m'=some v')/\TSl E m v' (l.take k)/\qc v'=qc v:=by
 obtain ⟨v',h1,h2,h3⟩:=h.YG hk;refine ⟨v',λm'=>?_,h2,h3⟩;rw [<- h1];obtain ⟨_,⟨rfl,_⟩|⟨b,off,cap,rfl,hc,_⟩⟩:=h
 ·rfl
 ·have:(0:Int)<=(k:Int)/\(k:Int)<=(cap:Int):=by omega
  simp only [qx,zz,xB,bmI,if_pos this,Option.map_some,true_or,if_true]
end Go.Fx
namespace Go.Fx
open Go
abbrev str (l:List UInt8):Value:=.string ⟨l.toArray⟩
theorem str_eta (s:ByteArray):Value.string s=str s.data.toList:=by
 cases s with
 | mk d=>simp [str]
def xx:Enc UInt8:=⟨1,λb=>[.int .u8 b.toNat],λ_=>rfl,λ_=>rfl⟩
theorem ZU:xx.size=1:=rfl
def encS:Enc (List UInt8):=⟨1,λl=>[str l],λ_=>rfl,λ_=>rfl⟩
theorem qZ (l:List UInt8):qR (str l)=some (.int .i64 l.length):=by simp [qR,str,ByteArray.size]
theorem qbR (l:List UInt8) (m:Mem):qM 1 (str l) m=some (l.length,xx.flat l):=by
 simp only [qM,str,ByteArray.size,List.size_toArray];congr 2;simp only [Enc.flat,xx]
 induction l with
 | nil=>rfl
 | cons a l ih=>simp at ih ⊢; exact ih
theorem yN {l:List UInt8} {i:Nat} {b:UInt8} (h:l[i]? = some b):zm (str l) (.int .i64 (i:Int))=some (.int .u8 b.toNat):=by
 have hs:(⟨l.toArray⟩:ByteArray)[i]? = some b:=by
  have hi:i<l.length:=by
   rcases Nat.lt_or_ge i l.length with h'|h'
   ·exact h'
   ·rw [List.getElem?_eq_none h'] at h; cases h
  rw [getElem?_pos (⟨l.toArray⟩:ByteArray) i (by simpa [ByteArray.size] using hi)];rw [List.getElem?_eq_getElem hi] at h;simpa [ByteArray.getElem_eq_getElem_data] using h
 simp only [zm,str];rw [if_pos (by omega),Int.toNat_natCast,hs];rfl
theorem yb {l:List UInt8} {a:Nat} (ha:a<=l.length) (ka:IntKind):zH (str l) (some (.int ka (a:Int))) none=some (str (l.drop a)):=by
 have h2:(0:Int)<=(a:Int)/\(a:Int)<=((⟨l.toArray⟩:ByteArray).size:Int):=by simp [ByteArray.size]; omega
 simp only [zH,zz,xB,bmI,Int.toNat_natCast,if_pos h2,Option.map_some];congr 1;simp only [str,ByteArray.size,List.size_toArray];rw [List.take_of_length_le (by simp)]
theorem vy {l:List UInt8} {b:Nat} (hb:b<=l.length) (kb:IntKind):zH (str l) none (some (.int kb (b:Int)))=some (str (l.take b)):=by
 have h1:(0:Int)<=(b:Int)/\(b:Int)<=((⟨l.toArray⟩:ByteArray).size:Int):=by simp [ByteArray.size]; omega
 simp only [zH,zz,xB,if_pos h1,bmI,Int.toNat_natCast,Option.map_some];simp [str]
theorem yV {a b:List UInt8} (h:a.length+b.length<2 ^ 62):arith .add (str a) (str b)=some (str (a++b)):=by
 have hs:¬ ((((⟨a.toArray⟩:ByteArray).size+(⟨b.toArray⟩:ByteArray).size:Nat):Int) > IntKind.i64.max):=by
  have:IntKind.i64.max=9223372036854775807:=rfl;simp only [ByteArray.size,List.size_toArray,this];omega
 show sop .add _ _=_;simp only [sop,if_neg hs];congr 2
theorem jJ (a b:List UInt8):arith .eql (str a) (str b)=some (.bool (decide (a=b))):=by
 show sop .eql _ _=_;simp only [sop];congr 2;by_cases h:a=b<;>simp [h]
theorem QS (a b:List UInt8):arith .neq (str a) (str b)=some (.bool (decide (¬ a=b))):=by
 show sop .neq _ _=_;simp only [sop];congr 2;by_cases h:a=b<;>simp [h]
theorem Jj:∀ l:List UInt8,strOf (xx.flat l)=some l
 | []=>rfl
 | b::l=>by
  rw [xx.jw];show strOf (.int .u8 b.toNat::xx.flat l)=_;simp only [strOf,Jj l,Option.map_some];congr 2;simp
theorem Kn {m:Mem} {v:Value} {l:List UInt8} (h:TSl xx m v l):xZ v m=some (str l):=by
 obtain ⟨_,⟨rfl,h0⟩|⟨b,off,cap,rfl,hc,h3⟩⟩:=h
 ·have:l=[]:=by simpa using h0
  subst this; rfl
 ·rcases h3 with h3|⟨c,h4,h5,h6⟩
  ·have:l=[]:=by simpa using h3
   subst this; simp [xZ]; rfl
  ·by_cases h0:l.length=0
   ·have:l=[]:=by simpa using h0
    subst this; simp [xZ]; rfl
   ·have h7:(c.drop off).take l.length=xx.flat l:=by rw [h6,ZU,Nat.mul_one]
    have h8:off+l.length<=c.length:=by rw [ZU,Nat.mul_one] at h5; exact h5
    simp only [xZ,if_neg h0,h4,bmI,if_pos h8,h7,Jj,Option.map_some]
theorem zZ {α:Type} {E:Enc α} {e e':TypeId} {m:Mem} {v:Value} {l:List α} {eb:Nat} (k:List α) (hs:0<E.size) (h:TAp E e m v l) (hn:(l.length+k.length) * (eb+1)<=2 ^ 47) {K:Value × Mem->O} {Q:Value->Mem->Prop}
  (hK:∀ v' m',TAp E e m' v' (l++k)->Upd (qc v) m m'->(∀ b∈qc v',b∈qc v∨m.next<=b)->W (K (v',m')) Q) :
  W ((qM E.size (.slice (some ⟨m.next,0,none⟩) k.length k.length) (m.add ⟨.cells (E.flat k) e',false,none⟩)).bind λp=>(qA e E.size eb v p.1 p.2 (m.add ⟨.cells (E.flat k) e',false,none⟩)).bind K) Q:=by
 have hsrc:qM E.size (.slice (some ⟨m.next,0,none⟩) k.length k.length) (m.add ⟨.cells (E.flat k) e',false,none⟩)=some (k.length,E.flat k):=(TAp.fresh (E:=E) (e:=e') m k).tsl.src;rw [hsrc];have h1:(l.length+k.length) * eb<=(l.length+k.length) * (eb+1):=Nat.mul_le_mul_left _ (by omega);have h2:l.length+k.length<=(l.length+k.length) * (eb+1):=Nat.le_mul_of_pos_right _ (by omega);obtain ⟨v',m',h1,h2,h3,h4⟩:=(h.qn (Upd.add [] m ⟨.cells (E.flat k) e',false,none⟩)).append (k:=k) (eb:=eb) hs (by omega) (by omega);refine W.Zp rfl (W.Zp h1 (hK v' m' h2 (((Upd.add [] m _).nil').trans h3) λb hb=>?_));rcases h4 b hb with h|h
 ·exact .inl h
 ·exact .inr (by simp at h; omega)
theorem jy {α:Type} {E:Enc α} {e:TypeId} {m:Mem} {v x:Value} {l:List α} {eb:Nat} (k:List α) (hs:0<E.size) (h:TAp E e m v l) (hx:qM E.size x m=some (k.length,E.flat k)) (hn:(l.length+k.length) * (eb+1)<=2 ^ 47) {K:Value × Mem->O} {Q:Value->Mem->Prop}
  (hK:∀ v' m',TAp E e m' v' (l++k)->Upd (qc v) m m'->(∀ b∈qc v',b∈qc v∨m.next<=b)->W (K (v',m')) Q) :
  W ((qM E.size x m).bind λp=>(qA e E.size eb v p.1 p.2 m).bind K) Q:=by
 rw [hx];have h1:(l.length+k.length) * eb<=(l.length+k.length) * (eb+1):=Nat.mul_le_mul_left _ (by omega);have h2:l.length+k.length<=(l.length+k.length) * (eb+1):=Nat.le_mul_of_pos_right _ (by omega);obtain ⟨v',m',h1,h2,h3,h4⟩:=h.append (k:=k) (eb:=eb) hs (by omega) (by omega);exact W.Zp rfl (W.Zp h1 (hK v' m' h2 h3 h4))
end Go.Fx
namespace Go.Fx
open Go
theorem st0:(∀ {α β:Type} (a:α) (f:α->Option β),(some a).bind f=f a) /\
  (∀ {v:Value} {m:Mem} {Q:Value->Mem->Prop},W (some (v,m)) Q↔Q v m) /\
  (∀ {m:Mem} {x:ABlk} {k:Value->Mem->O} {Q:Value->Mem->Prop},W (nw m x k) Q↔W (k (.pointer (some ⟨m.next,0,none⟩)) (m.add x)) Q) /\
  (∀ {m:Mem} {x:ABlk} {n:Nat} {k:Value->Mem->O} {Q:Value->Mem->Prop},W (nws m x n k) Q↔W (k (.slice (some ⟨m.next,0,none⟩) n n) (m.add x)) Q) /\
  (∀ {b:Nat} {m:Mem} {x:ABlk} {n:Option Nat} {k:Value->Mem->O} {Q:Value->Mem->Prop},W (QN b m x n k) Q↔W (k (ke b n) (m.put b x)) Q) /\
  (∀ a b:O,cnd (.bool true) a b=a)/\(∀ a b:O,cnd (.bool false) a b=b) /\
  (∀ (o:O) (m:Mem),gdo (.bool true) true o m=o)/\(∀ (o:O) (m:Mem),gdo (.bool false) false o m=o) /\
  (∀ (o:O) (m:Mem),gdo (.bool true) false o m=some (undef,m))/\(∀ (o:O) (m:Mem),gdo (.bool false) true o m=some (undef,m)) /\
  (∀ (w:Bool) (o:O) (m:Mem),gdo undef w o m=some (undef,m)) /\
  (∀ (k:IntKind) (a b:Int),arith .lss (.int k a) (.int k b)=some (.bool (decide (a<b)))) /\
  (∀ (k:IntKind) (a b:Int),arith .leq (.int k a) (.int k b)=some (.bool (decide (a<=b)))) /\
  (∀ (k:IntKind) (a b:Int),arith .gtr (.int k a) (.int k b)=some (.bool (decide (b<a)))) /\
  (∀ (k:IntKind) (a b:Int),arith .geq (.int k a) (.int k b)=some (.bool (decide (b<=a)))) /\
  (∀ (k:IntKind) (a b:Int),arith .eql (.int k a) (.int k b)=some (.bool (decide (a=b)))) /\
  (∀ (k:IntKind) (a b:Int),arith .neq (.int k a) (.int k b)=some (.bool (decide (¬ a=b)))) /\
  (∀ b:Bool,asB (.bool b)=some b)/\(∀ b:Bool,zy .not (.bool b)=some (.bool !b)) /\
  (∀ (p:Prop) [Decidable p],zy .not (.bool (decide p))=some (.bool (decide (¬ p)))) /\
  (∀ (k:IntKind) (a b:Int),jz max2 (.int k a) [.int k b]=some (.int k (if b > a then b else a))) /\
  (∀ (k:IntKind) (a b:Int),jz min2 (.int k a) [.int k b]=some (.int k (if b<a then b else a))) /\
  ((!true)=false)/\((!false)=true)/\(∀ h:Decidable True,@decide True h=true)/\(∀ h:Decidable False,@decide False h=false) /\
  (∀ {p:Prop} [Decidable p] [Decidable (¬ p)],decide (¬ p)=!decide p) /\
  (∀ {α:Type} {h:Decidable True} (t e:α),@ite α True h t e=t)/\(∀ {α:Type} {h:Decidable False} (t e:α),@ite α False h t e=e) /\
  ((false=true)=False)/\((¬ True)=False)/\((¬ False)=True)/\((true=false)=False) /\
  (∀ {α β:Type} (a:Option α) (f:α->Option β),(a>>=f)=a.bind f)/\(∀ (v:Value) (w:Bool) (o:Option Value) (m:Mem),gdp v w o m=gdo v w (o.bind λv=>some (v,m)) m) /\
  (∀ (v:Value) (w:Bool) (x:Value) (m:Mem),gdv v w x m=gdo v w (some (x,m)) m)/\(∀ (v:Value) (w:Bool) (o:O) (m:Mem),gdc v w o m=gdo v w (o.bind λp=>some (p.1,p.2)) m)/\(∀ (b:Bool) (x y:Value),pk b x y=if b=true then x else y) /\
  (∀ b:Nat,ke b none=.pointer (some ⟨b,0,none⟩))/\(∀ b n:Nat,ke b (some n)=.slice (some ⟨b,0,none⟩) n n) /\
  (∀ (k:Nat) (x:Value) (m:Mem) (f:Value->O),ldF k x m f=(qC x).bind λa=>(qb k a).bind λb=>(qa b m).bind f)/\(∀ (k:Nat) (x:Value) (m:Mem) (f:Value->O),ldA k x m f=(qb k x).bind λb=>(qa b m).bind f) /\
  (∀ (k:Nat) (x v:Value) (m:Mem) (f:Mem->O),stF k x v m f=(qC x).bind λa=>(qb k a).bind λb=>(qj 1 b v m).bind f)/\(∀ (x:Value) (f:Value->Value->O),ex2 x f=(qG 0 x).bind λa=>(qG 1 x).bind λb=>f a b) :=
 ⟨bmI,zv,qlB,qlg,qks,qgx,qdZ,qjD,qjG,qjE,qjF,qkV,qkj,qkk,qkl,qkm,ar_eql,qki,qld,qjl,qhl,qkL,qkK,Bool.not_true,Bool.not_false,λ_=>decide_true _,λ_=>decide_false _,decide_not,if_true,if_false,Bool.false_eq_true,not_true_eq_false,not_false_eq_true,Bool.true_eq_false,λ_ _=>rfl,λ_ _ _ _=>rfl,λ_ _ _ _=>rfl,λ_ _ _ _=>rfl,λ_ _ _=>rfl,λ_=>rfl,λ_ _=>rfl,λ_ _ _ _=>rfl,λ_ _ _ _=>rfl,λ_ _ _ _ _=>rfl,λ_ _=>rfl⟩
end Go.Fx
namespace Go.Fx.Tryz
open Go Go.Fx
def kX (l:List Value) (m:Mem):Option (Value × Mem):=match l with
 | [.slice a n c,.int .i64 i,.slice (some ⟨vb,voff,none⟩) 1 vc] =>
  if i=(n:Int) then (qx 2 (.slice a n c) (some (.int .i64 i)) none m).bind λ_=>(qM 2 (.slice (some ⟨vb,voff,none⟩) 1 vc) m).bind λp=>qA 81 2 32 (.slice a n c) p.1 p.2 m
  else XS l m
 | _=>none
theorem qaT {l:List Value} {m m':Mem} {v:Value} (h:kX l m=some (v,m')) {φ:Go.Fx.Ren} {w:World} {ARGS:Array Value} (hi:Inv φ m w) (ha:VRs φ l ARGS.toList):vS P φ m w 132 ARGS v m':=by
 unfold kX at h;split at h
 rotate_left
 ·cases h
 rename_i a n c i vb voff vc;split at h
 ·rename_i hin;subst hin;simp only [bsI] at h;obtain ⟨q,hq,p,hp,h⟩:=h;have hcall:Call noS tab 132 [.slice a n c,.int .i64 n,.slice (some ⟨vb,voff,none⟩) 1 vc] m=some (v,m'):=by
   have e1:qd (.slice (some ⟨vb,voff,none⟩) 1 vc)=some (.int .i64 1):=rfl;have e2:decide ((1:Int)=0)=false:=rfl;have e3:decide ((n:Int)=(n:Int))=true:=by simp
   have hlen:qd (.slice a n c)=some (.int .i64 n):=rfl;rw [qmu noS (λ_ _=>rfl)];simp only [st0,hq,e1,e2,hlen,e3,hp,h]
  obtain ⟨N,hN⟩:=vH.1 hcall;exact (Js mixed (qjC P) qfj tabOk tabGood N).fn _ _ m v m' (by decide) hN φ w ARGS hi ha
 ·exact qdv h hi ha
end Go.Fx.Tryz
namespace Go.Proofs
open Go.Shelf
def Tryz.Xm:Go.Shelf.Ren:=⟨fun|105=>174|212=>213|99=>214|165=>215|166=>216|170=>217|169=>218|263=>234|264=>235|206=>236|240=>237|241=>238|276=>247|277=>248|n=>n,fun|9=>9|3=>3|4=>4|20=>20|0=>0|46=>30|109=>288|5=>5|72=>292|76=>295|51=>244|146=>309|53=>79|148=>311|70=>290|37=>76|75=>294|127=>313|164=>327|80=>129|n=>n,fun|n=>n⟩
theorem Tryz.qhV:Go.Proofs.Lays.n105 Tryz.prog Tryz.Xm:={
 mixed:=by kernel_rfl
 f99:=Tryz.func214.trans (congrArg some (by kernel_rfl))
 f105:=Tryz.func174.trans (congrArg some (by kernel_rfl))
 f165:=Tryz.func215.trans (congrArg some (by kernel_rfl))
 f166:=Tryz.func216.trans (congrArg some (by kernel_rfl))
 f169:=Tryz.func218.trans (congrArg some (by kernel_rfl))
 f170:=Tryz.func217.trans (congrArg some (by kernel_rfl))
 f206:=Tryz.func236.trans (congrArg some (by kernel_rfl))
 f212:=Tryz.func213.trans (congrArg some (by kernel_rfl))
 f240:=Tryz.func237.trans (congrArg some (by kernel_rfl))
 f241:=Tryz.func238.trans (congrArg some (by kernel_rfl))
 f263:=Tryz.func234.trans (congrArg some (by kernel_rfl))
 f264:=Tryz.func235.trans (congrArg some (by kernel_rfl))
 f276:=Tryz.func247.trans (congrArg some (by kernel_rfl))
 f277:=Tryz.func248.trans (congrArg some (by kernel_rfl))
 t0:=Tryz.underlying0
 a0:=Tryz.isAgg0
 z0:=Tryz.sizeOf0
 v0:=Tryz.zeroValue0
 t3:=Tryz.underlying3
 a3:=Tryz.isAgg3
 z3:=Tryz.sizeOf3
 v3:=Tryz.zeroValue3
 t4:=Tryz.underlying4
 a4:=Tryz.isAgg4
 z4:=Tryz.sizeOf4
 v4:=Tryz.zeroValue4
 t5:=Tryz.underlying5
 a5:=Tryz.isAgg5
 z5:=Tryz.sizeOf5
 v5:=Tryz.zeroValue5
 t9:=Tryz.underlying9
 a9:=Tryz.isAgg9
 z9:=Tryz.sizeOf9
 v9:=Tryz.zeroValue9
 t20:=Tryz.underlying20
 a20:=Tryz.isAgg20
 z20:=Tryz.sizeOf20
 v20:=Tryz.zeroValue20
 t37:=Tryz.underlying76
 a37:=Tryz.isAgg76
 z37:=Tryz.sizeOf76
 v37:=Tryz.zeroValue76
 t46:=Tryz.underlying30
 a46:=Tryz.isAgg30
 z46:=Tryz.sizeOf30
 v46:=Tryz.zeroValue30
 t51:=Tryz.underlying244
 a51:=Tryz.isAgg244
 z51:=Tryz.sizeOf244
 v51:=Tryz.zeroValue244
 t53:=Tryz.underlying79
 a53:=Tryz.isAgg79
 z53:=Tryz.sizeOf79
 v53:=Tryz.zeroValue79
 t70:=Tryz.underlying290
 a70:=Tryz.isAgg290
 z70:=Tryz.sizeOf290
 v70:=Tryz.zeroValue290
 t72:=Tryz.underlying292
 a72:=Tryz.isAgg292
 z72:=Tryz.sizeOf292
 v72:=Tryz.zeroValue292
 t75:=Tryz.underlying294
 a75:=Tryz.isAgg294
 z75:=Tryz.sizeOf294
 v75:=Tryz.zeroValue294
 t76:=Tryz.underlying295
 a76:=Tryz.isAgg295
 z76:=Tryz.sizeOf295
 v76:=Tryz.zeroValue295
 t109:=Tryz.underlying288
 a109:=Tryz.isAgg288
 z109:=Tryz.sizeOf288
 v109:=Tryz.zeroValue288
 t127:=Tryz.underlying313
 a127:=Tryz.isAgg313
 z127:=Tryz.sizeOf313
 v127:=Tryz.zeroValue313
 t146:=Tryz.underlying309
 a146:=Tryz.isAgg309
 z146:=Tryz.sizeOf309
 v146:=Tryz.zeroValue309
 t148:=Tryz.underlying311
 a148:=Tryz.isAgg311
 z148:=Tryz.sizeOf311
 v148:=Tryz.zeroValue311
 t164:=Tryz.underlying327
 a164:=Tryz.isAgg327
 z164:=Tryz.sizeOf327
 v164:=Tryz.zeroValue327 }
def Tryz.Hy:Go.Shelf.Ren:=⟨fun|160=>108|232=>146|231=>145|227=>147|234=>149|233=>148|236=>151|235=>150|228=>189|271=>192|151=>191|197=>190|120=>227|152=>226|260=>225|137=>240|119=>241|224=>242|225=>243|217=>249|266=>250|n=>n,fun|9=>9|4=>4|3=>3|5=>5|117=>231|116=>230|0=>0|124=>234|21=>21|105=>268|46=>30|119=>315|139=>318|138=>317|n=>n,fun|3=>0|4=>1|n=>n⟩
theorem Tryz.qhT:Go.Proofs.Lays.n160 Tryz.prog Tryz.Hy:={
 mixed:=by kernel_rfl
 f119:=Tryz.func241.trans (congrArg some (by kernel_rfl))
 f120:=Tryz.func227.trans (congrArg some (by kernel_rfl))
 f137:=Tryz.func240.trans (congrArg some (by kernel_rfl))
 f151:=Tryz.func191.trans (congrArg some (by kernel_rfl))
 f152:=Tryz.func226.trans (congrArg some (by kernel_rfl))
 f160:=Tryz.func108.trans (congrArg some (by kernel_rfl))
 f197:=Tryz.func190.trans (congrArg some (by kernel_rfl))
 f217:=Tryz.func249.trans (congrArg some (by kernel_rfl))
 f224:=Tryz.func242.trans (congrArg some (by kernel_rfl))
 f225:=Tryz.func243.trans (congrArg some (by kernel_rfl))
 f227:=Tryz.func147.trans (congrArg some (by kernel_rfl))
 f228:=Tryz.func189.trans (congrArg some (by kernel_rfl))
 f231:=Tryz.func145.trans (congrArg some (by kernel_rfl))
 f232:=Tryz.func146.trans (congrArg some (by kernel_rfl))
 f233:=Tryz.func148.trans (congrArg some (by kernel_rfl))
 f234:=Tryz.func149.trans (congrArg some (by kernel_rfl))
 f235:=Tryz.func150.trans (congrArg some (by kernel_rfl))
 f236:=Tryz.func151.trans (congrArg some (by kernel_rfl))
 f260:=Tryz.func225.trans (congrArg some (by kernel_rfl))
 f266:=Tryz.func250.trans (congrArg some (by kernel_rfl))
 f271:=Tryz.func192.trans (congrArg some (by kernel_rfl))
 t0:=Tryz.underlying0
 a0:=Tryz.isAgg0
 z0:=Tryz.sizeOf0
 v0:=Tryz.zeroValue0
 t3:=Tryz.underlying3
 a3:=Tryz.isAgg3
 z3:=Tryz.sizeOf3
 v3:=Tryz.zeroValue3
 t4:=Tryz.underlying4
 a4:=Tryz.isAgg4
 z4:=Tryz.sizeOf4
 v4:=Tryz.zeroValue4
 t5:=Tryz.underlying5
 a5:=Tryz.isAgg5
 z5:=Tryz.sizeOf5
 v5:=Tryz.zeroValue5
 t9:=Tryz.underlying9
 a9:=Tryz.isAgg9
 z9:=Tryz.sizeOf9
 v9:=Tryz.zeroValue9
 t21:=Tryz.underlying21
 a21:=Tryz.isAgg21
 z21:=Tryz.sizeOf21
 v21:=Tryz.zeroValue21
 t46:=Tryz.underlying30
 a46:=Tryz.isAgg30
 z46:=Tryz.sizeOf30
 v46:=Tryz.zeroValue30
 t105:=Tryz.underlying268
 a105:=Tryz.isAgg268
 z105:=Tryz.sizeOf268
 v105:=Tryz.zeroValue268
 t116:=Tryz.underlying230
 a116:=Tryz.isAgg230
 z116:=Tryz.sizeOf230
 t117:=Tryz.underlying231
 a117:=Tryz.isAgg231
 z117:=Tryz.sizeOf231
 v117:=Tryz.zeroValue231
 t119:=Tryz.underlying315
 a119:=Tryz.isAgg315
 z119:=Tryz.sizeOf315
 t124:=Tryz.underlying234
 a124:=Tryz.isAgg234
 z124:=Tryz.sizeOf234
 v124:=Tryz.zeroValue234
 t138:=Tryz.underlying317
 a138:=Tryz.isAgg317
 z138:=Tryz.sizeOf317
 v138:=Tryz.zeroValue317
 t139:=Tryz.underlying318
 a139:=Tryz.isAgg318
 z139:=Tryz.sizeOf318
 v139:=Tryz.zeroValue318
 g3:=by kernel_rfl
 g4:=by kernel_rfl }
def Tryz.Xl:Go.Shelf.Ren:=⟨fun|156=>182|165=>215|166=>216|169=>218|240=>237|241=>238|276=>247|277=>248|n=>n,fun|31=>34|9=>9|3=>3|4=>4|0=>0|20=>20|72=>292|76=>295|70=>290|37=>76|75=>294|127=>313|164=>327|5=>5|80=>129|n=>n,fun|n=>n⟩
theorem Tryz.qhU:Go.Proofs.Lays.n156 Tryz.prog Tryz.Xl:={
 mixed:=by kernel_rfl
 f156:=Tryz.func182.trans (congrArg some (by kernel_rfl))
 f165:=Tryz.func215.trans (congrArg some (by kernel_rfl))
 f166:=Tryz.func216.trans (congrArg some (by kernel_rfl))
 f169:=Tryz.func218.trans (congrArg some (by kernel_rfl))
 f240:=Tryz.func237.trans (congrArg some (by kernel_rfl))
 f241:=Tryz.func238.trans (congrArg some (by kernel_rfl))
 f276:=Tryz.func247.trans (congrArg some (by kernel_rfl))
 f277:=Tryz.func248.trans (congrArg some (by kernel_rfl))
 t0:=Tryz.underlying0
 a0:=Tryz.isAgg0
 z0:=Tryz.sizeOf0
 v0:=Tryz.zeroValue0
 t3:=Tryz.underlying3
 a3:=Tryz.isAgg3
 z3:=Tryz.sizeOf3
 v3:=Tryz.zeroValue3
 t4:=Tryz.underlying4
 a4:=Tryz.isAgg4
 z4:=Tryz.sizeOf4
 v4:=Tryz.zeroValue4
 t9:=Tryz.underlying9
 a9:=Tryz.isAgg9
 z9:=Tryz.sizeOf9
 v9:=Tryz.zeroValue9
 t20:=Tryz.underlying20
 a20:=Tryz.isAgg20
 z20:=Tryz.sizeOf20
 v20:=Tryz.zeroValue20
 t31:=Tryz.underlying34
 a31:=Tryz.isAgg34
 z31:=Tryz.sizeOf34
 v31:=Tryz.zeroValue34
 t37:=Tryz.underlying76
 a37:=Tryz.isAgg76
 z37:=Tryz.sizeOf76
 v37:=Tryz.zeroValue76
 t70:=Tryz.underlying290
 a70:=Tryz.isAgg290
 z70:=Tryz.sizeOf290
 v70:=Tryz.zeroValue290
 t72:=Tryz.underlying292
 a72:=Tryz.isAgg292
 z72:=Tryz.sizeOf292
 v72:=Tryz.zeroValue292
 t75:=Tryz.underlying294
 a75:=Tryz.isAgg294
 z75:=Tryz.sizeOf294
 v75:=Tryz.zeroValue294
 t76:=Tryz.underlying295
 a76:=Tryz.isAgg295
 z76:=Tryz.sizeOf295
 v76:=Tryz.zeroValue295
 t127:=Tryz.underlying313
 a127:=Tryz.isAgg313
 z127:=Tryz.sizeOf313
 v127:=Tryz.zeroValue313
 t164:=Tryz.underlying327
 a164:=Tryz.isAgg327
 z164:=Tryz.sizeOf327
 v164:=Tryz.zeroValue327 }
theorem Tryz.qgk:Builder.Extra Tryz.prog Tryz.Xm:={
 sizeBuilder:=by kernel_rfl
 liesBuilder:=by kernel_rfl
 t5:=by kernel_rfl
 a5:=λw=>by kernel_rfl
 z5:=λw=>by kernel_rfl
 v5:=λw=>by kernel_rfl
 infoByte:=by kernel_rfl
 cellsByte:=by kernel_rfl
 sizeByte:=by kernel_rfl
 neB5:=by decide }
theorem Tryz.qgj:Builder.Extra Tryz.prog Tryz.Xl:={
 sizeBuilder:=by kernel_rfl
 liesBuilder:=by kernel_rfl
 t5:=by kernel_rfl
 a5:=λw=>by kernel_rfl
 z5:=λw=>by kernel_rfl
 v5:=λw=>by kernel_rfl
 infoByte:=by kernel_rfl
 cellsByte:=by kernel_rfl
 sizeByte:=by kernel_rfl
 neB5:=by decide }
end Go.Proofs
namespace Go.Fx.Tryz
open Go Go.Fx Go.Proofs Go.RowKit
def Zs (l:List Value) (m:Mem):Option (Value × Mem):=match l with
 | [.string s,.int .i64 c]=>if 0<=c/\c<=1000000/\s.size<=1000000 then some (.string ⟨(Lib.repeatL s.data.toList c.toNat).toArray⟩,m) else none
 | _=>none
theorem qdu {l:List Value} {m m':Mem} {v:Value} (h:Zs l m=some (v,m')) {φ:Go.Fx.Ren} {w:World} {ARGS:Array Value} (hi:Inv φ m w) (ha:VRs φ l ARGS.toList):vS Tryz.prog φ m w 174 ARGS v m':=by
 unfold Zs at h;split at h
 ·rename_i s c;split at h
  ·rename_i hc;cases h
   obtain ⟨A,B,rfl,hA,hB⟩:=ha.two;cases hA; cases hB
   obtain ⟨c,rfl⟩:=Int.eq_ofNat_of_zero_le hc.1;have hm:s.size * c<=1000000 * 1000000:=Nat.mul_le_mul hc.2.2 (by omega);exact vn hi (.string _) (Any.strings_Repeat Tryz.qhV Tryz.qgk s c w (by omega) (by omega))
  ·cases h
 ·cases h
def qab (l:List Value) (m:Mem):Option (Value × Mem):=match l with
 | [.string s,.string ⟨⟨[c]⟩⟩]=>if c.toNat<128/\s.size<=1000000 then some (.string ⟨(Lib.trimB s.data.toList c).toArray⟩,m) else none
 | _=>none
theorem qhN {l:List Value} {m m':Mem} {v:Value} (h:qab l m=some (v,m')) {φ:Go.Fx.Ren} {w:World} {ARGS:Array Value} (hi:Inv φ m w) (ha:VRs φ l ARGS.toList):vS Tryz.prog φ m w 108 ARGS v m':=by
 unfold qab at h;split at h
 ·rename_i s c;split at h
  ·rename_i hc;cases h
   obtain ⟨A,B,rfl,hA,hB⟩:=ha.two;cases hA; cases hB
   refine vn hi (.string _) ((Any.strings_Trim_one Tryz.qhT s c hc.1 w (by omega)).mono ?_)
   rintro e w' ⟨rfl,hw|hw⟩
   ·exact ⟨rfl,hw ▸ Below.refl _ _⟩
   ·exact ⟨rfl,hw ▸ ⟨rfl,rfl,rfl,Nat.le_refl _,λ_ _=>rfl⟩⟩
  ·cases h
 ·cases h
def Jh:List Value->Option (List ByteArray)
 | []=>some []
 | .string s::r=>(Jh r).map (s::·)
 | _::_=>none
theorem Jg:∀ (c:List Value) (xs:List ByteArray),Jh c=some xs->c=xs.map .string
 | [],xs,h=>by cases h; rfl
 | v::r,xs,h=>by
  cases v<;>simp only [Jh,msI] at h<;>try (cases h; done)
  obtain ⟨l,h1,rfl⟩:=h;rw [List.map_cons,<- Jg r l h1]
def qac (l:List Value) (m:Mem):Option (Value × Mem):=match l with
 | [.slice (some ⟨b,off,none⟩) n c,.string sep]=>(m.xp b).bind λcs=>(Jh ((cs.drop off).take n)).bind λxs =>
   if xs.length=n/\n≠0/\n<=c/\n<=1000000/\(Lib.join (xs.map (·.data.toList)) sep.data.toList).length<=1000000 then some (.string ⟨(Lib.join (xs.map (·.data.toList)) sep.data.toList).toArray⟩,m) else none
 | _=>none
theorem qhO {l:List Value} {m m':Mem} {v:Value} (h:qac l m=some (v,m')) {φ:Go.Fx.Ren} {w:World} {ARGS:Array Value} (hi:Inv φ m w) (ha:VRs φ l ARGS.toList):vS Tryz.prog φ m w 182 ARGS v m':=by
 unfold qac at h;split at h
 rotate_left
 ·cases h
 rename_i b off n c sep;simp only [bsI] at h;obtain ⟨cs,hcs,xs,hxs,h⟩:=h;split at h
 rotate_left
 ·cases h
 rename_i hc;cases h
 obtain ⟨hn,hn0,hcap,hbig,hlen⟩:=hc;obtain ⟨A,B,rfl,hA,hB⟩:=ha.two;cases hB
 obtain ⟨e,ro,lo,hg⟩:=Mem.jl hcs;have hmap:=Jg _ _ hxs;have key:∀ (lc:Loc) (o c':Nat),φ b=some lc->o=lc.base+off->n<=c'->vS Tryz.prog φ m w 182 #[.slice (some ⟨lc.blk,o,none⟩) n c',.string sep] (.string ⟨(Lib.join (xs.map (·.data.toList)) sep.data.toList).toArray⟩) m:=by
  intro lc o c' hl ho hcc;subst ho;refine vn hi (.string _) ?_;have:=Any.strings_Join Tryz.qhU Tryz.qgj lc.blk (lc.base+off) c' xs sep w (λj x hj=>?_) (hi.jm hl) (by omega) (by omega) (by omega)
  ·rw [hn] at this; exact this
  ·have hv:cs[off+j]? = some (.string x):=by
    have h1:((cs.drop off).take n)[j]? = some (.string x):=by rw [hmap,List.getElem?_map,hj]; rfl
    rw [List.getElem?_take] at h1;split at h1
    ·rwa [List.getElem?_drop] at h1
    ·cases h1
   obtain ⟨V,hV,rV⟩:=hi.load hg hl hv;cases rV
   rw [Nat.add_assoc]; exact hV
 cases hA with
 | sliceEx _ _ _ _ lc hl hlo=>exact key lc _ c hl rfl hcap
 | sliceZero=>exact absurd rfl hn0
 | sliceLoose _ _ _ _ off' cap' s lc hl hlo hoff hle hcc hroom=>exact key lc off' cap' hl (hoff (by omega)) (by omega)
end Go.Fx.Tryz
namespace Go.Proofs
open Go.Shelf
def Tryz.Vn:Go.Shelf.Ren:=⟨fun|7=>39|10=>76|n=>n,fun|23=>91|26=>9|3=>93|28=>89|0=>0|27=>88|33=>29|4=>4|n=>n,fun|n=>n⟩
theorem Tryz.Xo:Go.Proofs.SlLaysZ.n7 Tryz.prog Tryz.Vn:={
 mixed:=by kernel_rfl
 f7:=⟨Tryz.f39.name,by decide,Tryz.func39.trans (congrArg some (by kernel_rfl))⟩
 f10:=⟨Tryz.f76.name,by decide,Tryz.func76.trans (congrArg some (by kernel_rfl))⟩
 t0:=Tryz.underlying0
 a0:=Tryz.isAgg0
 z0:=Tryz.sizeOf0
 v0:=Tryz.zeroValue0
 t4:=Tryz.underlying4
 a4:=Tryz.isAgg4
 z4:=Tryz.sizeOf4
 v4:=Tryz.zeroValue4
 t23:=Tryz.underlying91
 a23:=Tryz.isAgg91
 z23:=Tryz.sizeOf91
 v23:=Tryz.zeroValue91
 t26:=Tryz.underlying9
 a26:=Tryz.isAgg9
 z26:=Tryz.sizeOf9
 v26:=Tryz.zeroValue9
 t27:=Tryz.underlying88
 a27:=Tryz.isAgg88
 z27:=Tryz.sizeOf88
 v27:=Tryz.zeroValue88
 t28:=Tryz.underlying89
 a28:=Tryz.isAgg89
 z28:=Tryz.sizeOf89
 v28:=Tryz.zeroValue89
 t33:=Tryz.underlying29
 a33:=Tryz.isAgg29
 z33:=Tryz.sizeOf29
 v33:=Tryz.zeroValue29 }
def Tryz.Xi:Go.Shelf.Ren:=⟨fun|6=>38|8=>74|9=>75|11=>114|13=>116|12=>115|23=>162|24=>163|14=>153|15=>154|16=>155|17=>156|18=>157|19=>158|20=>159|21=>160|22=>161|25=>193|26=>194|27=>195|28=>196|29=>197|30=>198|31=>228|n=>n,fun|26=>9|28=>89|24=>34|0=>0|3=>3|37=>30|48=>244|50=>79|4=>4|40=>238|39=>237|45=>193|5=>5|9=>9|51=>271|55=>275|57=>301|58=>302|33=>29|n=>n,fun|n=>n⟩
theorem Tryz.qhz:Go.Proofs.SlLaysZ.n6 Tryz.prog Tryz.Xi:={
 mixed:=by kernel_rfl
 f6:=⟨Tryz.f38.name,by decide,Tryz.func38.trans (congrArg some (by kernel_rfl))⟩
 f8:=⟨Tryz.f74.name,by decide,Tryz.func74.trans (congrArg some (by kernel_rfl))⟩
 f11:=⟨Tryz.f114.name,by decide,Tryz.func114.trans (congrArg some (by kernel_rfl))⟩
 t0:=Tryz.underlying0
 a0:=Tryz.isAgg0
 z0:=Tryz.sizeOf0
 v0:=Tryz.zeroValue0
 t24:=Tryz.underlying34
 a24:=Tryz.isAgg34
 z24:=Tryz.sizeOf34
 v24:=Tryz.zeroValue34
 t26:=Tryz.underlying9
 a26:=Tryz.isAgg9
 z26:=Tryz.sizeOf9
 v26:=Tryz.zeroValue9
 t28:=Tryz.underlying89
 a28:=Tryz.isAgg89
 z28:=Tryz.sizeOf89
 v28:=Tryz.zeroValue89
 i26:=by kernel_rfl }
def Tryz.qdk:Go.Shelf.Ren:=⟨fun|6=>75|8=>116|9=>115|19=>162|20=>163|21=>153|22=>154|23=>155|24=>156|25=>157|26=>158|27=>159|28=>160|29=>161|36=>193|31=>194|32=>195|37=>196|38=>197|39=>198|41=>228|n=>n,fun|27=>34|29=>9|3=>3|32=>30|26=>34|0=>0|44=>244|46=>79|4=>4|36=>238|35=>237|41=>193|5=>5|9=>9|53=>271|57=>275|63=>301|64=>302|n=>n,fun|n=>n⟩
theorem Tryz.qiE:Go.Proofs.SlLaysM.n6 Tryz.prog Tryz.qdk:={
 mixed:=by kernel_rfl
 f6:=⟨Tryz.f75.name,by decide,Tryz.func75.trans (congrArg some (by kernel_rfl))⟩
 f8:=Tryz.func116.trans (congrArg some (by kernel_rfl))
 f9:=⟨Tryz.f115.name,by decide,Tryz.func115.trans (congrArg some (by kernel_rfl))⟩
 f19:=Tryz.func162.trans (congrArg some (by kernel_rfl))
 f20:=Tryz.func163.trans (congrArg some (by kernel_rfl))
 f21:=⟨Tryz.f153.name,by decide,Tryz.func153.trans (congrArg some (by kernel_rfl))⟩
 f22:=⟨Tryz.f154.name,by decide,Tryz.func154.trans (congrArg some (by kernel_rfl))⟩
 f23:=⟨Tryz.f155.name,by decide,Tryz.func155.trans (congrArg some (by kernel_rfl))⟩
 f24:=⟨Tryz.f156.name,by decide,Tryz.func156.trans (congrArg some (by kernel_rfl))⟩
 f25:=⟨Tryz.f157.name,by decide,Tryz.func157.trans (congrArg some (by kernel_rfl))⟩
 f26:=⟨Tryz.f158.name,by decide,Tryz.func158.trans (congrArg some (by kernel_rfl))⟩
 f27:=⟨Tryz.f159.name,by decide,Tryz.func159.trans (congrArg some (by kernel_rfl))⟩
 f28:=⟨Tryz.f160.name,by decide,Tryz.func160.trans (congrArg some (by kernel_rfl))⟩
 f29:=⟨Tryz.f161.name,by decide,Tryz.func161.trans (congrArg some (by kernel_rfl))⟩
 f31:=Tryz.func194.trans (congrArg some (by kernel_rfl))
 f32:=Tryz.func195.trans (congrArg some (by kernel_rfl))
 f36:=⟨Tryz.f193.name,by decide,Tryz.func193.trans (congrArg some (by kernel_rfl))⟩
 f37:=⟨Tryz.f196.name,by decide,Tryz.func196.trans (congrArg some (by kernel_rfl))⟩
 f38:=⟨Tryz.f197.name,by decide,Tryz.func197.trans (congrArg some (by kernel_rfl))⟩
 f39:=⟨Tryz.f198.name,by decide,Tryz.func198.trans (congrArg some (by kernel_rfl))⟩
 f41:=⟨Tryz.f228.name,by decide,Tryz.func228.trans (congrArg some (by kernel_rfl))⟩
 t0:=Tryz.underlying0
 a0:=Tryz.isAgg0
 z0:=Tryz.sizeOf0
 v0:=Tryz.zeroValue0
 t3:=Tryz.underlying3
 a3:=Tryz.isAgg3
 z3:=Tryz.sizeOf3
 v3:=Tryz.zeroValue3
 t4:=Tryz.underlying4
 a4:=Tryz.isAgg4
 z4:=Tryz.sizeOf4
 v4:=Tryz.zeroValue4
 t5:=Tryz.underlying5
 a5:=Tryz.isAgg5
 z5:=Tryz.sizeOf5
 v5:=Tryz.zeroValue5
 t9:=Tryz.underlying9
 a9:=Tryz.isAgg9
 z9:=Tryz.sizeOf9
 v9:=Tryz.zeroValue9
 t26:=Tryz.underlying34
 a26:=Tryz.isAgg34
 z26:=Tryz.sizeOf34
 v26:=Tryz.zeroValue34
 t27:=Tryz.underlying34
 a27:=Tryz.isAgg34
 z27:=Tryz.sizeOf34
 v27:=Tryz.zeroValue34
 t29:=Tryz.underlying9
 a29:=Tryz.isAgg9
 z29:=Tryz.sizeOf9
 v29:=Tryz.zeroValue9
 t32:=Tryz.underlying30
 a32:=Tryz.isAgg30
 z32:=Tryz.sizeOf30
 v32:=Tryz.zeroValue30
 t35:=Tryz.underlying237
 a35:=Tryz.isAgg237
 z35:=Tryz.sizeOf237
 v35:=Tryz.zeroValue237
 t36:=Tryz.underlying238
 a36:=Tryz.isAgg238
 z36:=Tryz.sizeOf238
 v36:=Tryz.zeroValue238
 t41:=Tryz.underlying193
 a41:=Tryz.isAgg193
 z41:=Tryz.sizeOf193
 v41:=Tryz.zeroValue193
 t44:=Tryz.underlying244
 a44:=Tryz.isAgg244
 z44:=Tryz.sizeOf244
 v44:=Tryz.zeroValue244
 t46:=Tryz.underlying79
 a46:=Tryz.isAgg79
 z46:=Tryz.sizeOf79
 v46:=Tryz.zeroValue79
 t53:=Tryz.underlying271
 a53:=Tryz.isAgg271
 z53:=Tryz.sizeOf271
 v53:=Tryz.zeroValue271
 t57:=Tryz.underlying275
 a57:=Tryz.isAgg275
 z57:=Tryz.sizeOf275
 v57:=Tryz.zeroValue275
 t63:=Tryz.underlying301
 a63:=Tryz.isAgg301
 z63:=Tryz.sizeOf301
 v63:=Tryz.zeroValue301
 t64:=Tryz.underlying302
 a64:=Tryz.isAgg302
 z64:=Tryz.sizeOf302
 v64:=Tryz.zeroValue302 }
end Go.Proofs
namespace Go.Fx
open Go Go.RowKit
def leb:List UInt8->List UInt8->Bool
 | [],_=>true
 | _::_,[]=>false
 | a::x,b::y=>if a.toNat<b.toNat then true else if a.toNat=b.toNat then leb x y else false
theorem je:∀ x y:List UInt8,leb x y=true↔x<=y
 | [],y=>by simp [leb]
 | a::x,[]=>by simp [leb,<- List.not_lt]
 | a::x,b::y=>by
  have ih:=je x y;simp only [leb];rw [<- List.not_lt,List.cons_lt_cons_iff];have e1:(b<a)↔b.toNat<a.toNat:=UInt8.lt_iff_toNat_lt;have e2:b=a↔b.toNat=a.toNat:=UInt8.toNat_inj.symm;rw [e1,e2];split
  ·rename_i h; simp; omega
  ·split
   ·rename_i h1 h2;rw [ih,<- List.not_lt];constructor
    ·rintro h (h3|⟨_,h3⟩)
     ·omega
     ·exact h h3
    ·intro h h3; exact h (.inr ⟨h2.symm,h3⟩)
   ·rename_i h1 h2; simp; omega
def qbb {α:Type} (le:α->α->Bool) (x:α):List α->List α
 | []=>[x]
 | y::r=>match le x y with
  | true=>x::y::r
  | false=>y::qbb le x r
def ya {α:Type} (le:α->α->Bool):List α->List α
 | []=>[]
 | x::r=>qbb le x (ya le r)
theorem ZQ {α:Type} (le:α->α->Bool) (x:α):∀ l:List α,(qbb le x l).Perm (x::l)
 | []=>.refl _
 | y::r=>by
  simp only [qbb];split
  ·exact .refl _
  ·exact ((ZQ le x r).cons y).trans (.swap x y r)
theorem wC {α:Type} (le:α->α->Bool):∀ l:List α,(ya le l).Perm l
 | []=>.refl _
 | x::r=>(ZQ le x _).trans ((wC le r).cons x)
theorem qcm {α:Type} {le:α->α->Bool} (tr:∀ a b c,le a b=true->le b c=true->le a c=true) (tot2:∀ a b,(le a b||le b a)=true) (x:α):∀ l:List α,l.Pairwise (λa b=>le a b=true)->(qbb le x l).Pairwise (λa b=>le a b=true)
 | [],_=>by simp [qbb]
 | y::r,h=>by
  obtain ⟨h1,h2⟩:=List.pairwise_cons.1 h;simp only [qbb];split
  ·rename_i hxy;refine List.pairwise_cons.2 ⟨λz hz=>?_,h⟩;rcases lcI.1 hz with rfl|hz
   ·exact hxy
   ·exact tr _ _ _ hxy (h1 z hz)
  ·rename_i hxy;refine List.pairwise_cons.2 ⟨λz hz=>?_,qcm tr tot2 x r h2⟩;rcases lcI.1 ((ZQ le x r).mem_iff.1 hz) with rfl|hz
   ·have:=tot2 y z;rw [hxy] at this;simpa using this
   ·exact h1 z hz
theorem Jt {α:Type} {le:α->α->Bool} (tr:∀ a b c,le a b=true->le b c=true->le a c=true) (tot2:∀ a b,(le a b||le b a)=true):∀ l:List α,(ya le l).Pairwise (λa b=>le a b=true)
 | []=>by simp [ya]
 | x::r=>qcm tr tot2 x _ (Jt tr tot2 r)
theorem sortG_eq {α:Type} {le:α->α->Bool} (tr:∀ a b c,le a b=true->le b c=true->le a c=true) (tot2:∀ a b,(le a b||le b a)=true) (anti:∀ a b,le a b=true->le b a=true->a=b) {l l':List α} (h:l.Perm l'):l.mergeSort le=ya le l' :=
 List.Perm.eq_of_pairwise (le:=λa b=>le a b=true) (λa b _ _ h1 h2=>anti a b h1 h2) (List.pairwise_mergeSort tr tot2 l) (Jt tr tot2 l') (((List.mergeSort_perm l le).trans h).trans (wC le l').symm)
theorem sortB_eq {l l':List (List UInt8)} (h:l.Perm l'):l.mergeSort (λx y=>decide (x<=y))=ya leb l':=by
 have e:(λx y:List UInt8=>decide (x<=y))=leb:=by
  funext x y;rw [Bool.eq_iff_iff,je,decide_eq_true_eq]
 rw [e];refine sortG_eq (λa b c h1 h2=>?_) (λa b=>?_) (λa b h1 h2=>?_) h
 ·rw [je] at *; exact List.le_trans h1 h2
 ·rw [Bool.or_eq_true,je,je]; exact List.le_total a b
 ·rw [je] at *; exact List.le_antisymm h1 h2
def Xo:List MapEntry->Option (List (List UInt8))
 | []=>some []
 | x::r=>match x.key,Xo r with
  | .string s,some l=>some (s.data.toList::l)
  | _,_=>none
def yg {α:Type} (eq:α->α->Bool):List α->Bool
 | []=>true
 | x::r=>r.all (λy=>!eq x y)&&yg eq r
theorem wJ {α:Type} {eq:α->α->Bool} (he:∀ a b,eq a b=true↔a=b):∀ l:List α,yg eq l=true->l.Nodup
 | [],_=>List.nodup_nil
 | x::r,h=>by
  simp only [yg,baI,List.all_eq_true,Bool.not_eq_true'] at h;refine List.nodup_cons.2 ⟨λhx=>?_,wJ he r h.2⟩;have:=h.1 x hx;rw [(he x x).2 rfl] at this;cases this
def vF (es:List MapEntry) (clock:Nat):Bool:=es.all (λx=>Nat.blt x.born clock)&&yg Nat.beq (es.map (·.born))
def eqB (x y:List UInt8):Bool:=leb x y&&leb y x
theorem qct (x y:List UInt8):eqB x y=true↔x=y:=by
 unfold eqB;rw [baI,je,je];exact ⟨λh=>List.le_antisymm h.1 h.2,λh=>by subst h; exact ⟨List.le_refl _,List.le_refl _⟩⟩
theorem Vo:∀ (es:List MapEntry) (ks:List (List UInt8)),Xo es=some ks->es.map (·.key)=ks.map λl=>.string ⟨l.toArray⟩
 | [],ks,h=>by cases h; rfl
 | x::r,ks,h=>by
  simp only [Xo] at h;split at h
  ·rename_i s l h1 h2;cases h
   rw [List.map_cons,List.map_cons,Vo r l h2,h1]
  ·cases h
theorem EsR.keys {φ:Ren} {es ES:List MapEntry} (h:EsR φ es ES):es.map (·.key)=ES.map (·.key)/\es.map (·.born)=ES.map (·.born):=by
 obtain ⟨hl,ha⟩:=h;constructor
 ·refine List.ext_getElem (by simp [hl]) λi h1 h2=>?_
  simp only [List.length_map] at h1 h2;simpa using (ha i _ _ (List.getElem?_eq_getElem h1) (List.getElem?_eq_getElem h2)).1
 ·refine List.ext_getElem (by simp [hl]) λi h1 h2=>?_
  simp only [List.length_map] at h1 h2;simpa using (ha i _ _ (List.getElem?_eq_getElem h1) (List.getElem?_eq_getElem h2)).2.1
abbrev RU:Value->Option (DataW Unit × List MemPlace):=λ_=>some (.nil,[])
theorem qdr {P:Program} {φ:Ren} {m:Mem} {w:World} (hi:Inv φ m w) {mb:Nat} {es:List MapEntry} {clock:Nat} {ro:Bool} {lo:Option Nat} {lm:Loc} (hg:m.get mb=some ⟨.map es clock,ro,lo⟩) (hl:φ mb=some lm) {k:TypeId}
  (f:Value->Lit) (hk:∀ x∈es,keyOf P k x.key=some (f x.key)) (hlen:es.length<=1000000) (hb:vF es clock=true) (hnd:(es.map (·.key)).Nodup) :
  ∃ D:List (Lit × DataW Unit),w.ownsMap P k RU lm.blk es.length (.map D)/\(D.map (·.1)).Perm (es.map λx=>f x.key):=by
 obtain ⟨l',hl',_,ES,hE,hR⟩:=hi.live mb _ hg;rw [hl] at hl'; cases hl'
 obtain ⟨k1,k2⟩:=hR.keys;have hkE:∀ x∈ES.toList,keyOf P k x.key=some (f x.key):=by
  intro x hx;have:x.key∈ES.toList.map (·.key):=List.mem_map.2 ⟨x,hx,rfl⟩;rw [<- k1] at this;obtain ⟨y,hy,e⟩:=List.mem_map.1 this;rw [<- e]; exact hk y hy
 have hsz:ES.size=es.length:=by have:=hR.1; simpa using this.symm
 have hrd:∀ x∈ES.toList,Go.WideElems.rd P k RU x=some (f x.key,.nil):=λx hx=>by simp [Go.WideElems.rd,hkE x hx]
 have hst:Go.MapKept.Stamped ES clock:=by
  simp only [vF,baI,List.all_eq_true] at hb;refine ⟨λx hx=>?_,?_,?_⟩
  ·have:x.born∈ES.toList.map (·.born):=List.mem_map.2 ⟨x,hx,rfl⟩;rw [<- k2] at this;obtain ⟨y,hy,e⟩:=List.mem_map.1 this;have:=hb.1 y hy;rw [e] at this;exact Nat.le_of_ble_eq_true this
  ·rw [<- k2]; exact wJ (λa b=>by rw [Nat.beq_eq]) _ hb.2
  ·rw [<- k1]; exact hnd
 refine ⟨_,⟨ES,clock,hE,⟨by rw [hsz]; unfold maxLen; omega,hst,λx hx=>⟨_,hrd x hx⟩⟩,by rw [hsz]; exact Nat.le_refl _,rfl⟩,?_⟩;have h1:=(Go.WideShapes.sorted_perm (ES.toList.map (Go.WideElems.rg P k RU))).map (·.1);refine h1.trans ?_;have h2:(ES.toList.map (Go.WideElems.rg P k RU)).map (·.1)=es.map λx=>f x.key:=by
  have e1:(ES.toList.map (Go.WideElems.rg P k RU)).map (·.1)=(ES.toList.map (·.key)).map f:=by
   rw [List.map_map,List.map_map];refine List.map_congr_left λx hx=>?_
   simp [Go.WideElems.rg,hrd x hx]
  rw [e1,<- k1,List.map_map]; rfl
 rw [h2]
theorem Inv.qkn {φ:Ren} {m:Mem} {w:World} (h:Inv φ m w) {g:Nat} {cur:Array Value} {e:TypeId} (hg:w.heap[g]? = some (.cells cur e (0,0))) (hall:∀ b l,φ b=some l->l.blk≠g) (c:List Value) (s:Nat)
  (hc:∀ (i:Nat) v,c[i]? = some v->∃ V,cur[i]? = some V/\VR φ v V) :
  Inv (φ.set m.next ⟨g,0,some s,cur.size⟩) (m.add ⟨.cells c e,false,some s⟩) w/\Ren.le φ (φ.set m.next ⟨g,0,some s,cur.size⟩):=by
 have hle:=Ren.wM (l:=⟨g,0,some s,cur.size⟩) h.fresh;have hlt:g<w.heap.size:=(Array.getElem?_eq_some_iff.1 hg).1;refine ⟨⟨λb y hy=>?_,λb d y z k j hy hz hk hj hr hbd=>?_,λb k hk=>?_⟩,hle⟩
 ·rw [Mem.zw] at hy;by_cases eb:b=m.next
  ·rw [if_pos eb] at hy; cases hy
   exact ⟨_,by rw [eb]; exact Ren.zB ..,⟨⟨rfl,λ_ h=>(by cases h)⟩,cur,e,(0,0),hg,λi v hv=>by obtain ⟨V,hV,r⟩:=hc i v hv; exact ⟨V,by simpa using hV,r.mono hle⟩,(λ_ i _ h=>by simp at h),λ_ _=>rfl,(λs h=>rfl),λ_=>rfl⟩⟩
  ·rw [if_neg eb] at hy;obtain ⟨k,hk,ok⟩:=h.live b y hy;exact ⟨k,hle _ _ hk,ok.mono hle⟩
 ·rw [Mem.zw] at hy hz;by_cases eb:b=m.next
  ·rw [eb,Ren.zB] at hk; cases hk
   rw [if_neg (λh=>hbd (eb.trans h.symm))] at hz;rw [Ren.zk _ _ (λh=>hbd (eb.trans h.symm))] at hj;exact λe=>hall d j hj e.symm
  ·rw [if_neg eb] at hy;rw [Ren.zk _ _ eb] at hk;by_cases ed:d=m.next
   ·rw [ed,Ren.zB] at hj; cases hj
    exact hall b k hk
   ·rw [if_neg ed] at hz;rw [Ren.zk _ _ ed] at hj;exact h.apart b d y z k j hy hz hk hj hr hbd
 ·rw [Mem.QQ];by_cases eb:b=m.next
  ·rw [eb,Ren.zB] at hk; cases hk
   exact ⟨by omega,hlt⟩
  ·rw [Ren.zk _ _ eb] at hk;have:=h.below b k hk;exact ⟨by omega,this.2⟩
theorem qbp {P:Program} {φ:Ren} {m:Mem} {w:World} {f:FuncId} {args:Array Value} {e:TypeId} {s n:Nat} {c:List Value} (hi:Inv φ m w) (hp:c.all plain=true)
  (h:Calls P f args w λE w'=>∃ g cap cur,E=.returned (.slice (some ⟨g,0,none⟩) n cap)/\w.heap.size<=g/\w'.heap[g]? = some (.cells cur e (0,0))/\n<=cap/\cur.size=cap * s/\cur.toList.take (n * s)=c/\Below w.heap.size w w') :
  vS P φ m w f args (.slice (some ⟨m.next,0,none⟩) n n) (m.add ⟨.cells c e,false,some s⟩):=by
 refine h.mono ?_
 rintro E w' ⟨g,cap,cur,rfl,hg,hC,hn,hcs,hct,hb⟩
 obtain ⟨h1,h2⟩:=hi.qcz hb;obtain ⟨h3,h4⟩:=h1.qkn hC (λb l hl=>by have:=hi.jm hl; omega) c s (λi v hv=>by
  have hpv:Fx.plain v=true:=List.all_eq_true.1 hp v (List.mem_of_getElem? hv);rw [<- hct,List.getElem?_take] at hv;split at hv
  ·exact ⟨v,by simpa using hv,by have:=(VRs.plain (φ:=φ) (l:=[v]) (by simp [hpv])).2 0 v v rfl rfl; exact this⟩
  ·cases hv)
 refine ⟨_,_,rfl,.sliceLoose m.next 0 n n 0 cap s ⟨g,0,some s,cur.size⟩ (Ren.zB ..) rfl (λ_=>rfl) (Nat.le_refl _) hn (by rw [hcs]; simp),h3,⟨h4,hb.size,h2.same,λb x l hx hl hr=>?_,hb.os,hb.output,hb.tape,by simp,λb hb'=>Ren.zk _ _ (by omega),λb hb' hn=>by rw [Mem.zw,if_neg (by omega)]; exact hn,λb x l hx hl=>?_⟩⟩
 ·rw [Mem.zw] at hx;by_cases eb:b=m.next
  ·rw [eb,Ren.zB] at hl; cases hl; exact .inl hg
  ·rw [if_neg eb] at hx;rw [Ren.zk _ _ eb] at hl;exact .inr ⟨b,x,l,hx,hl,hr,rfl⟩
 ·rw [Mem.zw] at hx;by_cases eb:b=m.next
  ·rw [eb,Ren.zB] at hl; cases hl; exact .inl hg
  ·rw [if_neg eb] at hx;rw [Ren.zk _ _ eb] at hl;exact .inr ⟨b,x,l,hx,hl,rfl⟩
end Go.Fx
namespace Go.Fx.Tryz
open Go Go.Fx Go.Proofs Go.RowKit Go.Shelf
noncomputable abbrev KP:Program:=Tryz.prog
theorem qkO:KP.underlying 9=some TypeDesc.string:=by kernel_rfl
theorem qjp (m:Nat):AnyZ.SortsIn KP Tryz.Xi Fence.wide m :=
  ⟨λblk off cap ss W hH hblk hsz=>callsIn_wide.2 (AnyM.slices_Sort_string Tryz.qiE blk off cap ss W hH hblk hsz),
   λp cap W=>callsIn_wide.2 (AnyM.slices_Sort_string_none Tryz.qiE p cap W)⟩
abbrev qjo (l:List UInt8):Value:=.string ⟨l.toArray⟩
def Qv (l:List Value) (m:Mem):Option (Value × Mem):=match l with
 | [.func (.func K) ⟨[]⟩ ⟨[.pointer (some ⟨bx,0,none⟩)]⟩]=>match m.get bx with
  | some ⟨.cells [.map (some mb)] _,false,none⟩=>match m.get mb with
   | some ⟨.map es clock,_,_⟩=>match Xo es with
    | some ks=>if K=76/\es.length<=1000000/\ks.all (λk=>Nat.ble k.length 1000000)=true/\vF es clock=true/\yg eqB ks=true then
      (match ks with
       | []=>some (.slice none 0 0,m)
       | k::r=>some (.slice (some ⟨m.next,0,none⟩) (k::r).length (k::r).length,m.add ⟨.cells ((ya leb (k::r)).map qjo) 9,false,some 1⟩))
     else none
    | none=>none
   | _=>none
  | _=>none
 | _=>none
theorem VR.closure {φ:Go.Fx.Ren} {K:FuncId} {bx:Nat} {ARGS:Array Value} (h:VRs φ [.func (.func K) ⟨[]⟩ ⟨[.pointer (some ⟨bx,0,none⟩)]⟩] ARGS.toList) :
  ∃ l,φ bx=some l/\ARGS=#[.func (.func K) #[] #[.pointer (some ⟨l.blk,l.base+0,none⟩)]]:=by
 obtain ⟨A,rfl,hA⟩:=VRs.qlw h;cases hA with
 | func _ _ vs _ ys hu _ h1 hs =>
  obtain rfl:vs=#[]:=by
   have:vs.size=0:=hu.symm;exact Array.eq_empty_of_size_eq_zero this
  obtain ⟨ys⟩:=ys
  match ys,h1 with
  | [Y],_ =>
   have:=hs 0 _ Y rfl rfl;cases this with
   | ptr _ _ l hl=>exact ⟨l,hl,rfl⟩
theorem qaY (l:List (List UInt8)):(ya leb l).length=l.length:=(wC leb l).length_eq
set_option maxRecDepth 100000 in
theorem qfe {l:List Value} {m m':Mem} {v:Value} (h:Qv l m=some (v,m')) {φ:Go.Fx.Ren} {w:World} {ARGS:Array Value} (hi:Inv φ m w) (ha:VRs φ l ARGS.toList):vS KP φ m w 38 ARGS v m':=by
 unfold Qv at h;split at h
 rotate_left
 ·cases h
 rename_i K bx;split at h
 rotate_left
 ·cases h
 rename_i mb e hbx;split at h
 rotate_left
 ·cases h
 rename_i es clock ro lo hmb;split at h
 rotate_left
 ·cases h
 rename_i ks hks;split at h
 rotate_left
 ·cases h
 rename_i hc;obtain ⟨rfl,hlen,hkl,hborn,hnd⟩:=hc;have hkm:=Vo es ks hks;obtain ⟨lx,hlx,rfl⟩:=VR.closure ha;obtain ⟨lx',hlx',okx⟩:=hi.live bx _ hbx;rw [hlx] at hlx'; cases hlx'
 have hbase:lx.base=0:=okx.1.2 rfl rfl;obtain ⟨V,hV,rV⟩:=hi.load hbx hlx (off:=0) rfl;cases rV with
 | map _ lm hlm =>
 have hkls:ks.length=es.length:=by have:=congrArg List.length hkm; simpa using this.symm
 obtain ⟨D,hown,hperm⟩:=qdr (P:=KP) hi hmb hlm (k:=9) (λv=>match v with|.string s=>.string s.data.toList|_=>.bool false) (λx hx=>by
   have:x.key∈es.map (·.key):=List.mem_map.2 ⟨x,hx,rfl⟩;rw [hkm] at this;obtain ⟨q,hq,e⟩:=List.mem_map.1 this;have hq':=List.all_eq_true.1 hkl q hq;have hle:q.length<=1000000:=Nat.le_of_ble_eq_true hq';rw [<- e];have hs:(⟨q.toArray⟩:ByteArray).size<=maxLen:=by show q.toArray.size<=_; unfold maxLen; simp; omega
   simp [keyOf,qkO,mapKey,hs]) hlen hborn (by
   rw [hkm];refine List.pairwise_map.2 ((wJ qct _ hnd).imp λ{a b} hab e=>hab ?_);simpa using e)
 have hpk:(strKeys (.map D)).Perm ks:=by
  have h1:strKeys (.map D)=(D.map (·.1)).map Go.strOf:=by simp [strKeys]
  rw [h1];refine (hperm.map Go.strOf).trans ?_;have h2:((es.map λx=>(match x.key with|.string s=>Lit.string s.data.toList|_=>.bool false)).map Go.strOf)=ks:=by
   have e1:(es.map λx=>(match x.key with|.string s=>Lit.string s.data.toList|_=>.bool false))=(es.map (·.key)).map (λv=>match v with|.string s=>Lit.string s.data.toList|_=>.bool false):=by rw [List.map_map]; rfl
   rw [e1,hkm,List.map_map,List.map_map];refine (List.map_congr_left λx _=>?_).trans (List.map_id ks);simp [Go.strOf]
  rw [h2]
 have hsize:Maps.size (DataW.map D)=es.length:=by
  have:=hperm.length_eq;simp only [List.length_map] at this;exact this
 have hcell:w.cell? ⟨lx.blk,0,none⟩=some (.map (some lm.blk)):=by rw [<- hV,hbase]
 have hseq:SeqGives Fence.wide 2 KP 76 #[.pointer (some ⟨lx.blk,0,none⟩)] encStr (λss=>ss.Perm (strKeys (.map D))) (Maps.size (.map D)) w :=
  AnyZ.keys_gives (ρ:=Tryz.Vn) { Tryz.Xo with } Fence.wide _ trivial rfl (by omega) lx.blk lm.blk es.length (.map D) w (hi.jm hlx) hcell hown
 have cS:=AnyZ.sorted_in Tryz.qhz Fence.wide 5 trivial trivial trivial trivial rfl (by omega) (qjp _) (enters_of Tryz.func75 (by kernel_rfl) rfl) 76 #[.pointer (some ⟨lx.blk,0,none⟩)] trivial (enters_of Tryz.func76 (by kernel_rfl) rfl) _ _ (by rw [hsize]; unfold maxLen; omega) (by rw [hsize]; omega) _ hseq;have cC:=callsIn_wide.1 cS;have hA:(⟨lx.blk,lx.base+0,none⟩:Addr)=⟨lx.blk,0,none⟩:=by rw [hbase]
 rw [hA]
 match ks,h,hpk with
 | [],h,hpk =>
  cases h
  refine vn hi .sliceNil ?_;refine Calls.mono cC ?_
  rintro e w' ⟨v,ss,rfl,hS,hrow,hnil,hb⟩
  have:ss=[]:=by
   have:=(hS.trans hpk).length_eq;simpa using this
  rw [hnil.2 this];exact ⟨rfl,hb⟩
 | k::r,h,hpk =>
  cases h
  refine qbp (n:=(k::r).length) hi (by simp [Fx.plain]) ?_;refine Calls.mono cC ?_
  rintro e w' ⟨v,ss,rfl,hS,hrow,hnil,hb⟩
  have hp2:=hS.trans hpk;have hl2:ss.length=(k::r).length:=hp2.length_eq;rw [hl2,sortB_eq hp2] at hrow;rcases hrow.2 with ⟨_,h0⟩|⟨g,cap,cur,rfl,hbg,hgb,r1,r2,r3,r4⟩
  ·simp at h0
  ·exact ⟨g,cap,cur,rfl,hbg,hgb,r1,r3,by rw [r4],hb⟩
end Go.Fx.Tryz
namespace Go.Fx.Tryz
open Go Go.Fx Go.Proofs Go.RowKit
def S:zj:=λf l m=>if f=174 then Zs l m else if f=108 then qab l m else if f=132 then kX l m else if f=182 then qac l m else if f=38 then Qv l m else none
theorem Sok:CallOk P S:=by
 refine ⟨λf args m v m' hf h φ w ARGS hi ha=>?_,λN args m v m' h=>?_⟩
 ·unfold S at h;split at h
  ·rename_i e; subst e; exact qdu h hi ha
  split at h
  ·rename_i e; subst e; exact qhN h hi ha
  split at h
  ·rename_i e; subst e; exact qaT h hi ha
  split at h
  ·rename_i e; subst e; exact qhO h hi ha
  split at h
  ·rename_i e; subst e; exact qfe h hi ha
  cases h
 ·unfold S at h;rw [if_neg (qen N _ (by decide)),if_neg (qen N _ (by decide)),if_neg (qen N _ (by decide)),if_neg (qen N _ (by decide)),if_neg (qen N _ (by decide))] at h;cases h
theorem Sgood:∀ f args m r,f<yBase->S f args m=some r->zX P f=true:=by
 intro f args m r _ h;unfold S at h
 repeat' split at h
 all_goals first|(rename_i e; subst e; kernel_rfl)|cases h
end Go.Fx.Tryz
