/- Parts of a proof: FxW, FxStr, FxSt, HookE, ShelfR, HookR. Conditions: none. -/
import Derived.Shelf.Strings.Repeat
import Derived.Shelf.Strings.Trim
import Derived.Shelf.Strings.OnBuilder
import Derived.KernelRfl
import Derived.Test.YtnngjdfadfblmaaGreatDoorProg
import Derived.Test.YtnngjdfadfblmaaGreatDoorQt11
set_option linter.unusedSimpArgs false
set_option linter.unusedVariables false
namespace Go.Fx
open Go
def W (o:O) (Q:Value→Mem→Prop):Prop:=∃ v m,o=some (v,m)∧Q v m
theorem xI {v:Value} {m:Mem} {Q:Value→Mem→Prop}:W (some (v,m)) Q↔Q v m :=
 ⟨fun ⟨_,_,h,hq⟩=>by cases h; exact hq,fun h=>⟨v,m,rfl,h⟩⟩
theorem qo {o:O} {k:Value × Mem→O} {Q:Value→Mem→Prop}:W (o.bind k) Q↔W o fun v m=>W (k (v,m)) Q:=by
 cases o with
 | none=>exact ⟨fun ⟨_,_,h,_⟩=>(by cases h),fun ⟨_,_,h,_⟩=>(by cases h)⟩
 | some p=>exact ⟨fun h=>⟨p.1,p.2,rfl,h⟩,fun ⟨_,_,h,hq⟩=>(by cases h; exact hq)⟩
theorem qiY {m:Mem} {x:ABlk} {k:Value→Mem→O} {Q:Value→Mem→Prop}:W (nw m x k) Q↔W (k (.pointer (some ⟨m.next,0,none⟩)) (m.add x)) Q:=Iff.rfl
theorem qiH {m:Mem} {x:ABlk} {n:Nat} {k:Value→Mem→O} {Q:Value→Mem→Prop}:W (nws m x n k) Q↔W (k (.slice (some ⟨m.next,0,none⟩) n n) (m.add x)) Q:=Iff.rfl
theorem qhg {b:Nat} {m:Mem} {x:ABlk} {n:Option Nat} {k:Value→Mem→O} {Q:Value→Mem→Prop}:W (QQ b m x n k) Q↔W (k (qc b n) (m.put b x)) Q:=Iff.rfl
theorem W.mono {o:O} {Q R:Value→Mem→Prop} (h:W o Q) (hr:∀ v m,Q v m→R v m):W o R:=let ⟨v,m,e,q⟩:=h; ⟨v,m,e,hr v m q⟩
theorem W.bind {o:O} {k:Value × Mem→O} {Q R:Value→Mem→Prop} (h:W o Q) (hr:∀ v m,Q v m→W (k (v,m)) R):W (o.bind k) R:=qo.2 (h.mono hr)
theorem W.Qw {α:Type} {o:Option α} {a:α} {k:α→O} {R:Value→Mem→Prop} (h:o=some a) (hr:W (k a) R):W (o.bind k) R:=by subst h; exact hr
theorem W.of_eq {o o':O} {Q:Value→Mem→Prop} (h:o=o') (hw:W o' Q):W o Q:=h ▸ hw
theorem qdv (a b:O):cnd (.bool true) a b=a:=rfl
theorem qbQ (a b:O):cnd (.bool false) a b=b:=rfl
theorem qgJ (o:O) (m:Mem):gdo (.bool true) true o m=o:=rfl
theorem qgM (o:O) (m:Mem):gdo (.bool false) false o m=o:=rfl
theorem qgK (o:O) (m:Mem):gdo (.bool true) false o m=some (undef,m):=rfl
theorem qgL (o:O) (m:Mem):gdo (.bool false) true o m=some (undef,m):=rfl
theorem qhF (w:Bool) (o:O) (m:Mem):gdo undef w o m=some (undef,m):=by cases w<;>rfl
theorem qiI {ms:List Mem} {rq:List Rq} {o:O} {Q:Value→Mem→Prop}:W (chk ms rq o) Q↔rq.all (wA ms)=true∧W o Q:=by
 unfold chk
 split
 ·rename_i h; simp [h]
 ·rename_i h; exact ⟨fun ⟨_,_,h,_⟩=>(by cases h),fun ⟨h',_⟩=>absurd h' h⟩
theorem qgY (k:IntKind) (a b:Int):arith .lss (.int k a) (.int k b)=some (.bool (decide (a<b))):=by cases k<;>rfl
theorem qgZ (k:IntKind) (a b:Int):arith .leq (.int k a) (.int k b)=some (.bool (decide (a≤b))):=by cases k<;>rfl
theorem qha (k:IntKind) (a b:Int):arith .gtr (.int k a) (.int k b)=some (.bool (decide (b<a))):=by cases k<;>rfl
theorem qhb (k:IntKind) (a b:Int):arith .geq (.int k a) (.int k b)=some (.bool (decide (b≤a))):=by cases k<;>rfl
theorem ar_eql (k:IntKind) (a b:Int):arith .eql (.int k a) (.int k b)=some (.bool (decide (a=b))):=by cases k<;>simp [arith,iop]<;>rfl
theorem qgX (k:IntKind) (a b:Int):arith .neq (.int k a) (.int k b)=some (.bool (decide (¬ a=b))):=by
 cases k<;>simp only [arith,iop,if_true]<;>(congr 2; by_cases h:a=b<;>simp [h])
theorem qdC (k:IntKind) (a b:Int):arith .add (.int k a) (.int k b)=some (.int k (k.wrap (a+b))):=by cases k<;>rfl
theorem qgW (k:IntKind) (a b:Int):arith .sub (.int k a) (.int k b)=some (.int k (k.wrap (a - b))):=by cases k<;>rfl
theorem qdB (k:IntKind) (a b:Int):arith .mul (.int k a) (.int k b)=some (.int k (k.wrap (a * b))):=by cases k<;>rfl
theorem wrap64 {a:Int} (h0:-(2 ^ 63)≤a) (h1:a<2 ^ 63):IntKind.i64.wrap a=a:=qed h0 (by omega)
theorem qfm {k:IntKind} {a:Int} (hs:k.signed=false) (h0:0≤a) (h1:a<2 ^ k.bits):k.wrap a=a:=by
 simp only [IntKind.wrap,hs,Bool.false_and,Bool.false_eq_true,if_false]
 exact Int.emod_eq_of_lt h0 h1
theorem Kd {a:Int} (h0:0≤a) (h1:a<2 ^ 64):IntKind.u64.wrap a=a:=qfm rfl h0 h1
theorem qgz {a:Int} (h0:0≤a) (h1:a<2 ^ 8):IntKind.u8.wrap a=a:=qfm rfl h0 h1
theorem KU {a b:Int} (h0:-(2 ^ 63)≤a+b) (h1:a+b<2 ^ 63):arith .add (.int .i64 a) (.int .i64 b)=some (.int .i64 (a+b)):=by rw [qdC,wrap64 h0 h1]
theorem zS {a b:Int} (h0:-(2 ^ 63)≤a - b) (h1:a - b<2 ^ 63):arith .sub (.int .i64 a) (.int .i64 b)=some (.int .i64 (a - b)):=by rw [qgW,wrap64 h0 h1]
theorem qE {i:Nat} (h:i<2 ^ 62):arith .add (.int .i64 (i:Int)) (.int .i64 1)=some (.int .i64 ((i+1:Nat):Int)):=by rw [KU (by omega) (by omega)]; simp
theorem qcW {i j:Nat} (h:i+j<2 ^ 62):arith .add (.int .i64 (i:Int)) (.int .i64 (j:Int))=some (.int .i64 ((i+j:Nat):Int)):=by rw [KU (by omega) (by omega)]; simp
theorem WN {a:Int} (k:IntKind) (h0:0≤a) (h1:a<2 ^ 64):zs .u64 (.int k a)=some (.int .u64 a):=by simp only [zs,Kd h0 h1]
theorem Qv {a:Int} (k:IntKind) (h0:-(2 ^ 63)≤a) (h1:a<2 ^ 63):zs .i64 (.int k a)=some (.int .i64 a):=by simp only [zs,wrap64 h0 h1]
theorem qgA (b:Bool):zt .not (.bool b)=some (.bool !b):=rfl
theorem qeh (p:Prop) [Decidable p]:zt .not (.bool (decide p))=some (.bool (decide (¬ p))):=by by_cases h:p<;>simp [h,zt]
theorem qiE (b:Bool):asB (.bool b)=some b:=rfl
theorem qhy (k:IntKind) (a b:Int):jD max2 (.int k a) [.int k b]=some (.int k (if b > a then b else a)):=rfl
theorem qhx (k:IntKind) (a b:Int):jD min2 (.int k a) [.int k b]=some (.int k (if b<a then b else a)):=rfl
theorem Upd.qbX {fp:List Nat} {m m':Mem} (h:Upd fp m m') (x:ABlk):Upd fp m (m'.add x):=h.trans (Upd.add _ _ _)
theorem Upd.jL {fp:List Nat} {m m':Mem} (h:Upd fp m m') {b:Nat} (x:ABlk) (hb:b∈fp∨m.next≤b):Upd fp m (m'.put b x) :=
 ⟨h.next,fun c hc hn=>by rw [Mem.zh,if_neg (by rintro rfl; exact hb.elim hn (fun h=>by omega))]; exact h.same c hc hn⟩
theorem Upd.then' {fp gp:List Nat} {m m' m'':Mem} (h:Upd fp m m') (h':Upd gp m' m'') (hs:∀ b∈gp,b∈fp∨m.next≤b):Upd fp m m'':=h.QD h' hs
theorem Upd.nil' {fp:List Nat} {m m':Mem} (h:Upd [] m m'):Upd fp m m':=h.mono (fun b hb=>by simp at hb)
theorem Upd.qD {fp:List Nat} {m m' m'':Mem} (h:Upd fp m m') (h':Upd [] m' m''):Upd fp m m'':=h.QD h' (fun b hb=>by simp at hb)
def TAp {α:Type} (E:Enc α) (e:TypeId) (m:Mem) (v:Value) (l:List α):Prop :=
 (v=.slice none 0 0∧l=[])∨∃ b cap rest lo,v=.slice (some ⟨b,0,none⟩) l.length cap∧b<m.next∧m.get b=some ⟨.cells (E.flat l++rest) e,false,lo⟩∧(lo=none∨lo=some E.size)∧rest.length=(cap - l.length) * E.size∧l.length≤cap
section
variable {α:Type} {E:Enc α} {e:TypeId}
theorem TAp.nil (m:Mem):TAp E e m (.slice none 0 0) []:=.inl ⟨rfl,rfl⟩
theorem TAp.tsl {m:Mem} {v:Value} {l:List α} (h:TAp E e m v l):TSl E m v l:=by
 rcases h with ⟨rfl,rfl⟩|⟨b,cap,rest,lo,rfl,hb,hg,hlo,hr,hc⟩
 ·exact TSl.nil m
 ·exact ⟨E.zf l,.inr ⟨b,0,cap,rfl,hc,.inr ⟨_,zN hg,by rw [List.length_append,E.zf]; omega,by rw [List.drop_zero,← E.zf,List.take_left']; rfl⟩⟩⟩
theorem TAp.lt {m:Mem} {v:Value} {l:List α} (h:TAp E e m v l):∀ b∈qe v,b<m.next:=by
 rcases h with ⟨rfl,rfl⟩|⟨b,cap,rest,lo,rfl,hb,_⟩
 ·intro c hc; simp [qe] at hc
 ·intro c hc; simp [qe] at hc; subst hc; exact hb
theorem TAp.upd {fp:List Nat} {m m':Mem} {v:Value} {l:List α} (h:TAp E e m v l) (hu:Upd fp m m') (hk:∀ b∈qe v,b∉fp):TAp E e m' v l:=by
 rcases h with h|⟨b,cap,rest,lo,rfl,hb,hg,hlo,hr,hc⟩
 ·exact .inl h
 ·exact .inr ⟨b,cap,rest,lo,rfl,Nat.lt_of_lt_of_le hb hu.next,by rw [hu.same b hb (hk b (by simp [qe]))]; exact hg,hlo,hr,hc⟩
theorem TAp.qt {m m':Mem} {v:Value} {l:List α} (h:TAp E e m v l) (hu:Upd [] m m'):TAp E e m' v l:=h.upd hu (fun b _ hb=>by simp at hb)
theorem TAp.one {m:Mem} {v:Value} {l:List α} (h:TAp E e m v l):v.cells=#[v]∧v.oneCell'=true:=by
 rcases h with ⟨rfl,rfl⟩|⟨b,cap,rest,lo,rfl,_⟩<;>exact ⟨rfl,rfl⟩
theorem TAp.fresh (m:Mem) (l:List α):TAp E e (m.add ⟨.cells (E.flat l) e,false,none⟩) (.slice (some ⟨m.next,0,none⟩) l.length l.length) l :=
 .inr ⟨m.next,l.length,[],none,rfl,by simp,by rw [Mem.qk]; simp,.inl rfl,by simp,Nat.le_refl _⟩
theorem TAp.append {m:Mem} {v:Value} {l k:List α} {eb:Nat} (hs:0<E.size) (h:TAp E e m v l) (hb:(l.length+k.length) * eb≤2 ^ 47) (hn:l.length+k.length≤2 ^ 47) :
  ∃ v' m',qC e E.size eb v k.length (E.flat k) m=some (v',m')∧TAp E e m' v' (l++k)∧Upd (qe v) m m'∧∀ b∈qe v',b∈qe v∨m.next≤b:=by
 have hE:=E.zf k
 have hA:=E.vN k
 rcases h with ⟨rfl,rfl⟩|⟨b,cap,rest,lo,rfl,hbl,hg,hlo,hr,hc⟩
 ·have hc0:¬ ¬ ((0+k.length) * eb≤2 ^ 47∧(0+k.length)≤2 ^ 47∧(E.flat k).length=k.length * E.size∧(E.flat k).all (·.oneCell')=true):=by
   simp only [List.length_nil] at hb hn
   simp only [Decidable.not_not]; exact ⟨hb,hn,hE,hA⟩
  by_cases hk0:k=[]
  ·subst hk0
   exact ⟨.slice none 0 0,m,by simp only [qC,if_neg hc0]; rfl,TAp.nil m,Upd.refl _ _,fun b hb=>by simp [qe] at hb⟩
  ·have hk1:k.length≠0:=by simpa using hk0
   refine ⟨.slice (some ⟨m.next,0,none⟩) k.length k.length,m.add ⟨.cells (E.flat k) e,false,some E.size⟩,?_,.inr ⟨m.next,k.length,[],some E.size,by simp,by simp,by rw [Mem.qk]; simp,.inr rfl,by simp,by simp⟩,Upd.add _ _ _,fun b hb=>by simp [qe] at hb; exact .inr (by omega)⟩
   have hk':¬ (0+k.length≤0):=by omega
   simp only [qC,if_neg hc0,if_neg hk',and_self,if_true]
 ·have hc0:¬ ¬ ((l.length+k.length) * eb≤2 ^ 47∧(l.length+k.length)≤2 ^ 47∧(E.flat k).length=k.length * E.size∧(E.flat k).all (·.oneCell')=true):=by
   simp only [Decidable.not_not]; exact ⟨hb,hn,hE,hA⟩
  by_cases hfit:l.length+k.length≤cap
  ·by_cases hz:k.length * E.size=0
   ·have:k=[]:=by
     rcases Nat.mul_eq_zero.1 hz with h|h
     ·simpa using h
     ·omega
    subst this
    refine ⟨.slice (some ⟨b,0,none⟩) (l.length+0) cap,m,?_,.inr ⟨b,cap,rest,lo,by simp,hbl,by simpa using hg,hlo,by simpa using hr,by simpa using hc⟩,Upd.refl _ _,fun c hc=>.inl hc⟩
    simp only [List.length_nil] at hc0 hfit hz
    simp only [qC,List.length_nil,if_neg hc0,if_pos hfit,if_pos hz]
   ·have hle:k.length * E.size≤(cap - l.length) * E.size:=Nat.mul_le_mul_right _ (by omega)
    have hlen:0+(l.length+k.length) * E.size≤(E.flat l++rest).length:=by rw [List.length_append,E.zf,hr,Nat.add_mul]; omega
    have hset:qP (E.flat l++rest) (0+l.length * E.size) (E.flat k)=E.flat (l++k)++rest.drop (k.length * E.size):=by
     have:=xe (E.flat l) (rest.take (k.length * E.size)) (rest.drop (k.length * E.size)) (E.flat k) (by rw [List.length_take,hE,hr]; omega)
     rw [List.take_append_drop,E.zf] at this
     rw [Nat.zero_add,this,E.xM,List.append_assoc]
    refine ⟨.slice (some ⟨b,0,none⟩) (l.length+k.length) cap,m.put b ⟨.cells (E.flat (l++k)++rest.drop (k.length * E.size)) e,false,lo⟩,?_,.inr ⟨b,cap,rest.drop (k.length * E.size),lo,by simp,hbl,by rw [Mem.qj],hlo,?_,by simp; omega⟩,Upd.put _ _ (by simp [qe]),fun c hc=>.inl hc⟩
    ·have how:m.jt b=some (E.flat l++rest,e,lo):=by simp [Mem.jt,hg]
     have hcap:cap≠0:=by
      rintro rfl
      have:k.length=0:=by omega
      rw [this] at hz; simp at hz
     simp only [qC,if_neg hc0,if_pos hfit,if_neg hz,how,Option.bind_some]
     rw [if_pos ⟨hlen,hcap⟩,hset]
    ·rw [List.length_drop,hr,List.length_append,← Nat.sub_sub,Nat.sub_mul (cap - l.length)]
  ·have hle:0+l.length * E.size≤(E.flat l++rest).length:=by rw [List.length_append,E.zf]; omega
   have hpre:((E.flat l++rest).drop 0).take (l.length * E.size)=E.flat l:=by rw [List.drop_zero,← E.zf,List.take_left']; rfl
   rcases hlo with rfl|rfl
   ·refine ⟨.slice (some ⟨m.next,0,none⟩) (l.length+k.length) (l.length+k.length),m.add ⟨.cells (E.flat (l++k)) e,false,some E.size⟩,?_,.inr ⟨m.next,l.length+k.length,[],some E.size,by simp,by simp,by rw [Mem.qk]; simp,.inr rfl,by simp,by simp⟩,Upd.add _ _ _,fun c hc=>by simp [qe] at hc; exact .inr (by omega)⟩
    simp only [qC,if_neg hc0,if_neg hfit,hg,hpre,hle,if_true,E.xM]
   ·refine ⟨.slice (some ⟨m.next,0,none⟩) (l.length+k.length) (l.length+k.length),(m.kill b).add ⟨.cells (E.flat (l++k)) e,false,some E.size⟩,?_,.inr ⟨m.next,l.length+k.length,[],some E.size,by simp,by simp,by rw [Mem.zA,Mem.xU,if_pos rfl]; simp,.inr rfl,by simp,by simp⟩,(Upd.kill (fp:=[b]) m (by simp)).trans (Upd.add _ _ _),fun c hc=>by simp [qe] at hc; exact .inr (by omega)⟩
    simp only [qC,if_neg hc0,if_neg hfit,hg,hpre,hle,hc,and_self,if_true,E.xM]
end
theorem TAp.from {α:Type} {E:Enc α} {e:TypeId} {m:Mem} {v:Value} {l:List α} (h:TAp E e m v l) {k:Nat} (hk:k≤l.length) :
  ∃ v',(∀ m',(∀ b∈qe v,m'.get b=m.get b)→qz E.size v (some (.int .i64 (k:Int))) none m'=some v')∧TSl E m v' (l.drop k)∧qe v'=qe v:=by
 rcases h with ⟨rfl,rfl⟩|⟨b,cap,rest,lo,rfl,hb,hg,hlo,hr,hc⟩
 ·obtain rfl:k=0:=by simpa using hk
  exact ⟨.slice none 0 0,fun m' _=>by simp [qz,zw,xy],TSl.nil m,rfl⟩
 ·have hkn:m.known b=.exact∨m.known b=.loose E.size:=by
   rcases hlo with rfl|rfl
   ·left; simp [Mem.known,hg]
   ·right; simp [Mem.known,hg]
  refine ⟨.slice (some ⟨b,if cap=k then 0 else 0+k * E.size,none⟩) (l.length - k) (cap - k),fun m' hm'=>?_,⟨E.zf _,.inr ⟨b,_,cap - k,by rw [List.length_drop],by rw [List.length_drop]; omega,?_⟩⟩,by simp [qe]⟩
  ·have hbd:zw l.length cap (some (.int .i64 (k:Int))) none=some (k,l.length):=by
    have:(0:Int)≤(k:Int)∧(k:Int)≤(l.length:Int):=by omega
    simp only [zw,xy,Option.bind_some,if_pos this,Option.map_some]
    simp
   have hkn':m'.known b=m.known b:=by simp only [Mem.known]; rw [hm' b (by simp [qe])]
   simp only [qz,hbd,Option.bind_some,hkn']
   rw [if_pos (.inr hkn)]
  ·by_cases h0:l.length - k=0
   ·left; rw [List.length_drop]; exact h0
   ·right
    have hck:¬ cap=k:=by omega
    rw [if_neg hck]
    refine ⟨_,zN hg,?_,?_⟩
    ·rw [List.length_append,E.zf,List.length_drop,Nat.zero_add,← Nat.add_mul]
     have:(k+(l.length - k))=l.length:=by omega
     rw [this]; omega
    ·rw [Nat.zero_add,List.length_drop,List.drop_append,E.vM,E.zf,Nat.sub_eq_zero_of_le (Nat.mul_le_mul_right _ hk),List.drop_zero]
     have:(l.length - k) * E.size=(E.flat (l.drop k)).length:=by rw [E.zf,List.length_drop]
     rw [this,List.take_left']
     rfl
theorem TSl.VH {α:Type} {E:Enc α} {m:Mem} {v:Value} {l:List α} (h:TSl E m v l) {k:Nat} (hk:k≤l.length) :
  ∃ v',(∀ m',qz E.size v none (some (.int .i64 (k:Int))) m'=some v')∧TSl E m v' (l.take k)∧qe v'=qe v:=by
 obtain ⟨v',h1,h2,h3⟩:=h.qcj hk
 refine ⟨v',fun m'=>?_,h2,h3⟩
 rw [← h1]
 obtain ⟨_,⟨rfl,_⟩|⟨b,off,cap,rfl,hc,_⟩⟩:=h
 ·rfl
 ·have:(0:Int)≤(k:Int)∧(k:Int)≤(cap:Int):=by omega
  simp only [qz,zw,xy,Option.bind_some,if_pos this,Option.map_some,true_or,if_true]
end Go.Fx
namespace Go.Fx
open Go
abbrev str (l:List UInt8):Value:=.string ⟨l.toArray⟩
theorem str_eta (s:ByteArray):Value.string s=str s.data.toList:=by
 cases s with
 | mk d=>simp [str]
def xZ:Enc UInt8:=⟨1,fun b=>[.int .u8 b.toNat],fun _=>rfl,fun _=>rfl⟩
theorem QU:xZ.size=1:=rfl
def zi:Enc (List UInt8):=⟨1,fun l=>[str l],fun _=>rfl,fun _=>rfl⟩
theorem zy (l:List UInt8):qW (str l)=some (.int .i64 l.length):=by simp [qW,str,ByteArray.size]
theorem HH (l:List UInt8) (m:Mem):qN 1 (str l) m=some (l.length,xZ.flat l):=by
 simp only [qN,str,ByteArray.size,List.size_toArray]
 congr 2
 simp only [Enc.flat,xZ]
 induction l with
 | nil=>rfl
 | cons a l ih=>simp at ih ⊢; exact ih
theorem ZI {l:List UInt8} {i:Nat} {b:UInt8} (h:l[i]? = some b):zz (str l) (.int .i64 (i:Int))=some (.int .u8 b.toNat):=by
 have hs:(⟨l.toArray⟩:ByteArray)[i]? = some b:=by
  have hi:i<l.length:=by
   rcases Nat.lt_or_ge i l.length with h'|h'
   ·exact h'
   ·rw [List.getElem?_eq_none h'] at h; cases h
  rw [getElem?_pos (⟨l.toArray⟩:ByteArray) i (by simpa [ByteArray.size] using hi)]
  rw [List.getElem?_eq_getElem hi] at h
  simpa [ByteArray.getElem_eq_getElem_data] using h
 simp only [zz,str]
 rw [if_pos (by omega),Int.toNat_natCast,hs]
 rfl
theorem wv {l:List UInt8} {a:Nat} (ha:a≤l.length) (ka:IntKind):zH (str l) (some (.int ka (a:Int))) none=some (str (l.drop a)):=by
 have h2:(0:Int)≤(a:Int)∧(a:Int)≤((⟨l.toArray⟩:ByteArray).size:Int):=by simp [ByteArray.size]; omega
 simp only [zH,zw,xy,Option.bind_some,Int.toNat_natCast,if_pos h2,Option.map_some]
 congr 1
 simp only [str,ByteArray.size,List.size_toArray]
 rw [List.take_of_length_le (by simp)]
theorem wu {l:List UInt8} {b:Nat} (hb:b≤l.length) (kb:IntKind):zH (str l) none (some (.int kb (b:Int)))=some (str (l.take b)):=by
 have h1:(0:Int)≤(b:Int)∧(b:Int)≤((⟨l.toArray⟩:ByteArray).size:Int):=by simp [ByteArray.size]; omega
 simp only [zH,zw,xy,if_pos h1,Option.bind_some,Int.toNat_natCast,Option.map_some]
 simp [str]
theorem qfc {a b:List UInt8} (h:a.length+b.length<2 ^ 62):arith .add (str a) (str b)=some (str (a++b)):=by
 have hs:¬ ((((⟨a.toArray⟩:ByteArray).size+(⟨b.toArray⟩:ByteArray).size:Nat):Int) > IntKind.i64.max):=by
  have:IntKind.i64.max=9223372036854775807:=rfl
  simp only [ByteArray.size,List.size_toArray,this]
  omega
 show sop .add _ _=_
 simp only [sop,if_neg hs]
 congr 2
theorem wa (a b:List UInt8):arith .eql (str a) (str b)=some (.bool (decide (a=b))):=by
 show sop .eql _ _=_
 simp only [sop]
 congr 2
 by_cases h:a=b<;>simp [h]
theorem ZH (a b:List UInt8):arith .neq (str a) (str b)=some (.bool (decide (¬ a=b))):=by
 show sop .neq _ _=_
 simp only [sop]
 congr 2
 by_cases h:a=b<;>simp [h]
theorem ZY:∀ l:List UInt8,jP (xZ.flat l)=some l
 | []=>rfl
 | b::l=>by
  rw [xZ.jE]
  show jP (.int .u8 b.toNat::xZ.flat l)=_
  simp only [jP,ZY l,Option.map_some]
  congr 2
  simp
theorem qdA {m:Mem} {v:Value} {l:List UInt8} (h:TSl xZ m v l):jr v m=some (str l):=by
 obtain ⟨_,⟨rfl,h0⟩|⟨b,off,cap,rfl,hc,h3⟩⟩:=h
 ·have:l=[]:=by simpa using h0
  subst this; rfl
 ·rcases h3 with h3|⟨c,h4,h5,h6⟩
  ·have:l=[]:=by simpa using h3
   subst this; simp [jr]; rfl
  ·by_cases h0:l.length=0
   ·have:l=[]:=by simpa using h0
    subst this; simp [jr]; rfl
   ·have h7:(c.drop off).take l.length=xZ.flat l:=by rw [h6,QU,Nat.mul_one]
    have h8:off+l.length≤c.length:=by rw [QU,Nat.mul_one] at h5; exact h5
    simp only [jr,if_neg h0,h4,Option.bind_some,if_pos h8,h7,ZY,Option.map_some]
theorem zU {α:Type} {E:Enc α} {e e':TypeId} {m:Mem} {v:Value} {l:List α} {eb:Nat} (k:List α) (hs:0<E.size) (h:TAp E e m v l) (hn:(l.length+k.length) * (eb+1)≤2 ^ 47) {K:Value × Mem→O} {Q:Value→Mem→Prop}
  (hK:∀ v' m',TAp E e m' v' (l++k)→Upd (qe v) m m'→(∀ b∈qe v',b∈qe v∨m.next≤b)→W (K (v',m')) Q) :
  W ((qN E.size (.slice (some ⟨m.next,0,none⟩) k.length k.length) (m.add ⟨.cells (E.flat k) e',false,none⟩)).bind fun p=>(qC e E.size eb v p.1 p.2 (m.add ⟨.cells (E.flat k) e',false,none⟩)).bind K) Q:=by
 have hsrc:qN E.size (.slice (some ⟨m.next,0,none⟩) k.length k.length) (m.add ⟨.cells (E.flat k) e',false,none⟩)=some (k.length,E.flat k):=(TAp.fresh (E:=E) (e:=e') m k).tsl.src
 rw [hsrc]
 have h1:(l.length+k.length) * eb≤(l.length+k.length) * (eb+1):=Nat.mul_le_mul_left _ (by omega)
 have h2:l.length+k.length≤(l.length+k.length) * (eb+1):=Nat.le_mul_of_pos_right _ (by omega)
 obtain ⟨v',m',h1,h2,h3,h4⟩:=(h.qt (Upd.add [] m ⟨.cells (E.flat k) e',false,none⟩)).append (k:=k) (eb:=eb) hs (by omega) (by omega)
 refine W.Qw rfl (W.Qw h1 (hK v' m' h2 (((Upd.add [] m _).nil').trans h3) fun b hb=>?_))
 rcases h4 b hb with h|h
 ·exact .inl h
 ·exact .inr (by simp at h; omega)
theorem ki {α:Type} {E:Enc α} {e:TypeId} {m:Mem} {v x:Value} {l:List α} {eb:Nat} (k:List α) (hs:0<E.size) (h:TAp E e m v l) (hx:qN E.size x m=some (k.length,E.flat k)) (hn:(l.length+k.length) * (eb+1)≤2 ^ 47) {K:Value × Mem→O} {Q:Value→Mem→Prop}
  (hK:∀ v' m',TAp E e m' v' (l++k)→Upd (qe v) m m'→(∀ b∈qe v',b∈qe v∨m.next≤b)→W (K (v',m')) Q) :
  W ((qN E.size x m).bind fun p=>(qC e E.size eb v p.1 p.2 m).bind K) Q:=by
 rw [hx]
 have h1:(l.length+k.length) * eb≤(l.length+k.length) * (eb+1):=Nat.mul_le_mul_left _ (by omega)
 have h2:l.length+k.length≤(l.length+k.length) * (eb+1):=Nat.le_mul_of_pos_right _ (by omega)
 obtain ⟨v',m',h1,h2,h3,h4⟩:=h.append (k:=k) (eb:=eb) hs (by omega) (by omega)
 exact W.Qw rfl (W.Qw h1 (hK v' m' h2 h3 h4))
end Go.Fx
namespace Go.Fx
open Go
theorem st0:(∀ {α β:Type} (a:α) (f:α→Option β),(some a).bind f=f a) ∧
  (∀ {v:Value} {m:Mem} {Q:Value→Mem→Prop},W (some (v,m)) Q↔Q v m) ∧
  (∀ {m:Mem} {x:ABlk} {k:Value→Mem→O} {Q:Value→Mem→Prop},W (nw m x k) Q↔W (k (.pointer (some ⟨m.next,0,none⟩)) (m.add x)) Q) ∧
  (∀ {m:Mem} {x:ABlk} {n:Nat} {k:Value→Mem→O} {Q:Value→Mem→Prop},W (nws m x n k) Q↔W (k (.slice (some ⟨m.next,0,none⟩) n n) (m.add x)) Q) ∧
  (∀ {b:Nat} {m:Mem} {x:ABlk} {n:Option Nat} {k:Value→Mem→O} {Q:Value→Mem→Prop},W (QQ b m x n k) Q↔W (k (qc b n) (m.put b x)) Q) ∧
  (∀ a b:O,cnd (.bool true) a b=a)∧(∀ a b:O,cnd (.bool false) a b=b) ∧
  (∀ (o:O) (m:Mem),gdo (.bool true) true o m=o)∧(∀ (o:O) (m:Mem),gdo (.bool false) false o m=o) ∧
  (∀ (o:O) (m:Mem),gdo (.bool true) false o m=some (undef,m))∧(∀ (o:O) (m:Mem),gdo (.bool false) true o m=some (undef,m)) ∧
  (∀ (w:Bool) (o:O) (m:Mem),gdo undef w o m=some (undef,m)) ∧
  (∀ (k:IntKind) (a b:Int),arith .lss (.int k a) (.int k b)=some (.bool (decide (a<b)))) ∧
  (∀ (k:IntKind) (a b:Int),arith .leq (.int k a) (.int k b)=some (.bool (decide (a≤b)))) ∧
  (∀ (k:IntKind) (a b:Int),arith .gtr (.int k a) (.int k b)=some (.bool (decide (b<a)))) ∧
  (∀ (k:IntKind) (a b:Int),arith .geq (.int k a) (.int k b)=some (.bool (decide (b≤a)))) ∧
  (∀ (k:IntKind) (a b:Int),arith .eql (.int k a) (.int k b)=some (.bool (decide (a=b)))) ∧
  (∀ (k:IntKind) (a b:Int),arith .neq (.int k a) (.int k b)=some (.bool (decide (¬ a=b)))) ∧
  (∀ b:Bool,asB (.bool b)=some b)∧(∀ b:Bool,zt .not (.bool b)=some (.bool !b)) ∧
  (∀ (p:Prop) [Decidable p],zt .not (.bool (decide p))=some (.bool (decide (¬ p)))) ∧
  (∀ (k:IntKind) (a b:Int),jD max2 (.int k a) [.int k b]=some (.int k (if b > a then b else a))) ∧
  (∀ (k:IntKind) (a b:Int),jD min2 (.int k a) [.int k b]=some (.int k (if b<a then b else a))) ∧
  ((!true)=false)∧((!false)=true)∧(∀ h:Decidable True,@decide True h=true)∧(∀ h:Decidable False,@decide False h=false) ∧
  (∀ {p:Prop} [Decidable p] [Decidable (¬ p)],decide (¬ p)=!decide p) ∧
  (∀ {α:Type} {h:Decidable True} (t e:α),@ite α True h t e=t)∧(∀ {α:Type} {h:Decidable False} (t e:α),@ite α False h t e=e) ∧
  ((false=true)=False)∧((¬ True)=False)∧((¬ False)=True)∧((true=false)=False) :=
 ⟨Option.bind_some,xI,qiY,qiH,qhg,qdv,qbQ,qgJ,qgM,qgK,qgL,qhF,qgY,qgZ,qha,qhb,ar_eql,qgX,qiE,qgA,qeh,qhy,qhx,Bool.not_true,Bool.not_false,fun _=>decide_true _,fun _=>decide_false _,decide_not,if_true,if_false,Bool.false_eq_true,not_true_eq_false,not_false_eq_true,Bool.true_eq_false⟩
end Go.Fx
namespace Go.Fx.Tryz
open Go Go.Fx
def kD (l:List Value) (m:Mem):Option (Value × Mem):=match l with
 | [.slice a n c,.int .i64 i,.slice (some ⟨vb,voff,none⟩) 1 vc] =>
  if i=(n:Int) then (qz 2 (.slice a n c) (some (.int .i64 i)) none m).bind fun _=>(qN 2 (.slice (some ⟨vb,voff,none⟩) 1 vc) m).bind fun p=>qC 61 2 32 (.slice a n c) p.1 p.2 m
  else ZK l m
 | _=>none
theorem YV {l:List Value} {m m':Mem} {v:Value} (h:kD l m=some (v,m')) {φ:Go.Fx.Ren} {w:World} {ARGS:Array Value} (hi:Inv φ m w) (ha:VRs φ l ARGS.toList):wQ P φ m w 124 ARGS v m':=by
 unfold kD at h
 split at h
 rotate_left
 ·cases h
 rename_i a n c i vb voff vc
 split at h
 ·rename_i hin
  subst hin
  simp only [Option.bind_eq_some_iff] at h
  obtain ⟨q,hq,p,hp,h⟩:=h
  have hcall:Call noS tab 124 [.slice a n c,.int .i64 n,.slice (some ⟨vb,voff,none⟩) 1 vc] m=some (v,m'):=by
   have e1:qd (.slice (some ⟨vb,voff,none⟩) 1 vc)=some (.int .i64 1):=rfl
   have e2:decide ((1:Int)=0)=false:=rfl
   have e3:decide ((n:Int)=(n:Int))=true:=by simp
   have hlen:qd (.slice a n c)=some (.int .i64 n):=rfl
   rw [qjH noS (fun _ _=>rfl)]
   simp -implicitDefEqProofs only [st0,qc,reduceIte,hq,e1,e2,hlen,e3,hp,h]
  obtain ⟨N,hN⟩:=vm.1 hcall
  exact (Xi mixed (qgH P) qcF tabOk tabGood N).fn _ _ m v m' (by decide) hN φ w ARGS hi ha
 ·exact qbg h hi ha
end Go.Fx.Tryz
namespace Go.Proofs
open Go.Shelf
def Tryz.Zj:Go.Shelf.Ren:=⟨fun|105=>68|212=>115|99=>116|165=>117|166=>118|170=>119|169=>120|263=>163|264=>164|206=>165|240=>166|241=>167|276=>208|277=>209|n=>n,fun|9=>9|3=>3|4=>4|20=>20|0=>0|46=>37|109=>189|5=>5|72=>193|76=>196|51=>252|146=>253|53=>131|148=>255|70=>191|37=>128|75=>195|127=>257|164=>293|80=>198|n=>n,fun|n=>n⟩
theorem Tryz.qeF:Go.Proofs.Lays.n105 Tryz.prog Tryz.Zj:={
 mixed:=by kernel_rfl
 f99:=Tryz.func116.trans (congrArg some (by kernel_rfl))
 f105:=Tryz.func68.trans (congrArg some (by kernel_rfl))
 f165:=Tryz.func117.trans (congrArg some (by kernel_rfl))
 f166:=Tryz.func118.trans (congrArg some (by kernel_rfl))
 f169:=Tryz.func120.trans (congrArg some (by kernel_rfl))
 f170:=Tryz.func119.trans (congrArg some (by kernel_rfl))
 f206:=Tryz.func165.trans (congrArg some (by kernel_rfl))
 f212:=Tryz.func115.trans (congrArg some (by kernel_rfl))
 f240:=Tryz.func166.trans (congrArg some (by kernel_rfl))
 f241:=Tryz.func167.trans (congrArg some (by kernel_rfl))
 f263:=Tryz.func163.trans (congrArg some (by kernel_rfl))
 f264:=Tryz.func164.trans (congrArg some (by kernel_rfl))
 f276:=Tryz.func208.trans (congrArg some (by kernel_rfl))
 f277:=Tryz.func209.trans (congrArg some (by kernel_rfl))
 t0:=Tryz.underlying0
 a0:=Tryz.isAgg0
 z0:=Tryz.sizeOf0
 v0:=Tryz.zeroValue0
 t3:=Tryz.underlying3
 a3:=Tryz.isAgg3
 z3:=Tryz.sizeOf3
 v3:=Tryz.zeroValue3
 t4:=Tryz.underlying4
 a4:=Tryz.isAgg4
 z4:=Tryz.sizeOf4
 v4:=Tryz.zeroValue4
 t5:=Tryz.underlying5
 a5:=Tryz.isAgg5
 z5:=Tryz.sizeOf5
 v5:=Tryz.zeroValue5
 t9:=Tryz.underlying9
 a9:=Tryz.isAgg9
 z9:=Tryz.sizeOf9
 v9:=Tryz.zeroValue9
 t20:=Tryz.underlying20
 a20:=Tryz.isAgg20
 z20:=Tryz.sizeOf20
 v20:=Tryz.zeroValue20
 t37:=Tryz.underlying128
 a37:=Tryz.isAgg128
 z37:=Tryz.sizeOf128
 v37:=Tryz.zeroValue128
 t46:=Tryz.underlying37
 a46:=Tryz.isAgg37
 z46:=Tryz.sizeOf37
 v46:=Tryz.zeroValue37
 t51:=Tryz.underlying252
 a51:=Tryz.isAgg252
 z51:=Tryz.sizeOf252
 v51:=Tryz.zeroValue252
 t53:=Tryz.underlying131
 a53:=Tryz.isAgg131
 z53:=Tryz.sizeOf131
 v53:=Tryz.zeroValue131
 t70:=Tryz.underlying191
 a70:=Tryz.isAgg191
 z70:=Tryz.sizeOf191
 v70:=Tryz.zeroValue191
 t72:=Tryz.underlying193
 a72:=Tryz.isAgg193
 z72:=Tryz.sizeOf193
 v72:=Tryz.zeroValue193
 t75:=Tryz.underlying195
 a75:=Tryz.isAgg195
 z75:=Tryz.sizeOf195
 v75:=Tryz.zeroValue195
 t76:=Tryz.underlying196
 a76:=Tryz.isAgg196
 z76:=Tryz.sizeOf196
 v76:=Tryz.zeroValue196
 t109:=Tryz.underlying189
 a109:=Tryz.isAgg189
 z109:=Tryz.sizeOf189
 v109:=Tryz.zeroValue189
 t127:=Tryz.underlying257
 a127:=Tryz.isAgg257
 z127:=Tryz.sizeOf257
 v127:=Tryz.zeroValue257
 t146:=Tryz.underlying253
 a146:=Tryz.isAgg253
 z146:=Tryz.sizeOf253
 v146:=Tryz.zeroValue253
 t148:=Tryz.underlying255
 a148:=Tryz.isAgg255
 z148:=Tryz.sizeOf255
 v148:=Tryz.zeroValue255
 t164:=Tryz.underlying293
 a164:=Tryz.isAgg293
 z164:=Tryz.sizeOf293
 v164:=Tryz.zeroValue293 }
def Tryz.Wv:Go.Shelf.Ren:=⟨fun|160=>153|232=>194|231=>193|227=>195|234=>197|233=>196|236=>199|235=>198|228=>223|271=>226|151=>225|197=>224|120=>254|152=>253|260=>252|137=>265|119=>266|224=>267|225=>268|217=>271|266=>272|n=>n,fun|9=>9|4=>4|3=>3|5=>5|117=>281|116=>280|0=>0|124=>284|21=>21|105=>306|46=>37|119=>341|139=>344|138=>343|n=>n,fun|3=>1|4=>2|n=>n⟩
theorem Tryz.qeD:Go.Proofs.Lays.n160 Tryz.prog Tryz.Wv:={
 mixed:=by kernel_rfl
 f119:=Tryz.func266.trans (congrArg some (by kernel_rfl))
 f120:=Tryz.func254.trans (congrArg some (by kernel_rfl))
 f137:=Tryz.func265.trans (congrArg some (by kernel_rfl))
 f151:=Tryz.func225.trans (congrArg some (by kernel_rfl))
 f152:=Tryz.func253.trans (congrArg some (by kernel_rfl))
 f160:=Tryz.func153.trans (congrArg some (by kernel_rfl))
 f197:=Tryz.func224.trans (congrArg some (by kernel_rfl))
 f217:=Tryz.func271.trans (congrArg some (by kernel_rfl))
 f224:=Tryz.func267.trans (congrArg some (by kernel_rfl))
 f225:=Tryz.func268.trans (congrArg some (by kernel_rfl))
 f227:=Tryz.func195.trans (congrArg some (by kernel_rfl))
 f228:=Tryz.func223.trans (congrArg some (by kernel_rfl))
 f231:=Tryz.func193.trans (congrArg some (by kernel_rfl))
 f232:=Tryz.func194.trans (congrArg some (by kernel_rfl))
 f233:=Tryz.func196.trans (congrArg some (by kernel_rfl))
 f234:=Tryz.func197.trans (congrArg some (by kernel_rfl))
 f235:=Tryz.func198.trans (congrArg some (by kernel_rfl))
 f236:=Tryz.func199.trans (congrArg some (by kernel_rfl))
 f260:=Tryz.func252.trans (congrArg some (by kernel_rfl))
 f266:=Tryz.func272.trans (congrArg some (by kernel_rfl))
 f271:=Tryz.func226.trans (congrArg some (by kernel_rfl))
 t0:=Tryz.underlying0
 a0:=Tryz.isAgg0
 z0:=Tryz.sizeOf0
 v0:=Tryz.zeroValue0
 t3:=Tryz.underlying3
 a3:=Tryz.isAgg3
 z3:=Tryz.sizeOf3
 v3:=Tryz.zeroValue3
 t4:=Tryz.underlying4
 a4:=Tryz.isAgg4
 z4:=Tryz.sizeOf4
 v4:=Tryz.zeroValue4
 t5:=Tryz.underlying5
 a5:=Tryz.isAgg5
 z5:=Tryz.sizeOf5
 v5:=Tryz.zeroValue5
 t9:=Tryz.underlying9
 a9:=Tryz.isAgg9
 z9:=Tryz.sizeOf9
 v9:=Tryz.zeroValue9
 t21:=Tryz.underlying21
 a21:=Tryz.isAgg21
 z21:=Tryz.sizeOf21
 v21:=Tryz.zeroValue21
 t46:=Tryz.underlying37
 a46:=Tryz.isAgg37
 z46:=Tryz.sizeOf37
 v46:=Tryz.zeroValue37
 t105:=Tryz.underlying306
 a105:=Tryz.isAgg306
 z105:=Tryz.sizeOf306
 v105:=Tryz.zeroValue306
 t116:=Tryz.underlying280
 a116:=Tryz.isAgg280
 z116:=Tryz.sizeOf280
 t117:=Tryz.underlying281
 a117:=Tryz.isAgg281
 z117:=Tryz.sizeOf281
 v117:=Tryz.zeroValue281
 t119:=Tryz.underlying341
 a119:=Tryz.isAgg341
 z119:=Tryz.sizeOf341
 t124:=Tryz.underlying284
 a124:=Tryz.isAgg284
 z124:=Tryz.sizeOf284
 v124:=Tryz.zeroValue284
 t138:=Tryz.underlying343
 a138:=Tryz.isAgg343
 z138:=Tryz.sizeOf343
 v138:=Tryz.zeroValue343
 t139:=Tryz.underlying344
 a139:=Tryz.isAgg344
 z139:=Tryz.sizeOf344
 v139:=Tryz.zeroValue344
 g3:=by kernel_rfl
 g4:=by kernel_rfl }
def Tryz.Zi:Go.Shelf.Ren:=⟨fun|156=>186|165=>117|166=>118|169=>120|240=>166|241=>167|276=>208|277=>209|n=>n,fun|31=>68|9=>9|3=>3|4=>4|0=>0|20=>20|72=>193|76=>196|70=>191|37=>128|75=>195|127=>257|164=>293|5=>5|80=>198|n=>n,fun|n=>n⟩
theorem Tryz.qeE:Go.Proofs.Lays.n156 Tryz.prog Tryz.Zi:={
 mixed:=by kernel_rfl
 f156:=Tryz.func186.trans (congrArg some (by kernel_rfl))
 f165:=Tryz.func117.trans (congrArg some (by kernel_rfl))
 f166:=Tryz.func118.trans (congrArg some (by kernel_rfl))
 f169:=Tryz.func120.trans (congrArg some (by kernel_rfl))
 f240:=Tryz.func166.trans (congrArg some (by kernel_rfl))
 f241:=Tryz.func167.trans (congrArg some (by kernel_rfl))
 f276:=Tryz.func208.trans (congrArg some (by kernel_rfl))
 f277:=Tryz.func209.trans (congrArg some (by kernel_rfl))
 t0:=Tryz.underlying0
 a0:=Tryz.isAgg0
 z0:=Tryz.sizeOf0
 v0:=Tryz.zeroValue0
 t3:=Tryz.underlying3
 a3:=Tryz.isAgg3
 z3:=Tryz.sizeOf3
 v3:=Tryz.zeroValue3
 t4:=Tryz.underlying4
 a4:=Tryz.isAgg4
 z4:=Tryz.sizeOf4
 v4:=Tryz.zeroValue4
 t9:=Tryz.underlying9
 a9:=Tryz.isAgg9
 z9:=Tryz.sizeOf9
 v9:=Tryz.zeroValue9
 t20:=Tryz.underlying20
 a20:=Tryz.isAgg20
 z20:=Tryz.sizeOf20
 v20:=Tryz.zeroValue20
 t31:=Tryz.underlying68
 a31:=Tryz.isAgg68
 z31:=Tryz.sizeOf68
 v31:=Tryz.zeroValue68
 t37:=Tryz.underlying128
 a37:=Tryz.isAgg128
 z37:=Tryz.sizeOf128
 v37:=Tryz.zeroValue128
 t70:=Tryz.underlying191
 a70:=Tryz.isAgg191
 z70:=Tryz.sizeOf191
 v70:=Tryz.zeroValue191
 t72:=Tryz.underlying193
 a72:=Tryz.isAgg193
 z72:=Tryz.sizeOf193
 v72:=Tryz.zeroValue193
 t75:=Tryz.underlying195
 a75:=Tryz.isAgg195
 z75:=Tryz.sizeOf195
 v75:=Tryz.zeroValue195
 t76:=Tryz.underlying196
 a76:=Tryz.isAgg196
 z76:=Tryz.sizeOf196
 v76:=Tryz.zeroValue196
 t127:=Tryz.underlying257
 a127:=Tryz.isAgg257
 z127:=Tryz.sizeOf257
 v127:=Tryz.zeroValue257
 t164:=Tryz.underlying293
 a164:=Tryz.isAgg293
 z164:=Tryz.sizeOf293
 v164:=Tryz.zeroValue293 }
theorem Tryz.qdm:Builder.Extra Tryz.prog Tryz.Zj:={
 sizeBuilder:=by kernel_rfl
 liesBuilder:=by kernel_rfl
 t5:=by kernel_rfl
 a5:=fun w=>by kernel_rfl
 z5:=fun w=>by kernel_rfl
 v5:=fun w=>by kernel_rfl
 infoByte:=by kernel_rfl
 cellsByte:=by kernel_rfl
 sizeByte:=by kernel_rfl
 neB5:=by decide }
theorem Tryz.qdl:Builder.Extra Tryz.prog Tryz.Zi:={
 sizeBuilder:=by kernel_rfl
 liesBuilder:=by kernel_rfl
 t5:=by kernel_rfl
 a5:=fun w=>by kernel_rfl
 z5:=fun w=>by kernel_rfl
 v5:=fun w=>by kernel_rfl
 infoByte:=by kernel_rfl
 cellsByte:=by kernel_rfl
 sizeByte:=by kernel_rfl
 neB5:=by decide }
end Go.Proofs
namespace Go.Fx.Tryz
open Go Go.Fx Go.Proofs Go.RowKit
def Qy (l:List Value) (m:Mem):Option (Value × Mem):=match l with
 | [.string s,.int .i64 c]=>if 0≤c∧c≤1000000∧s.size≤1000000 then some (.string ⟨(Lib.repeatL s.data.toList c.toNat).toArray⟩,m) else none
 | _=>none
theorem qbf {l:List Value} {m m':Mem} {v:Value} (h:Qy l m=some (v,m')) {φ:Go.Fx.Ren} {w:World} {ARGS:Array Value} (hi:Inv φ m w) (ha:VRs φ l ARGS.toList):wQ Tryz.prog φ m w 68 ARGS v m':=by
 unfold Qy at h
 split at h
 ·rename_i s c
  split at h
  ·rename_i hc
   cases h
   obtain ⟨A,B,rfl,hA,hB⟩:=ha.two
   cases hA; cases hB
   obtain ⟨c,rfl⟩:=Int.eq_ofNat_of_zero_le hc.1
   have hm:s.size * c≤1000000 * 1000000:=Nat.mul_le_mul hc.2.2 (by omega)
   exact wc hi (.string _) (Any.strings_Repeat Tryz.qeF Tryz.qdm s c w (by omega) (by omega))
  ·cases h
 ·cases h
def Yd (l:List Value) (m:Mem):Option (Value × Mem):=match l with
 | [.string s,.string ⟨⟨[c]⟩⟩]=>if c.toNat<128∧s.size≤1000000 then some (.string ⟨(Lib.trimB s.data.toList c).toArray⟩,m) else none
 | _=>none
theorem qew {l:List Value} {m m':Mem} {v:Value} (h:Yd l m=some (v,m')) {φ:Go.Fx.Ren} {w:World} {ARGS:Array Value} (hi:Inv φ m w) (ha:VRs φ l ARGS.toList):wQ Tryz.prog φ m w 153 ARGS v m':=by
 unfold Yd at h
 split at h
 ·rename_i s c
  split at h
  ·rename_i hc
   cases h
   obtain ⟨A,B,rfl,hA,hB⟩:=ha.two
   cases hA; cases hB
   refine wc hi (.string _) ((Any.strings_Trim_one Tryz.qeD s c hc.1 w (by omega)).mono ?_)
   rintro e w' ⟨rfl,hw|hw⟩
   ·exact ⟨rfl,hw ▸ Below.refl _ _⟩
   ·exact ⟨rfl,hw ▸ ⟨rfl,rfl,rfl,Nat.le_refl _,fun _ _=>rfl⟩⟩
  ·cases h
 ·cases h
def ZW:List Value→Option (List ByteArray)
 | []=>some []
 | .string s::r=>(ZW r).map (s::·)
 | _::_=>none
theorem ZV:∀ (c:List Value) (xs:List ByteArray),ZW c=some xs→c=xs.map .string
 | [],xs,h=>by cases h; rfl
 | v::r,xs,h=>by
  cases v<;>simp only [ZW,Option.map_eq_some_iff] at h<;>try (cases h; done)
  obtain ⟨l,h1,rfl⟩:=h
  rw [List.map_cons,← ZV r l h1]
def Ye (l:List Value) (m:Mem):Option (Value × Mem):=match l with
 | [.slice (some ⟨b,off,none⟩) n c,.string sep]=>(m.xi b).bind fun cs=>(ZW ((cs.drop off).take n)).bind fun xs =>
   if xs.length=n∧n≠0∧n≤c∧n≤1000000∧(Lib.join (xs.map (·.data.toList)) sep.data.toList).length≤1000000 then some (.string ⟨(Lib.join (xs.map (·.data.toList)) sep.data.toList).toArray⟩,m) else none
 | _=>none
theorem qex {l:List Value} {m m':Mem} {v:Value} (h:Ye l m=some (v,m')) {φ:Go.Fx.Ren} {w:World} {ARGS:Array Value} (hi:Inv φ m w) (ha:VRs φ l ARGS.toList):wQ Tryz.prog φ m w 186 ARGS v m':=by
 unfold Ye at h
 split at h
 rotate_left
 ·cases h
 rename_i b off n c sep
 simp only [Option.bind_eq_some_iff] at h
 obtain ⟨cs,hcs,xs,hxs,h⟩:=h
 split at h
 rotate_left
 ·cases h
 rename_i hc
 cases h
 obtain ⟨hn,hn0,hcap,hbig,hlen⟩:=hc
 obtain ⟨A,B,rfl,hA,hB⟩:=ha.two
 cases hB
 obtain ⟨e,ro,lo,hg⟩:=Mem.jg hcs
 have hmap:=ZV _ _ hxs
 have key:∀ (lc:Loc) (o c':Nat),φ b=some lc→o=lc.base+off→n≤c'→wQ Tryz.prog φ m w 186 #[.slice (some ⟨lc.blk,o,none⟩) n c',.string sep] (.string ⟨(Lib.join (xs.map (·.data.toList)) sep.data.toList).toArray⟩) m:=by
  intro lc o c' hl ho hcc
  subst ho
  refine wc hi (.string _) ?_
  have:=Any.strings_Join Tryz.qeE Tryz.qdl lc.blk (lc.base+off) c' xs sep w (fun j x hj=>?_) (hi.jy hl) (by omega) (by omega) (by omega)
  ·rw [hn] at this; exact this
  ·have hv:cs[off+j]? = some (.string x):=by
    have h1:((cs.drop off).take n)[j]? = some (.string x):=by rw [hmap,List.getElem?_map,hj]; rfl
    rw [List.getElem?_take] at h1
    split at h1
    ·rwa [List.getElem?_drop] at h1
    ·cases h1
   obtain ⟨V,hV,rV⟩:=hi.load hg hl hv
   cases rV
   rw [Nat.add_assoc]; exact hV
 cases hA with
 | sliceEx _ _ _ _ lc hl hlo=>exact key lc _ c hl rfl hcap
 | sliceZero=>exact absurd rfl hn0
 | sliceLoose _ _ _ _ off' cap' s lc hl hlo hoff hle hcc hroom=>exact key lc off' cap' hl (hoff (by omega)) (by omega)
def S:zj:=fun f l m=>if f=68 then Qy l m else if f=153 then Yd l m else if f=124 then kD l m else if f=186 then Ye l m else none
theorem Sok:CallOk P S:=by
 refine ⟨fun f args m v m' hf h φ w ARGS hi ha=>?_,fun N args m v m' h=>?_⟩
 ·unfold S at h
  split at h
  ·rename_i e; subst e; exact qbf h hi ha
  split at h
  ·rename_i e; subst e; exact qew h hi ha
  split at h
  ·rename_i e; subst e; exact YV h hi ha
  split at h
  ·rename_i e; subst e; exact qex h hi ha
  cases h
 ·unfold S at h
  rw [if_neg (qea N _ (by decide)),if_neg (qea N _ (by decide)),if_neg (qea N _ (by decide)),if_neg (qea N _ (by decide))] at h
  cases h
theorem Sgood:∀ f args m r,f<yBase→S f args m=some r→zQ P f=true:=by
 intro f args m r _ h
 unfold S at h
 split at h
 ·rename_i e; subst e; kernel_rfl
 split at h
 ·rename_i e; subst e; kernel_rfl
 split at h
 ·rename_i e; subst e; kernel_rfl
 split at h
 ·rename_i e; subst e; kernel_rfl
 cases h
end Go.Fx.Tryz
