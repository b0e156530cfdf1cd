/- Parts of a proof: DuC, DuD, DuE, DuF, DuG, DuH. Conditions: none. -/
import Derived.Laws.RangeAny
import Derived.Test.YtbhdhhgpfanmcaaGreatDoorQw21
set_option linter.unusedSimpArgs false
set_option linter.unusedVariables false
namespace Go.Fx.Tryz
open Go Go.Fx
def okC (c:UInt8):Bool:=(decide (97<=c.toNat)&&decide (c.toNat<=122))||decide (c.toNat=95)
theorem JJ (s:Bs):zP s=(decide (s≠[])&&decide (s.length<=8)&&s.all okC):=rfl
theorem qcA (l:Bs) {i:Nat} (h:i<l.length):(⟨l.toArray⟩:ByteArray).get! i=l[i]:=by
 simp [ByteArray.get!,h]
theorem qkd {l:Bs} {i:Nat} (h:i<l.length) (hc:l[i].toNat<128):Utf8.decode ⟨l.toArray⟩ i=(l[i].toNat,1):=by
 have g0:(⟨l.toArray⟩:ByteArray).get! (i+0)=l[i]:=by rw [Nat.add_zero]; exact qcA l h
 unfold Utf8.decode;simp only [g0];rw [if_pos hc]
theorem qke {l:Bs} {i:Nat} (h:i<l.length) (hc:128<=l[i].toNat):128<=(Utf8.decode ⟨l.toArray⟩ i).1:=by
 have g0:(⟨l.toArray⟩:ByteArray).get! (i+0)=l[i]:=by rw [Nat.add_zero]; exact qcA l h
 unfold Utf8.decode;simp only [g0];rw [if_neg (by omega)]
 repeat' split
 all_goals first
  | (simp only [baI,decide_eq_true_eq,beq_iff_eq,ge_iff_le] at *; omega)
  | (simp [Utf8.runeError])
theorem wH (c:UInt8):okC c=true↔(97<=c.toNat/\c.toNat<=122)∨c.toNat=95:=by simp [okC]
theorem qcf (n:Nat) (m:Mem):Call S tab 85 [.int .i32 (n:Int)] m=some (.bool (!(decide ((97<=n/\n<=122)∨n=95))),m):=by
 refine W_eq ?_;rw [C85];by_cases c1:n<97
 ·have e1:((n:Int)<97)=True:=eq_true (by omega);by_cases c2:n=95
  ·have e2:((n:Int)=95)=True:=eq_true (by omega);have e:decide ((97<=n/\n<=122)∨n=95)=true:=decide_eq_true (.inr c2);simp only [st0,e1,e2,e];exact ⟨trivial,trivial⟩
  ·have e2:((n:Int)=95)=False:=eq_false (by omega);have e:decide ((97<=n/\n<=122)∨n=95)=false:=decide_eq_false (by omega);simp only [st0,e1,e2,e];exact ⟨trivial,trivial⟩
 ·have e1:((n:Int)<97)=False:=eq_false (by omega);by_cases c2:n<=122
  ·have e2:((122:Int)<(n:Int))=False:=eq_false (by omega);have e:decide ((97<=n/\n<=122)∨n=95)=true:=decide_eq_true (.inl (by omega));simp only [st0,e1,e2,e];exact ⟨trivial,trivial⟩
  ·have e2:((122:Int)<(n:Int))=True:=eq_true (by omega);have e3:((n:Int)=95)=False:=eq_false (by omega);have e:decide ((97<=n/\n<=122)∨n=95)=false:=decide_eq_false (by omega);simp only [st0,e1,e2,e3,e];exact ⟨trivial,trivial⟩
theorem qff {l:Bs} (hl:l.length<=1000) {it:Nat} {m0:Mem} (hit:m0.next<=it):∀ (d i:Nat) (m:Mem),l.length - i=d->i<=l.length->m.get it=some ⟨.siter ⟨l.toArray⟩ i,false,none⟩->Upd [] m0 m ->
  W (Yo (.func (.func 85) #[] #[]) (.bool true) (.pointer (some ⟨it,0,none⟩)) m) λr m'=>∃ k:Int,r=.int .i64 k/\(0<=k↔(l.drop i).all okC=false)/\Upd [] m0 m':=by
 have hsz:(⟨l.toArray⟩:ByteArray).size=l.length:=by simp [ByteArray.size]
 intro d
 induction d with
 | zero =>
  intro i m hd hi hg hu;obtain rfl:i=l.length:=by omega
  have hn:kP (.pointer (some ⟨it,0,none⟩)) m=some (.tuple #[.bool false],m):=by
   simp only [kP,Mem.WB,hg,bmI,hsz];rw [if_neg (by omega)]
  have e0:qG 0 (.tuple #[.bool false])=some (.bool false):=rfl;rw [P168_0_eq];simp only [st0,hn,e0];exact ⟨-1,rfl,by simp,hu⟩
 | succ d ih =>
  intro i m hd hi hg hu;have hlt:i<l.length:=by omega
  have hn:kP (.pointer (some ⟨it,0,none⟩)) m=some (.tuple #[.bool true,.int .i64 (i:Int),.int .i32 ((Utf8.decode ⟨l.toArray⟩ i).1:Int)],m.put it ⟨.siter ⟨l.toArray⟩ (i+(Utf8.decode ⟨l.toArray⟩ i).2),false,none⟩):=by
   simp only [kP,Mem.WB,hg,bmI,hsz];rw [if_pos hlt]
  have hdr:l.drop i=l[i]::l.drop (i+1):=List.drop_eq_getElem_cons hlt;have hu1:Upd [] m0 (m.put it ⟨.siter ⟨l.toArray⟩ (i+(Utf8.decode ⟨l.toArray⟩ i).2),false,none⟩):=hu.ki _ (.inr hit);have hg1:(m.put it ⟨.siter ⟨l.toArray⟩ (i+(Utf8.decode ⟨l.toArray⟩ i).2),false,none⟩).get it=some ⟨.siter ⟨l.toArray⟩ (i+(Utf8.decode ⟨l.toArray⟩ i).2),false,none⟩:=Mem.qe ..;have x0:∀ a b c:Value,qG 0 (.tuple #[a,b,c])=some a:=λ_ _ _=>rfl
  have x1:∀ a b c:Value,qG 1 (.tuple #[a,b,c])=some b:=λ_ _ _=>rfl
  have x2:∀ a b c:Value,qG 2 (.tuple #[a,b,c])=some c:=λ_ _ _=>rfl
  have q:∀ b:Bool,vq false (.bool b) (.bool true)=some (.bool b):=λb=>by cases b<;>rfl
  rw [P168_0_eq];by_cases hc:l[i].toNat<128
  ·have hdec:=qkd hlt hc;rw [hdec] at hn hu1 hg1;simp only at hn hu1 hg1;generalize (m.put it ⟨.siter ⟨l.toArray⟩ (i+1),false,none⟩)=m1 at hn hu1 hg1;have ho:=qcf l[i].toNat m1;cases hk:okC l[i] with
   | true =>
    rw [decide_eq_true ((wH _).1 hk)] at ho;simp only [st0,hn,x0,x1,x2,VE 85 (by rfl),List.nil_append,List.append_nil,ho,q];refine (ih (i+1) m1 (by omega) hlt hg1 hu1).mono λr m' ⟨k,h1,h2,h3⟩=>⟨k,h1,?_,h3⟩
    rw [h2,hdr,List.all_cons,hk,Bool.true_and]
   | false =>
    rw [decide_eq_false (λh=>by rw [(wH _).2 h] at hk; cases hk)] at ho
    simp only [st0,hn,x0,x1,x2,VE 85 (by rfl),List.nil_append,List.append_nil,ho,q];exact ⟨i,rfl,by rw [hdr,List.all_cons,hk]; simp,hu1⟩
  ·have hdec:=qke hlt (by omega);have hk:okC l[i]=false:=by
    cases h:okC l[i] with
    | false=>rfl
    | true=>have:=(wH _).1 h; omega
   have ho:=qcf (Utf8.decode ⟨l.toArray⟩ i).1 (m.put it ⟨.siter ⟨l.toArray⟩ (i+(Utf8.decode ⟨l.toArray⟩ i).2),false,none⟩);rw [decide_eq_false (by omega)] at ho;simp only [st0,hn,x0,x1,x2,VE 85 (by rfl),List.nil_append,List.append_nil,ho,q];exact ⟨i,rfl,by rw [hdr,List.all_cons,hk]; simp,hu1⟩
theorem qeb (s:Bs) (m:Mem):W (Call S tab 49 [str s] m) λr m'=>r=.bool (zP s)/\Upd [] m m':=by
 have eq0:arith .neq (str s) (.string ⟨#[]⟩)=some (.bool (decide (¬ s=[]))):=QS s [];rw [C49,JJ];by_cases c1:s=[]
 ·have e1:decide (¬ s=[])=false:=decide_eq_false (λh=>h c1);have e2:decide (s≠[])=false:=e1;simp only [st0,eq0,e1,e2,Bool.false_and];exact ⟨trivial,Upd.refl _ _⟩
 ·have e1:decide (¬ s=[])=true:=decide_eq_true c1;by_cases c2:s.length<=8
  ·have e2:((s.length:Int)<=8)=True:=eq_true (by omega);have hr:W (Call S tab 86 [str s,.func (.func 85) #[] #[]] m) λr m'=>r=.bool (!(s.all okC))/\Upd [] m m':=by
    rw [C86];refine qh.2 (W.mono (Q:=λr m'=>∃ k:Int,r=.int .i64 k/\(0<=k↔(s.drop 0).all okC=false)/\Upd [] m m') ?_ λr m' ⟨k,h1,h2,h3⟩=>?_)
    ·rw [qmC];refine qh.2 (W.mono (Q:=λr m'=>∃ k:Int,r=.int .i64 k/\(0<=k↔(s.drop 0).all okC=false)/\Upd [] m m') ?_ λr m' h=>zv.2 h);rw [qmk];have e:vY (str s) m=some (.pointer (some ⟨m.next,0,none⟩),m.add ⟨.siter ⟨s.toArray⟩ 0,false,none⟩):=rfl;simp only [st0,e];exact qff (by omega) (Nat.le_refl _) _ 0 _ rfl (Nat.zero_le _) (Mem.qf ..) (Upd.add _ _ _)
    ·subst h1;rw [List.drop_zero] at h2;cases ha:s.all okC with
     | true =>
      have e3:(0<=k)=False:=eq_false (λh=>by have:=h2.1 h; rw [ha] at this; cases this)
      simp only [st0,e3];exact ⟨trivial,h3⟩
     | false =>
      have e3:(0<=k)=True:=eq_true (h2.2 ha);simp only [st0,e3];exact ⟨trivial,h3⟩
   simp only [st0,eq0,e1,qZ,e2];refine qh.2 (qh.2 (hr.mono λr m' ⟨h1,h2⟩=>?_));subst h1;have e4:decide (s≠[])=true:=decide_eq_true c1;have e5:decide (s.length<=8)=true:=decide_eq_true c2;cases ha:s.all okC<;>simp only [st0,e4,e5,Bool.and_self,Bool.and_true,Bool.and_false]<;>exact ⟨trivial,h2⟩
  ·have e2:((s.length:Int)<=8)=False:=eq_false (by omega);have e5:decide (s.length<=8)=false:=decide_eq_false c2;simp only [st0,eq0,e1,qZ,e2,e5];exact ⟨by simp,Upd.refl _ _⟩
end Go.Fx.Tryz
namespace Go.Fx.Tryz
open Go Go.Fx
structure To where
 t:Nat
 b:Nat
 tm:Nat
 nb:Value
 nts:List (Nat × Nat)
 o:Wo
 ns:List St
 ts:List Tab1
 K:Nat
def qcu:Enc (Nat × Nat):=⟨2,λp=>[.int .i64 (p.1:Int),.map (some p.2)],λ_=>rfl,λ_=>rfl⟩
abbrev txB (x:To):ABlk:=⟨.cells [.pointer (some ⟨x.b,0,none⟩),.pointer (some ⟨x.o.w,0,none⟩),.map (some x.tm),x.nb,.bool false] 97,false,none⟩
abbrev To.v (x:To):Value:=.pointer (some ⟨x.t,0,none⟩)
abbrev To.xS (x:To):List Nat:=x.ts.flatMap (·.U)
structure TR (x:To) (T:List Tb) (m:Mem):Prop where
 tx:m.get x.t=some (txB x)
 tg:m.get x.tm=some ⟨.map (esT x.ts) x.K,false,none⟩
 wi:WI x.o x.ns m
 nb:TAp qcu 132 m x.nb x.nts
 mo:Mo x.ts T
 va:Valid T
 bo:vF (esT x.ts) x.K=true
 tr:∀ t∈x.ts,TrR x.o.s t.root t.l t.U
 nd:x.xS.Nodup
 own:∀ k,x.o.s k≠none->k∈x.xS
 lt:x.t<m.next/\x.tm<m.next
 ne:x.t≠x.tm/\(x.t∉x.o.zE/\x.t≠x.o.c/\x.t≠x.o.p)/\(x.tm∉x.o.zE/\x.tm≠x.o.c/\x.tm≠x.o.p)
 nn:∀ b∈qc x.nb,b∉x.o.zE/\b≠x.o.c/\b≠x.o.p/\b≠x.t/\b≠x.tm
def To.fp (x:To):List Nat:=x.t::x.tm::x.o.zE
section
variable {x:To} {T:List Tb} {m:Mem}
theorem TR.qn (h:TR x T m) {m':Mem} (u:Upd [] m m'):TR x T m' :=
 ⟨qq u h.lt.1 h.tx,qq u h.lt.2 h.tg,h.wi.qn u,h.nb.qn u,h.mo,h.va,h.bo,h.tr,h.nd,h.own,⟨Nat.lt_of_lt_of_le h.lt.1 u.next,Nat.lt_of_lt_of_le h.lt.2 u.next⟩,h.ne,h.nn⟩
theorem TR.ld1 (h:TR x T m):qa (.pointer (some ⟨x.t,0+1,none⟩)) m=some (.pointer (some ⟨x.o.w,0,none⟩)):=qm h.tx rfl
theorem TR.ld2 (h:TR x T m):qa (.pointer (some ⟨x.t,0+2,none⟩)) m=some (.map (some x.tm)):=qm h.tx rfl
theorem TR.ld3 (h:TR x T m):qa (.pointer (some ⟨x.t,0+3,none⟩)) m=some x.nb:=qm h.tx rfl
theorem TR.ld4 (h:TR x T m):qa (.pointer (some ⟨x.t,0+4,none⟩)) m=some (.bool false):=qm h.tx rfl
theorem wA (h:TR x T m):Call S tab 37 [x.v] m=some (.int .i64 0,m):=by
 refine W_eq ?_;rw [C37];simp only [st0,vJ,nck,fa,h.ld4];exact ⟨trivial,trivial⟩
end
abbrev tbB (r n:Nat):ABlk:=⟨.cells [.int .i64 (r:Int),.int .i64 (n:Int)] 93,false,none⟩
abbrev tbZ:ABlk:=⟨.cells [.int .i64 0,.int .i64 0] 93,false,none⟩
theorem wZ {m:Mem} {r n:Nat} {k:Mem->O} {Q:Value->Mem->Prop} (h:∀ m',Upd [] m m'->m'.next=m.next+1->m'.get m.next=some (tbB r n)->W (k m') Q) :
  W ((qj 2 (.pointer (some ⟨m.next,0,none⟩)) (tbV r n) (m.add tbZ)).bind k) Q:=by
 have e:qj 2 (.pointer (some ⟨m.next,0,none⟩)) (tbV r n) (m.add tbZ)=some ((m.add tbZ).put m.next (tbB r n)) :=
  jg (Mem.qf m tbZ) rfl rfl rfl
 rw [e];exact h _ ((Upd.add _ _ _).ki _ (.inr (Nat.le_refl _))) rfl (Mem.qe ..)
theorem qjn {m:Mem} {b r n r' n':Nat} (g:m.get b=some (tbB r n)):qj 2 (.pointer (some ⟨b,0,none⟩)) (tbV r' n') m=some (m.put b (tbB r' n')) :=
 jg g rfl rfl rfl
theorem qeD {m:Mem} {b r n:Nat} (g:m.get b=some (tbB r n)):ql 2 (.pointer (some ⟨b,0,none⟩)) m=some (tbV r n):=zG g rfl
theorem qht {m:Mem} {b r n:Nat} (g:m.get b=some (tbB r n)):qa (.pointer (some ⟨b,0+0,none⟩)) m=some (.int .i64 (r:Int)):=qm g rfl
theorem qhs {m:Mem} {b r n:Nat} (g:m.get b=some (tbB r n)):qa (.pointer (some ⟨b,0+1,none⟩)) m=some (.int .i64 (n:Int)):=qm g rfl
theorem qiT:qt [.int .i64 0,.int .i64 0] []=some [.int .i64 0,.int .i64 0]:=rfl
section
variable {x:To} {T:List Tb} {m:Mem} {nm:Bs}
theorem Jf (h:TR x T m) (hn:∀ t∈x.ts,t.nm≠nm):W (Call S tab 43 [x.v,str nm] m) λr m'=>r=.tuple #[tbV 0 0,.int .i64 7]/\Upd [] m m':=by
 have d0:decide ((0:Int)=0)=true:=rfl;have u1:Upd [] m (m.add tbZ):=Upd.add _ _ _;have g1:(m.add tbZ).get m.next=some (tbB 0 0):=Mem.qf ..;have n1:(m.add tbZ).next=m.next+1:=rfl;rw [C43];simp only [st0];generalize (m.add tbZ)=m1 at u1 g1 n1;have h1:=h.qn u1;simp only [st0,wA h1,d0,nck,fa,h1.ld2,Ht h1.tg hn,xt0,xt1];refine wZ (r:=0) (n:=0) λm2 u2 n2 g2=>?_
 have k2:=qq u2 (by omega) g1;have e1:qj 2 (.pointer (some ⟨m.next,0,none⟩)) (.agg [.int .i64 0,.int .i64 0].toArray) m2=some (m2.put m.next tbZ):=jg k2 rfl rfl rfl;have e2:ql 2 (.pointer (some ⟨m.next,0,none⟩)) (m2.put m.next tbZ)=some (.agg [.int .i64 0,.int .i64 0].toArray):=zG (Mem.qe ..) rfl;simp only [st0,qiT,e1,e2];exact ⟨rfl,(u1.qu u2).ki _ (.inr (Nat.le_refl _))⟩
theorem QB (h:TR x T m) {a b:List Tab1} {q:Tab1} (he:x.ts=a++q::b):W (Call S tab 43 [x.v,str q.nm] m) λr m'=>r=.tuple #[tbV q.root q.l.length,.int .i64 0]/\Upd [] m m':=by
 have d0:decide ((0:Int)=0)=true:=rfl;have hs:=kS (by rw [<- he]; exact h.mo.nodup);have u1:Upd [] m (m.add tbZ):=Upd.add _ _ _;have g1:(m.add tbZ).get m.next=some (tbB 0 0):=Mem.qf ..;have n1:(m.add tbZ).next=m.next+1:=rfl;rw [C43];simp only [st0];generalize (m.add tbZ)=m1 at u1 g1 n1;have h1:=h.qn u1;have tg:=h1.tg;rw [he] at tg;simp only [st0,wA h1,d0,nck,fa,h1.ld2,Hu tg hs.1,xt0,xt1];refine wZ λm2 u2 n2 g2=>?_
 have k2:=qq u2 (by omega) g1;simp only [st0,qeD g2,qjn k2,qeD (Mem.qe m2 m.next _)];exact ⟨trivial,(u1.qu u2).ki _ (.inr (Nat.le_refl _))⟩
theorem qgv (h:TR x T m) (hn:∀ t∈x.ts,t.nm≠nm):W (Call S tab 46 [x.v,str nm] m) λr m'=>r=.tuple #[.int .i64 0,.int .i64 7]/\Upd [] m m':=by
 rw [C46];refine qh.2 ((Jf h hn).mono λr1 m1 ⟨e,u1⟩=>?_);subst e;simp only [st0,xt0,xt1];refine wZ (r:=0) (n:=0) λm2 u2 n2 g2=>?_
 simp only [st0,fa,qhs g2];exact ⟨rfl,u1.qu u2⟩
theorem qgw (h:TR x T m) {a b:List Tab1} {q:Tab1} (he:x.ts=a++q::b):W (Call S tab 46 [x.v,str q.nm] m) λr m'=>r=.tuple #[.int .i64 (q.l.length:Int),.int .i64 0]/\Upd [] m m':=by
 rw [C46];refine qh.2 ((QB h he).mono λr1 m1 ⟨e,u1⟩=>?_);subst e;simp only [st0,xt0,xt1];refine wZ λm2 u2 n2 g2=>?_
 simp only [st0,fa,qhs g2];exact ⟨trivial,u1.qu u2⟩
theorem qho (h:TR x T m) (hn:∀ t∈x.ts,t.nm≠nm) (key:Bs):W (Call S tab 50 [x.v,str nm,str key] m) λr m'=>r=.tuple #[.string ⟨#[]⟩,.bool false,.int .i64 7]/\Upd [] m m':=by
 have d7:decide ((7:Int)=0)=false:=rfl;rw [C50];refine qh.2 ((Jf h hn).mono λr1 m1 ⟨e,u1⟩=>?_);subst e;simp only [st0,xt0,xt1];refine wZ (r:=0) (n:=0) λm2 u2 n2 g2=>?_
 simp only [st0,d7];exact ⟨trivial,u1.qu u2⟩
theorem TR.ndq (h:TR x T m) {q:Tab1} (hq:q∈x.ts):q.U.Nodup:=(List.pairwise_flatMap.1 h.nd).1 q hq
theorem qhp (h:TR x T m) {a b:List Tab1} {q:Tab1} (he:x.ts=a++q::b) (key:Bs):W (Call S tab 50 [x.v,str q.nm,str key] m) λr m'=>r=.tuple #[str (YF q.l key),.bool (zb q.l key),.int .i64 0]/\Upd [] m m':=by
 have d0:decide ((0:Int)=0)=true:=rfl;have hq:q∈x.ts:=by rw [he]; simp
 rw [C50];refine qh.2 ((QB h he).mono λr1 m1 ⟨e,u1⟩=>?_);subst e;simp only [st0,xt0,xt1];refine wZ λm2 u2 n2 g2=>?_
 have h2:=(h.qn u1).qn u2;simp only [st0,d0,nck,fa,h2.ld1,qht g2];refine qh.2 ((qfC h2.wi.wr (h2.tr q hq) (h2.ndq hq) key).mono λr3 m3 ⟨e,u3⟩=>?_);subst e;simp only [st0,(ex3 _ _ _).1,(ex3 _ _ _).2.1,(ex3 _ _ _).2.2];exact ⟨trivial,(u1.qu u2).qu u3⟩
theorem qez (h:TR x T m) {a b:List Tab1} {q:Tab1} (he:x.ts=a++q::b) (s t:Bs):W (Call S tab 14 [x.v,str q.nm,str s,str t] m) λr m'=>∃ v,r=.tuple #[v,.int .i64 0]/\TAp qK 81 m' v (xn q.l s t)/\(∀ c∈qc v,m.next<=c)/\Upd [] m m':=by
 have d0:decide ((0:Int)=0)=true:=rfl;have hq:q∈x.ts:=by rw [he]; simp
 rw [C14];refine qh.2 ((QB h he).mono λr1 m1 ⟨e,u1⟩=>?_);subst e;simp only [st0,xt0,xt1];refine wZ λm2 u2 n2 g2=>?_
 have h2:=(h.qn u1).qn u2;have hn1:=u1.next;simp only [st0,d0,nck,fa,h2.ld1,qht g2];refine qh.2 ((qhA h2.wi.wr (h2.tr q hq) (h2.ndq hq) s t).mono λr3 m3 ⟨v,e,tv,vb,u3⟩=>?_);subst e;simp only [st0,xt0,xt1];exact ⟨v,rfl,tv,λc hc=>by have:=vb c hc; omega,(u1.qu u2).qu u3⟩
theorem qiM:∀ ts:List Tab1,Xo (esT ts)=some (ts.map (·.nm))
 | []=>rfl
 | t::ts=>by
  have:=qiM ts;simp only [esT,List.map_cons,Xo,enT] at this ⊢;rw [this]
theorem ZN {α:Type} {eq:α->α->Bool} (he:∀ a b,eq a b=true↔a=b):∀ l:List α,l.Nodup->yg eq l=true
 | [],_=>rfl
 | x::r,h=>by
  obtain ⟨h1,h2⟩:=List.nodup_cons.1 h;simp only [yg,baI,List.all_eq_true,Bool.not_eq_true'];refine ⟨λy hy=>?_,ZN he r h2⟩;cases hc:eq x y with
  | false=>rfl
  | true=>rw [(he x y).1 hc] at h1; exact absurd hy h1
theorem Zy (h:TR x T m):W (Call S tab 12 [x.v] m) λr m'=>TAp encS 9 m' r (T.map (·.1))/\(∀ b∈qc r,m.next<=b)/\Upd [] m m':=by
 have d0:decide ((0:Int)=0)=true:=rfl;have u1:Upd [] m (m.add ⟨.cells [.map (some x.tm)] 91,false,none⟩):=Upd.add _ _ _;have g1:(m.add ⟨.cells [.map (some x.tm)] 91,false,none⟩).get m.next=some ⟨.cells [.map (some x.tm)] 91,false,none⟩:=Mem.qf ..;have n1:(m.add ⟨.cells [.map (some x.tm)] 91,false,none⟩).next=m.next+1:=rfl;have hk:Call S tab 39 [.map (some x.tm)] m=some (.func (.func 76) #[] #[.pointer (some ⟨m.next,0,none⟩)],m.add ⟨.cells [.map (some x.tm)] 91,false,none⟩):=by
  rw [C39]; rfl
 rw [C12];simp only [st0,wA h,d0,nck,fa,h.ld2,hk];generalize (m.add ⟨.cells [.map (some x.tm)] 91,false,none⟩)=m1 at u1 g1 n1;have h1:=h.qn u1;have hl:=h1.mo.len;have hl12:=h1.va.len;have hks:=qiM x.ts;have hall:(x.ts.map (·.nm)).all (λk=>Nat.ble k.length 1000000)=true:=by
  rw [List.all_eq_true];intro k hk;have hk':=h1.mo.names.mem_iff.1 hk;obtain ⟨t,ht,rfl⟩:=List.mem_map.1 hk';have:=(we (h1.va.right t ht)).2;rw [Nat.ble_eq]; omega
 have hnd:=ZN qct _ h1.mo.nodup;have hcond:True/\(esT x.ts).length<=1000000/\(x.ts.map (·.nm)).all (λk=>Nat.ble k.length 1000000)=true/\vF (esT x.ts) x.K=true/\yg eqB (x.ts.map (·.nm))=true :=
  ⟨trivial,by simp [esT]; omega,hall,h1.bo,hnd⟩
 have key:W (Call S tab 38 [.func (.func 76) #[] #[.pointer (some ⟨m.next,0,none⟩)]] m1) λr m'=>TAp encS 9 m' r (T.map (·.1))/\(∀ b∈qc r,m.next<=b)/\Upd [] m1 m':=by
  cases hts:x.ts.map (·.nm) with
  | nil =>
   refine W.of_eq (Qx (r:=(.slice none 0 0,m1)) ?_) (zv.2 ?_)
   ·show Qv [.func (.func 76) #[] #[.pointer (some ⟨m.next,0,none⟩)]] m1=_;simp only [Qv,g1,h1.tg,hks];rw [if_pos hcond,hts]
   ·have:T.map (·.1)=[]:=by have:=h1.mo.sorted; rw [hts] at this; exact this.symm
    rw [this];exact ⟨TAp.nil _,λb hb=>by simp [qc] at hb,Upd.refl _ _⟩
  | cons k r =>
   refine W.of_eq (Qx (r:=(.slice (some ⟨m1.next,0,none⟩) (k::r).length (k::r).length,m1.add ⟨.cells ((ya leb (k::r)).map qjo) 9,false,some 1⟩)) ?_) (zv.2 ?_)
   ·show Qv [.func (.func 76) #[] #[.pointer (some ⟨m.next,0,none⟩)]] m1=_;simp only [Qv,g1,h1.tg,hks];rw [if_pos hcond,hts]
   ·have hso:ya leb (k::r)=T.map (·.1):=by have:=h1.mo.sorted; rwa [hts] at this
    have hlen:(k::r).length=(T.map (·.1)).length:=by rw [<- hso]; exact (qaY _).symm
    rw [hso,hlen];have hfl:(T.map (·.1)).map qjo=encS.flat (T.map (·.1)):=by
     generalize T.map (·.1)=l
     induction l with
     | nil=>rfl
     | cons a l ih=>rw [List.map_cons,ih]; rfl
    refine ⟨.inr ⟨m1.next,_,[],some 1,rfl,by simp,?_,.inr rfl,by simp,Nat.le_refl _⟩,λb hb=>by simp [qc] at hb; omega,Upd.add _ _ _⟩;rw [List.append_nil,hfl]; exact Mem.qf ..
 refine qh.2 (key.mono λr m2 ⟨k1,k2,k3⟩=>?_);exact zv.2 ⟨k1,k2,u1.qu k3⟩
end
end Go.Fx.Tryz
namespace Go.Fx.Tryz
open Go Go.Fx
structure Tn (x x':To) (m m':Mem):Prop where
 t:x'.t=x.t
 b:x'.b=x.b
 tm:x'.tm=x.tm
 nb:x'.nb=x.nb
 nts:x'.nts=x.nts
 w:x'.o.w=x.o.w
 c:x'.o.c=x.o.c
 p:x'.o.p=x.o.p
 P:x'.o.P=x.o.P
 upd:Upd x.fp m m'
 grow:∀ b∈x'.o.zE,b∈x.o.zE∨m.next<=b
 gr:Gr x.ns x'.ns
theorem Tn.of0 {x:To} {m m':Mem} (u:Upd [] m m'):Tn x x m m':=⟨rfl,rfl,rfl,rfl,rfl,rfl,rfl,rfl,rfl,u.nil',λb hb=>.inl hb,Gr.rfl' _⟩
theorem Km {es:List MapEntry} {k:Nat}:vF es k=true↔(∀ e∈es,e.born<k)/\(es.map (·.born)).Nodup:=by
 unfold vF;rw [baI,List.all_eq_true];constructor
 ·rintro ⟨h1,h2⟩
  exact ⟨λe he=>by have:=h1 e he; rwa [Nat.blt_eq] at this,wJ (λa b=>by rw [Nat.beq_eq]) _ h2⟩
 ·rintro ⟨h1,h2⟩
  exact ⟨λe he=>by rw [Nat.blt_eq]; exact h1 e he,ZN (λa b=>by rw [Nat.beq_eq]) _ h2⟩
theorem qgA {ts:List Tab1} {K:Nat} (h:vF (esT ts) K=true) (nm:Bs) (r:Nat) (l:List Pr) (U:List Nat):vF (esT (ts++[⟨nm,r,l,U,K⟩])) (K+1)=true:=by
 rw [Km] at h ⊢;obtain ⟨h1,h2⟩:=h;have e:esT (ts++[⟨nm,r,l,U,K⟩])=esT ts++[enT ⟨nm,r,l,U,K⟩]:=by simp [esT]
 rw [e];refine ⟨λx hx=>?_,?_⟩
 ·rcases List.mem_append.1 hx with hx|hx
  ·have:=h1 x hx; omega
  ·simp at hx; subst hx; show K<K+1; omega
 ·rw [List.map_append,List.nodup_append];refine ⟨h2,by simp,λa ha b hb=>?_⟩;obtain ⟨y,hy,rfl⟩:=List.mem_map.1 ha;have:=h1 y hy;simp [enT] at hb;omega
theorem qgz {a b:List Tab1} {q:Tab1} {K:Nat} (h:vF (esT (a++q::b)) K=true) (r:Nat) (l:List Pr) (U:List Nat):vF (esT (a++⟨q.nm,r,l,U,q.born⟩::b)) K=true:=by
 rw [Km] at h ⊢;have e:(esT (a++⟨q.nm,r,l,U,q.born⟩::b)).map (·.born)=(esT (a++q::b)).map (·.born):=by simp [esT,enT]
 refine ⟨λx hx=>?_,by rw [e]; exact h.2⟩;have:x.born∈(esT (a++⟨q.nm,r,l,U,q.born⟩::b)).map (·.born):=List.mem_map.2 ⟨x,hx,rfl⟩;rw [e] at this;obtain ⟨y,hy,e2⟩:=List.mem_map.1 this;rw [<- e2]; exact h.1 y hy
theorem Valid.ins {T:List Tb} (h:Valid T) {nm:Bs} (hr:zP nm=true) (hn:∀ t∈T,t.1≠nm) (hl:T.length<12):Valid (wo T nm):=by
 refine ⟨?_,λt ht=>?_,ZP T h.rise hn,λt ht=>?_,λt ht=>?_⟩
 ·have:=(yM nm T).length_eq; simp at this; omega
 ·rcases QZ.1 ht with rfl|ht
  ·exact hr
  ·exact h.right t ht
 ·rcases QZ.1 ht with rfl|ht
  ·exact ⟨rfl,by simp⟩
  ·exact h.row t ht
 ·rcases QZ.1 ht with rfl|ht
  ·simp
  ·exact h.few t ht
theorem Jv {T:List Tb} {nm:Bs} {l:List Pr} {t:Tb} (h:t∈vI T nm l):t∈T∨(t=(nm,l)/\∃ q∈T,q.1=nm):=by
 obtain ⟨q,hq,rfl⟩:=List.mem_map.1 h;split
 ·rename_i e; exact .inr ⟨rfl,q,hq,e⟩
 ·exact .inl hq
theorem Valid.set {T:List Tb} (h:Valid T) {nm:Bs} {l:List Pr} (hl:rowP l) (hf:l.length<=65535):Valid (vI T nm l):=by
 refine ⟨by simp [vI]; exact h.len,λt ht=>?_,?_,λt ht=>?_,λt ht=>?_⟩
 ·rcases Jv ht with ht|⟨rfl,q,hq,rfl⟩
  ·exact h.right t ht
  ·exact h.right q hq
 ·rw [kD,Ju,<- kD]; exact h.rise
 ·rcases Jv ht with ht|⟨rfl,_⟩
  ·exact h.row t ht
  ·exact hl
 ·rcases Jv ht with ht|⟨rfl,_⟩
  ·exact h.few t ht
  ·exact hf
theorem TrR.qkb {o:Wo} (hP:o.P<=160) {root:Nat} {l:List Pr} {U:List Nat} (h:TrR o.s root l U) (hnd:U.Nodup):l.length<=20400:=by
 rcases h with ⟨_,rfl,_⟩|⟨g,h⟩
 ·simp
 ·have:=XT o.s g root [] none l U h;have:=(Kq hP h hnd).2;omega
section
variable {x:To} {T:List Tb} {m:Mem} {nm:Bs}
theorem qkW (r n:Nat):qt [.int .i64 0,.int .i64 0] [(0,1,.int .i64 (r:Int)),(1,1,.int .i64 (n:Int))]=some [.int .i64 (r:Int),.int .i64 (n:Int)]:=rfl
theorem Ja (h:TR x T m) (nm:Bs):W (Call S tab 20 [x.v,str nm] m) λr m' =>
  (zP nm=false/\r=.int .i64 1/\Upd [] m m')∨(zP nm=true/\(∃ t∈x.ts,t.nm=nm)/\r=.int .i64 11/\Upd [] m m')∨(zP nm=true/\(∀ t∈x.ts,t.nm≠nm)/\12<=T.length/\r=.int .i64 3/\Upd [] m m') ∨
  (zP nm=true/\(∀ t∈x.ts,t.nm≠nm)/\T.length<12/\r=.int .i64 0/\∃ x',TR x' (wo T nm) m'/\Tn x x' m m'/\x'.ns=x.ns/\x'.xS=x.xS/\x'.ts=x.ts++[⟨nm,0,[],[],x.K⟩]):=by
 have d0:decide ((0:Int)=0)=true:=rfl;have key:∀ (r n:Nat) (ht:Bool),(ht=false->∀ t∈x.ts,t.nm≠nm)->(ht=true->∃ t∈x.ts,t.nm=nm)->zl .str (tbV 0 0) true (.map (some x.tm)) (str nm) m=some (.tuple #[tbV r n,.bool ht])->W (Call S tab 20 [x.v,str nm] m) λr m' =>
  (zP nm=false/\r=.int .i64 1/\Upd [] m m')∨(zP nm=true/\(∃ t∈x.ts,t.nm=nm)/\r=.int .i64 11/\Upd [] m m')∨(zP nm=true/\(∀ t∈x.ts,t.nm≠nm)/\12<=T.length/\r=.int .i64 3/\Upd [] m m') ∨
  (zP nm=true/\(∀ t∈x.ts,t.nm≠nm)/\T.length<12/\r=.int .i64 0/\∃ x',TR x' (wo T nm) m'/\Tn x x' m m'/\x'.ns=x.ns/\x'.xS=x.xS/\x'.ts=x.ts++[⟨nm,0,[],[],x.K⟩]):=λr n ht hf htt hk=>by
  have hk:zl .str (.agg #[.int .i64 0,.int .i64 0]) true (.map (some x.tm)) (str nm) m=some (.tuple #[tbV r n,.bool ht]):=hk;rw [C20];simp only [st0,wA h,d0,nck,fa,h.ld2,hk,xt0,xt1];refine wZ λm1 u1 n1 g1=>?_
  refine qh.2 ((qeb nm m1).mono λv m2 ⟨e,u2⟩=>?_);subst e;have u:=u1.qu u2;have h2:=h.qn u;cases hr:zP nm with
  | false =>
   simp only [st0];exact .inl ⟨trivial,trivial,u⟩
  | true =>
   cases ht with
   | true =>
    simp only [st0];exact .inr (.inl ⟨trivial,htt rfl,trivial,u⟩)
   | false =>
    have hl:=h2.mo.len;by_cases hc:T.length<12
    ·have e1:((12:Int)<=(x.ts.length:Int))=False:=eq_false (by omega);have hu:zt .str (.map (some x.tm)) (str nm) (.agg [.int .i64 0,.int .i64 0].toArray) m2=some (m2.put x.tm ⟨.map (esT (x.ts++[⟨nm,0,[],[],x.K⟩])) (x.K+1),false,none⟩):=qhj h2.tg (hf rfl) 0 [] [];simp only [st0,nck,fa,h2.ld2,qkM h2.tg,e1,qiT,hu];have u3:Upd [x.tm] m2 (m2.put x.tm ⟨.map (esT (x.ts++[⟨nm,0,[],[],x.K⟩])) (x.K+1),false,none⟩):=Upd.put _ _ (by simp);have ne:=h2.ne;have hpg:To.xS { x with ts:=x.ts++[⟨nm,0,[],[],x.K⟩],K:=x.K+1 } = x.xS:=by simp [To.xS]
     have hno:=h2.mo.no (hf rfl);refine .inr (.inr (.inr ⟨trivial,hf rfl,hc,trivial,{ x with ts:=x.ts++[⟨nm,0,[],[],x.K⟩],K:=x.K+1 },⟨?_,Mem.qe ..,h2.wi.upd u3 λb hb=>?_,h2.nb.upd u3 λb hb hm=>?_,h2.mo.make (hf rfl) _ _ _,h2.va.ins hr hno hc,qgA h2.bo ..,λt ht=>?_,by rw [hpg]; exact h2.nd,by rw [hpg]; exact h2.own,h2.lt,h2.ne,h2.nn⟩,⟨rfl,rfl,rfl,rfl,rfl,rfl,rfl,rfl,rfl,(u.nil').trans (u3.mono λb hb _=>by simp at hb; simp [To.fp,hb]),λb hb=>.inl hb,Gr.rfl' _⟩,rfl,hpg,rfl⟩))
     ·exact (Mem.qs m2 _ ne.1).trans h2.tx
     ·simp at hb; subst hb; exact ⟨ne.2.2.1,ne.2.2.2.1,ne.2.2.2.2⟩
     ·simp at hm; exact (h2.nn b hb).2.2.2.2 hm
     ·rcases List.mem_append.1 ht with ht|ht
      ·exact h2.tr t ht
      ·simp at ht; subst ht; exact .inl ⟨rfl,rfl,rfl⟩
    ·have e1:((12:Int)<=(x.ts.length:Int))=True:=eq_true (by omega);simp only [st0,nck,fa,h2.ld2,qkM h2.tg,e1];exact .inr (.inr (.inl ⟨trivial,hf rfl,by omega,trivial,u⟩))
 rcases Kb x.ts nm with hn|⟨a,q,b,he,rfl⟩
 ·exact key 0 0 false (λ_=>hn) (λh=>by cases h) (Ht h.tg hn _)
 ·have hs:=kS (by rw [<- he]; exact h.mo.nodup);have tg:=h.tg;rw [he] at tg;exact key q.root q.l.length true (λh=>by cases h) (λ_=>⟨q,by rw [he]; simp,rfl⟩) (Hu tg hs.1 _)
theorem TR.tree (h:TR x T m) {a b:List Tab1} {q:Tab1} (he:x.ts=a++q::b) {o':Wo} {r:Nat} {l:List Pr} {U:List Nat} (st:Stp x.o.s o'.s q.U U) (tr:TrR o'.s r l U) (nd:U.Nodup) :
  (∀ t∈a++⟨q.nm,r,l,U,q.born⟩::b,TrR o'.s t.root t.l t.U)/\((a++⟨q.nm,r,l,U,q.born⟩::b).flatMap (·.U)).Nodup/\∀ k,o'.s k≠none->k∈(a++⟨q.nm,r,l,U,q.born⟩::b).flatMap (·.U):=by
 have hnd:=h.nd;unfold To.xS at hnd;rw [he,List.flatMap_append,List.flatMap_cons,List.nodup_append,List.nodup_append] at hnd;obtain ⟨n1,⟨n2,n3,n4⟩,n5⟩:=hnd;have kp:∀ t,(t∈a∨t∈b)->∀ k∈t.U,o'.s k=x.o.s k/\k∉U:=λt ht k hk=>by
  have hin:t∈x.ts:=by rw [he]; rcases ht with h|h<;>simp [h]
  refine st.zL (λhq=>?_) ((h.tr t hin).used k hk);rcases ht with ht|ht
  ·exact n5 k (List.mem_flatMap.2 ⟨t,ht,hk⟩) k (by simp [hq]) rfl
  ·exact n4 k hq k (List.mem_flatMap.2 ⟨t,ht,hk⟩) rfl
 have kpo:∀ t,(t∈a∨t∈b)->TrR o'.s t.root t.l t.U:=λt ht =>
  (h.tr t (by rw [he]; rcases ht with h|h<;>simp [h])).zL λk hk=>(kp t ht k hk).1
 refine ⟨λt ht=>?_,?_,λk hk=>?_⟩
 ·rcases List.mem_append.1 ht with ht|ht
  ·exact kpo t (.inl ht)
  ·rcases lcI.1 ht with rfl|ht
   ·exact tr
   ·exact kpo t (.inr ht)
 ·rw [List.flatMap_append,List.flatMap_cons,List.nodup_append,List.nodup_append];refine ⟨n1,⟨nd,n3,λk hk j hj e=>?_⟩,λk hk j hj e=>?_⟩
  ·subst e;obtain ⟨t,ht,hkt⟩:=List.mem_flatMap.1 hj;exact (kp t (.inr ht) k hkt).2 hk
  ·subst e;obtain ⟨t,ht,hkt⟩:=List.mem_flatMap.1 hk;rcases List.mem_append.1 hj with hj|hj
   ·exact (kp t (.inl ht) k hkt).2 hj
   ·exact n5 k hk k (List.mem_append.2 (.inr hj)) rfl
 ·rw [List.flatMap_append,List.flatMap_cons,List.mem_append,List.mem_append];by_cases c1:k∈U
  ·exact .inr (.inl c1)
  ·by_cases c2:k∈q.U
   ·exact absurd (st.gone k c2 c1) hk
   ·rw [st.out k c2 c1] at hk;have:=h.own k hk;unfold To.xS at this;rw [he,List.flatMap_append,List.flatMap_cons,List.mem_append,List.mem_append] at this;rcases this with h|h|h
    ·exact .inl h
    ·exact absurd h c2
    ·exact .inr (.inr h)
theorem Qk (l:List Pr) (key val:Bs):(xO l key val).length=if zb l key then l.length else l.length+1:=by
 have h:=wy l key;rw [JO];simp only [laI,ltI,ldI,lnI,List.length_nil];cases ht:zb l key with
 | true=>have:=xF ht; simp only [if_true]; omega
 | false=>simp only [Bool.false_eq_true,if_false]; omega
theorem qbj {l:List Pr} {key:Bs} (h:zb l key=true):(xA l key).length=l.length - 1:=by
 unfold xA;rw [if_pos h,List.length_eraseIdx_of_lt (xF h)]
theorem TR.work (h:TR x T m) {o':Wo} {ns':List St} {m':Mem} (hw:WI o' ns' m') (nx:Nx x.o o' m m') (gr:Gr x.ns ns') (hs:o'.s=x.o.s):TR { x with o:=o',ns:=ns' } T m'/\Tn x { x with o:=o',ns:=ns' } m m':=by
 obtain ⟨ne1,⟨ne2,ne3,ne4⟩,ne5,ne6,ne7⟩:=h.ne;have hfp:∀ b,b<m.next->b∉x.o.zE->b∉o'.zE:=λb h1 h2 h3=>(nx.grow b h3).elim h2 λh=>by omega
 have hlt:=h.lt;have hx:=nx.upd.next;refine ⟨⟨?_,(nx.upd.same _ h.lt.2 ne5).trans h.tg,hw,h.nb.upd nx.upd λb hb=>(h.nn b hb).1,h.mo,h.va,h.bo,λt ht=>by show TrR o'.s _ _ _; rw [hs]; exact h.tr t ht,h.nd,λk hk=>h.own k (by rw [<- hs]; exact hk),⟨by show x.t<m'.next; omega,by show x.tm<m'.next; omega⟩,⟨ne1,⟨hfp _ h.lt.1 ne2,by show _≠o'.c; rw [nx.c]; exact ne3,by show _≠o'.p; rw [nx.p]; exact ne4⟩,hfp _ h.lt.2 ne5,by show _≠o'.c; rw [nx.c]; exact ne6,by show _≠o'.p; rw [nx.p]; exact ne7⟩,λb hb=>?_⟩,
  ⟨rfl,rfl,rfl,rfl,rfl,nx.w,nx.c,nx.p,nx.P,nx.upd.mono λb hb _=>by simp [To.fp,hb],nx.grow,gr⟩⟩
 ·have:txB { x with o:=o',ns:=ns' } = txB x:=by show (⟨.cells [_,.pointer (some ⟨o'.w,0,none⟩),_,_,_] _,_,_⟩:ABlk)=_; rw [nx.w]
  rw [this];exact (nx.upd.same _ h.lt.1 ne2).trans h.tx
 ·obtain ⟨k1,k2,k3,k4,k5⟩:=h.nn b hb;exact ⟨hfp b (h.nb.lt b hb) k1,by show _≠o'.c; rw [nx.c]; exact k2,by show _≠o'.p; rw [nx.p]; exact k3,k4,k5⟩
theorem TR.entry (h:TR x T m) {a b:List Tab1} {q:Tab1} (he:x.ts=a++q::b) {o':Wo} {ns':List St} {m':Mem} (hw:WI o' ns' m') (nx:Nx x.o o' m m') (gr:Gr x.ns ns') {r:Nat} {l:List Pr} {U:List Nat} (st:Stp x.o.s o'.s q.U U) (tr:TrR o'.s r l U) (nd:U.Nodup) :
  zt .str (.map (some x.tm)) (str q.nm) (tbV r l.length) m'=some (m'.put x.tm ⟨.map (esT (a++⟨q.nm,r,l,U,q.born⟩::b)) x.K,false,none⟩) /\
  TR { x with o:=o',ns:=ns',ts:=a++⟨q.nm,r,l,U,q.born⟩::b } (vI T q.nm l) (m'.put x.tm ⟨.map (esT (a++⟨q.nm,r,l,U,q.born⟩::b)) x.K,false,none⟩)/\Tn x { x with o:=o',ns:=ns',ts:=a++⟨q.nm,r,l,U,q.born⟩::b } m (m'.put x.tm ⟨.map (esT (a++⟨q.nm,r,l,U,q.born⟩::b)) x.K,false,none⟩):=by
 obtain ⟨ne1,⟨ne2,ne3,ne4⟩,ne5,ne6,ne7⟩:=h.ne;have hfp:∀ b,b<m.next->b∉x.o.zE->b∉o'.zE:=λb h1 h2 h3=>(nx.grow b h3).elim h2 λh=>by omega
 have hlt:=h.lt;have hx:=nx.upd.next;have hs:=kS (by rw [<- he]; exact h.mo.nodup);have tg:m'.get x.tm=some ⟨.map (esT (a++q::b)) x.K,false,none⟩:=by rw [<- he]; exact (nx.upd.same _ h.lt.2 ne5).trans h.tg
 have hmo:Mo (a++q::b) T:=by rw [<- he]; exact h.mo
 have hbo:=h.bo;rw [he] at hbo;obtain ⟨t1,t2,t3⟩:=h.tree he st tr nd;have hrow:rowP l:=tr.row;have hfew:=tr.qkb hw.wr.hP nd;have u3:Upd [x.tm] m' (m'.put x.tm ⟨.map (esT (a++⟨q.nm,r,l,U,q.born⟩::b)) x.K,false,none⟩):=Upd.put _ _ (by simp);have nnb:∀ c∈qc x.nb,c∉o'.zE/\c≠o'.c/\c≠o'.p/\c≠x.t/\c≠x.tm:=λc hc=>by
  obtain ⟨k1,k2,k3,k4,k5⟩:=h.nn c hc;exact ⟨hfp c (h.nb.lt c hc) k1,by rw [nx.c]; exact k2,by rw [nx.p]; exact k3,k4,k5⟩
 refine ⟨qhk tg hs.1 r l U,⟨?_,Mem.qe ..,hw.upd u3 λc hc=>?_,(h.nb.upd nx.upd λc hc=>(h.nn c hc).1).upd u3 λc hc hm=>?_,hmo.set l r U q.born,h.va.set hrow (by omega),qgz hbo r l U,t1,t2,t3,⟨by show x.t<m'.next; omega,by show x.tm<m'.next; omega⟩,⟨ne1,⟨hfp _ h.lt.1 ne2,by show _≠o'.c; rw [nx.c]; exact ne3,by show _≠o'.p; rw [nx.p]; exact ne4⟩,hfp _ h.lt.2 ne5,by show _≠o'.c; rw [nx.c]; exact ne6,by show _≠o'.p; rw [nx.p]; exact ne7⟩,nnb⟩,
  ⟨rfl,rfl,rfl,rfl,rfl,nx.w,nx.c,nx.p,nx.P,(nx.upd.mono λc hc _=>by simp [To.fp,hc]).trans (u3.mono λc hc _=>by simp at hc; simp [To.fp,hc]),nx.grow,gr⟩⟩
 ·have:txB { x with o:=o',ns:=ns',ts:=a++⟨q.nm,r,l,U,q.born⟩::b } = txB x:=by show (⟨.cells [_,.pointer (some ⟨o'.w,0,none⟩),_,_,_] _,_,_⟩:ABlk)=_; rw [nx.w]
  rw [this];exact (Mem.qs m' _ ne1).trans ((nx.upd.same _ h.lt.1 ne2).trans h.tx)
 ·simp at hc; subst hc;exact ⟨hfp _ h.lt.2 ne5,by rw [nx.c]; exact ne6,by rw [nx.p]; exact ne7⟩
 ·simp at hm; exact (h.nn c hc).2.2.2.2 hm
end
end Go.Fx.Tryz
namespace Go.Fx.Tryz
open Go Go.Fx
theorem Tn.Qu {x x':To} {m0 m m':Mem} (u:Upd [] m0 m) (h:Tn x x' m m'):Tn x x' m0 m' :=
 ⟨h.t,h.b,h.tm,h.nb,h.nts,h.w,h.c,h.p,h.P,u.nil'.trans h.upd,λb hb=>(h.grow b hb).imp id λh2=>Nat.le_trans u.next h2,h.gr⟩
section
variable {x:To} {T:List Tb} {m:Mem} {nm:Bs}
theorem qhn (h:TR x T m) (hn:∀ t∈x.ts,t.nm≠nm) (key val:Bs):W (Call S tab 21 [x.v,str nm,str key,str val] m) λr m'=>r=.int .i64 7/\Upd [] m m':=by
 have d7:decide ((7:Int)=0)=false:=rfl;rw [C21];refine qh.2 ((qho h hn key).mono λr1 m1 ⟨e,u1⟩=>?_);subst e;simp only [st0,(ex3 _ _ _).1,(ex3 _ _ _).2.1,(ex3 _ _ _).2.2,d7];exact ⟨trivial,u1⟩
theorem qcd (h:TR x T m) {a b:List Tab1} {q:Tab1} (he:x.ts=a++q::b) {v rt n:Nat} {o':Wo} {ns':List St} {M:Mem} (hv:m.next<=v) (g:M.get v=some (tbB rt n)) (hvf:v∉o'.zE/\v≠o'.c/\v≠o'.p) (hvn:v<M.next) (hw:WI o' ns' M) (nx:Nx x.o o' m M) (gr:Gr x.ns ns') {r:Nat} {l:List Pr} {U:List Nat} (hl:l.length=n) (st:Stp x.o.s o'.s q.U U) (tr:TrR o'.s r l U) (nd:U.Nodup) :
  W (qcM x.v (str q.nm) (.pointer (some ⟨v,0,none⟩)) (.int .i64 (r:Int)) M) λrr m'=>rr=.int .i64 0/\∃ x',TR x' (vI T q.nm l) m'/\Tn x x' m m'/\x'.ts=a++⟨q.nm,r,l,U,q.born⟩::b:=by
 have e1:qj 1 (.pointer (some ⟨v,0+0,none⟩)) (.int .i64 (r:Int)) M=some (M.put v (tbB r n)):=zF g (by simp) rfl rfl;have u1:Upd [v] M (M.put v (tbB r n)):=Upd.put _ _ (by simp);have g1:(M.put v (tbB r n)).get v=some (tbB r n):=Mem.qe ..;have n1:(M.put v (tbB r n)).next=M.next:=rfl;have nx1:Nx x.o o' m (M.put v (tbB r n)):=⟨nx.w,nx.c,nx.p,nx.P,nx.upd.ki _ (.inr hv),nx.grow⟩;have hw1:WI o' ns' (M.put v (tbB r n)):=hw.upd u1 λc hc=>by simp at hc; subst hc; exact hvf
 rw [P21_0_eq];simp only [st0,fa,e1];generalize (M.put v (tbB r n))=M1 at u1 g1 n1 nx1 hw1;obtain ⟨k1,k2,k3⟩:=h.entry he hw1 nx1 gr st tr nd;have l2:qa (.pointer (some ⟨x.t,0+2,none⟩)) M1=some (.map (some x.tm)):=qm ((nx1.upd.same _ h.lt.1 h.ne.2.1.1).trans h.tx) rfl;rw [hl] at k1;simp only [st0,nck,fa,l2,qeD g1,k1];exact ⟨trivial,_,k2,k3,rfl⟩
theorem VQ (h:TR x T m) (hnl:x.ns.length<=90000) {a b:List Tab1} {q:Tab1} (he:x.ts=a++q::b) (key val:Bs):W (Call S tab 21 [x.v,str q.nm,str key,str val] m) λr m' =>
  (∃ x',TR x' T m'/\Tn x x' m m'/\x'.ts=x.ts/\((¬ Kv key val/\r=.int .i64 1)∨(Kv key val/\VJ x.o q.root (xO q.l key val)/\r=.int .i64 8))) ∨
  (Kv key val/\r=.int .i64 0/\∃ x' rt U,TR x' (vI T q.nm (xO q.l key val)) m'/\Tn x x' m m'/\x'.ts=a++⟨q.nm,rt,xO q.l key val,U,q.born⟩::b):=by
 have d0:decide ((0:Int)=0)=true:=rfl;have d1:decide ((1:Int)=0)=false:=rfl;have d8:decide ((8:Int)=0)=false:=rfl;have hq:q∈x.ts:=by rw [he]; simp
 have hs:=kS (by rw [<- he]; exact h.mo.nodup);rw [C21];refine qh.2 ((qhp h he key).mono λr1 m1 ⟨e,u1⟩=>?_);subst e;have h1:=h.qn u1;have x1:=u1.next;have tg:=h1.tg;rw [he] at tg;simp only [st0,(ex3 _ _ _).1,(ex3 _ _ _).2.1,(ex3 _ _ _).2.2,d0,nck,fa,h1.ld2,qdD tg hs.1];refine wZ λm2 u2 n2 g2=>?_
 have h2:=h1.qn u2;simp only [st0,nck,fa,h2.ld1,qht g2];refine qh.2 ((qhm h2.wi hnl (h2.tr q hq) (h2.ndq hq) key val).mono λr3 m3 hq3=>?_);obtain ⟨o',ns',b1,b2,b3,b4⟩:=hq3;have u02:=u1.qu u2;have x3:=b2.upd.next;have hfew:=(h1.tr q hq).qkb h1.wi.wr.hP (h1.ndq hq);have hv:m1.next∉o'.zE/\m1.next≠o'.c/\m1.next≠o'.p:=by
  have wl:=h1.wi.lt;have wc:=h1.wi.wr.lc;have wp:=h1.wi.wr.lp;refine ⟨λhm=>(b2.grow _ hm).elim (λh=>by have:=wl _ h; omega) λh=>by omega,by rw [b2.c]; omega,by rw [b2.p]; omega⟩
 have g3:m3.get m1.next=some (tbB q.root q.l.length):=(b2.upd.same _ (by omega) (λhm=>by have:=h1.wi.lt _ hm; omega)).trans g2;have nx:Nx x.o o' m1 m3:=⟨b2.w,b2.c,b2.p,b2.P,u2.nil'.trans b2.upd,λc hc=>(b2.grow c hc).imp id λh=>by omega⟩;rcases b4 with ⟨c1,rfl,rfl⟩|⟨c1,c2,rfl,c3⟩|⟨c1,root',U',rfl,c2,c3,c4⟩
 ·simp only [st0,xt0,xt1,d1];obtain ⟨k1,k2⟩:=h1.work b1 nx b3 rfl;exact .inl ⟨_,k1,k2.Qu u1,rfl,.inl ⟨c1,trivial⟩⟩
 ·simp only [st0,xt0,xt1,d8];obtain ⟨k1,k2⟩:=h1.work b1 nx b3 c3;exact .inl ⟨_,k1,k2.Qu u1,rfl,.inr ⟨c1,c2,trivial⟩⟩
 ·have hpl:=Qk q.l key val;cases ht:zb q.l key with
  | true =>
   rw [ht,if_pos rfl] at hpl;simp only [st0,xt0,xt1,d0];refine (qcd h1 he (Nat.le_refl _) g3 hv (by omega) b1 nx b3 hpl c3 c2 c4).mono λr m' ⟨z1,x',z2,z3,z4⟩=>?_
   exact .inr ⟨c1,z1,x',_,_,z2,z3.Qu u1,z4⟩
  | false =>
   rw [ht,if_neg (by simp)] at hpl;have e5:arith .add (.int .i64 (q.l.length:Int)) (.int .i64 1)=some (.int .i64 ((q.l.length+1:Nat):Int)):=qB (by omega);have e6:qj 1 (.pointer (some ⟨m1.next,0+1,none⟩)) (.int .i64 ((q.l.length+1:Nat):Int)) m3=some (m3.put m1.next (tbB q.root (q.l.length+1))):=zF g3 (by simp) rfl rfl;simp only [st0,xt0,xt1,d0,fa,qhs g3,e5,e6];have u4:Upd [m1.next] m3 (m3.put m1.next (tbB q.root (q.l.length+1))):=Upd.put _ _ (by simp);refine (qcd h1 he (M:=m3.put m1.next (tbB q.root (q.l.length+1))) (Nat.le_refl _) (Mem.qe ..) hv (by show m1.next<m3.next; omega) (b1.upd u4 λc hc=>by simp at hc; subst hc; exact hv) ⟨nx.w,nx.c,nx.p,nx.P,nx.upd.ki _ (.inr (Nat.le_refl _)),nx.grow⟩ b3 hpl c3 c2 c4).mono λr m' ⟨z1,x',z2,z3,z4⟩=>?_
   exact .inr ⟨c1,z1,x',_,_,z2,z3.Qu u1,z4⟩
theorem qhq (h:TR x T m) (hn:∀ t∈x.ts,t.nm≠nm) (key:Bs):W (Call S tab 44 [x.v,str nm,str key] m) λr m'=>r=.tuple #[.bool false,.int .i64 7]/\Upd [] m m':=by
 have d7:decide ((7:Int)=0)=false:=rfl;rw [C44];refine qh.2 ((Jf h hn).mono λr1 m1 ⟨e,u1⟩=>?_);subst e;simp only [st0,xt0,xt1];refine wZ (r:=0) (n:=0) λm2 u2 n2 g2=>?_
 simp only [st0,d7];exact ⟨trivial,u1.qu u2⟩
theorem qhr (h:TR x T m) (hnl:x.ns.length<=90000) {a b:List Tab1} {q:Tab1} (he:x.ts=a++q::b) (key:Bs):W (Call S tab 44 [x.v,str q.nm,str key] m) λr m' =>
  (∃ x',TR x' T m'/\Tn x x' m m'/\x'.ts=x.ts/\((zb q.l key=false/\r=.tuple #[.bool false,.int .i64 0])∨(zb q.l key=true/\r=.tuple #[.bool false,.int .i64 8]))) ∨
  (zb q.l key=true/\r=.tuple #[.bool true,.int .i64 0]/\∃ x',TR x' (vI T q.nm (xA q.l key)) m'/\Tn x x' m m'):=by
 have d0:decide ((0:Int)=0)=true:=rfl;have d8:decide ((8:Int)=0)=false:=rfl;have hq:q∈x.ts:=by rw [he]; simp
 rw [C44];refine qh.2 ((QB h he).mono λr1 m1 ⟨e,u1⟩=>?_);subst e;have h1:=h.qn u1;have x1:=u1.next;simp only [st0,xt0,xt1];refine wZ λm2 u2 n2 g2=>?_
 have h2:=h1.qn u2;simp only [st0,d0,nck,fa,h2.ld1,qht g2];refine qh.2 ((qan h2.wi hnl (h2.tr q hq) (h2.ndq hq) key).mono λr3 m3 hq3=>?_);obtain ⟨o',ns',b1,b2,b3,b4⟩:=hq3;have x3:=b2.upd.next;have hfew:=(h1.tr q hq).qkb h1.wi.wr.hP (h1.ndq hq);have g3:m3.get m1.next=some (tbB q.root q.l.length):=(b2.upd.same _ (by omega) (λhm=>by have:=h1.wi.lt _ hm; omega)).trans g2;have nx:Nx x.o o' m1 m3:=⟨b2.w,b2.c,b2.p,b2.P,u2.nil'.trans b2.upd,λc hc=>(b2.grow c hc).imp id λh=>by omega⟩;rcases b4 with ⟨c1,rfl,rfl⟩|⟨c1,c2,rfl,c3⟩|⟨c1,root',U',rfl,c2,c3,c4⟩
 ·simp only [st0,(ex3 _ _ _).1,(ex3 _ _ _).2.1,(ex3 _ _ _).2.2,d0];obtain ⟨k1,k2⟩:=h1.work b1 nx b3 rfl;exact .inl ⟨_,k1,k2.Qu u1,rfl,.inl ⟨c1,trivial⟩⟩
 ·simp only [st0,(ex3 _ _ _).1,(ex3 _ _ _).2.1,(ex3 _ _ _).2.2,d8];obtain ⟨k1,k2⟩:=h1.work b1 nx b3 c3;exact .inl ⟨_,k1,k2.Qu u1,rfl,.inr ⟨c1,trivial⟩⟩
 ·have hcl:=qbj c1;have hlt:=xF c1;have e5:arith .sub (.int .i64 (q.l.length:Int)) (.int .i64 1)=some (.int .i64 ((q.l.length - 1:Nat):Int)):=by rw [xh (by omega) (by omega)]; congr 2; omega
  have l2:qa (.pointer (some ⟨x.t,0+2,none⟩)) m3=some (.map (some x.tm)):=qm ((nx.upd.same _ h1.lt.1 h1.ne.2.1.1).trans h1.tx) rfl;obtain ⟨k1,k2,k3⟩:=h1.entry he b1 nx b3 c3 c2 c4;rw [hcl] at k1;have k1:zt .str (.map (some x.tm)) (str q.nm) (.agg [.int .i64 (root':Int),.int .i64 ((q.l.length - 1:Nat):Int)].toArray) m3=_:=k1;simp only [st0,(ex3 _ _ _).1,(ex3 _ _ _).2.1,(ex3 _ _ _).2.2,d0,nck,fa,l2,qhs g3,e5,qkW,k1];exact .inr ⟨c1,trivial,_,k2,k3.Qu u1⟩
end
end Go.Fx.Tryz
namespace Go.Fx.Tryz
open Go Go.Fx
theorem HU {m:Mem} {tm K:Nat} {ts:List Tab1} (h:m.get tm=some ⟨.map (esT ts) K,false,none⟩):Call S tab 60 [.map (some tm)] m=some (.map (some m.next),m.add ⟨.map (esT ts) K,false,none⟩):=by
 refine W_eq ?_;have e2:qU .map false (.map (some tm)) (.map none)=some (.bool false):=rfl;have e3:ju (.iface 91 (.map (some tm))) m=some (.iface 91 (.map (some m.next)),m.add ⟨.map (esT ts) K,false,none⟩):=by
  have:m.xq tm=some (esT ts,K):=by simp [Mem.xq,h]
  simp [ju,this]
 have e4:kC 91 false (.map none) (.iface 91 (.map (some m.next)))=some (.map (some m.next)):=rfl;rw [C60];simp only [st0,e2,e3,e4];exact ⟨trivial,trivial⟩
structure Sn (x0:To) (s:St) (tc:Nat) (m:Mem):Prop where
 gs:∃ k,m.get s.pm=some ⟨.map (esL x0.o.L) k,false,none⟩
 gt:m.get tc=some ⟨.map (esT x0.ts) x0.K,false,none⟩
 lt:s.pm<m.next/\tc<m.next
 su:s.u=x0.o.u
 sh:s.hd=x0.o.hd
def qiu (s:St) (tc:Nat) (x:To):Prop:=(s.pm∉x.fp/\s.pm≠x.o.c/\s.pm≠x.o.p/\s.pm∉qc x.nb)/\(tc∉x.fp/\tc≠x.o.c/\tc≠x.o.p/\tc∉qc x.nb)
theorem Sn.qn {x0:To} {s:St} {tc:Nat} {m m':Mem} (h:Sn x0 s tc m) (u:Upd [] m m'):Sn x0 s tc m':=by
 obtain ⟨k,hk⟩:=h.gs;have hl:=h.lt;have hx:=u.next;exact ⟨⟨k,qq u hl.1 hk⟩,qq u hl.2 h.gt,⟨by omega,by omega⟩,h.su,h.sh⟩
theorem qkY (k tc:Nat):qt [.int .i64 0,.map none] [(0,1,.int .i64 (k:Int)),(1,1,.map (some tc))]=some [.int .i64 (k:Int),.map (some tc)]:=rfl
theorem qjV (k tc:Nat):qt [.int .i64 0,.map none] [(0,2,.agg [.int .i64 (k:Int),.map (some tc)].toArray)]=some (qcu.flat [(k,tc)]):=rfl
section
variable {x:To} {T:List Tb} {m:Mem}
theorem qeA (h:TR x T m) (hnl:x.ns.length<=90000) (hnn:x.nts.length<=1000):W (Call S tab 27 [x.v] m) λr m'=>r=.int .i64 (x.nts.length:Int)/\∃ x' s tc,TR x' T m'/\Sn x s tc m'/\qiu s tc x' /\
  x'.t=x.t/\x'.ns=x.ns++[s]/\x'.nts=x.nts++[(x.ns.length,tc)]/\x'.ts=x.ts/\x'.o.P=x.o.P/\x'.o.s=x.o.s/\x'.o.w=x.o.w/\x'.o.c=x.o.c/\x'.o.p=x.o.p/\(∀ b∈x'.fp,b∈x.fp∨m.next<=b)/\(∀ b∈qc x'.nb,b∈qc x.nb∨m.next<=b)/\Upd (x.fp++qc x.nb) m m':=by
 have d0:decide ((0:Int)=0)=true:=rfl;obtain ⟨ne1,⟨ne2,ne3,ne4⟩,ne5,ne6,ne7⟩:=h.ne;have hlt:=h.lt;rw [C27];simp only [st0,wA h,d0,nck,fa,h.ld3,h.ld1];refine qh.2 ((qbS h.wi.wr h.wi.nt (by omega) h.wi.dj).mono λr1 m1 hq=>?_);obtain ⟨rfl,pm',nt',k,r1,t1,k1,k2,g1,l1,l2,u1⟩:=hq;have x1:=u1.next;have wl:=h.wi.lt;have hu1:Upd x.o.zE m m1:=u1.mono λb hb _=>by
  simp only [Wo.zE,lcI] at hb ⊢;rcases hb with h|h<;>simp [h]
 have tx1:m1.get x.t=some (txB x):=(hu1.same _ hlt.1 ne2).trans h.tx;have tg1:m1.get x.tm=some ⟨.map (esT x.ts) x.K,false,none⟩:=(hu1.same _ hlt.2 ne5).trans h.tg;have nb1:=h.nb.upd hu1 λb hb=>(h.nn b hb).1
 have ld:∀ {M:Mem},M.get x.t=some (txB x)->qa (.pointer (some ⟨x.t,0+2,none⟩)) M=some (.map (some x.tm))/\qa (.pointer (some ⟨x.t,0+3,none⟩)) M=some x.nb/\qa (.pointer (some ⟨x.t,0+1,none⟩)) M=some (.pointer (some ⟨x.o.w,0,none⟩)):=λg=>⟨qm g rfl,qm g rfl,qm g rfl⟩
 simp only [st0,nck,fa,(ld tx1).1,HU tg1,qkY,qjV];have u2:Upd [] m1 (m1.add ⟨.map (esT x.ts) x.K,false,none⟩):=Upd.add _ _ _;have g2:(m1.add ⟨.map (esT x.ts) x.K,false,none⟩).get m1.next=some ⟨.map (esT x.ts) x.K,false,none⟩:=Mem.qf ..;have n2:(m1.add ⟨.map (esT x.ts) x.K,false,none⟩).next=m1.next+1:=rfl;generalize (m1.add ⟨.map (esT x.ts) x.K,false,none⟩)=m2 at u2 g2 n2;have tx2:=qq u2 (by omega) tx1;have nb2:=nb1.qn u2;have hnblt:=h.nb.lt;refine zZ (E:=qcu) [(x.ns.length,m1.next)] (by decide) nb2 (by simp only [lnI,List.length_nil]; omega) λv3 m3 q1 q2 q3=>?_
 have x3:=q2.next;have tnb:x.t∉qc x.nb:=λhm=>(h.nn _ hm).2.2.2.1 rfl
 have tx3:m3.get x.t=some (txB x):=(q2.same _ (by omega) tnb).trans tx2;have e4:qj 1 (.pointer (some ⟨x.t,0+3,none⟩)) v3 m3=some (m3.put x.t (txB { x with nb:=v3 })):=zF tx3 (by simp) q1.one.1 q1.one.2;have g4:(m3.put x.t (txB { x with nb:=v3 })).get x.t=some (txB { x with nb:=v3 }):=Mem.qe ..;have u4:Upd [x.t] m3 (m3.put x.t (txB { x with nb:=v3 })):=Upd.put _ _ (by simp);have n4:(m3.put x.t (txB { x with nb:=v3 })).next=m3.next:=rfl;simp only [st0,nck,fa,e4];generalize hm4:(m3.put x.t (txB { x with nb:=v3 }))=m4 at g4 u4 n4;have v3t:x.t∉qc v3:=λhm=>(q3 _ hm).elim tnb λh=>by omega
 have q14:=q1.upd u4 λb hb hm=>by simp at hm; subst hm; exact v3t hb
 have l4:qa (.pointer (some ⟨x.t,0+3,none⟩)) m4=some v3:=qm g4 rfl;have e5:arith .sub (.int .i64 (((x.nts++[(x.ns.length,m1.next)]).length:Nat):Int)) (.int .i64 1)=some (.int .i64 (x.nts.length:Int)):=by
  rw [xh (by simp only [laI,lnI,List.length_nil]; omega) (by simp only [laI,lnI,List.length_nil]; omega)]; simp
 simp only [st0,nck,fa,l4,q14.tsl.len,e5];have out:∀ b,b<m2.next->b∉qc x.nb->b≠x.t->m4.get b=m2.get b:=λb h1 h2 h3=>(u4.same b (by omega) (by simp [h3])).trans (q2.same b h1 h2)
 have nnb:∀ b∈qc x.nb,b∉x.o.zE/\b≠x.o.c/\b≠x.o.p/\b≠x.t/\b≠x.tm:=h.nn;have bnt:∀ b∈qc nt',b∈x.o.zE∨m.next<=b:=λb hb=>(k1 b hb).imp (λh=>by simp [Wo.zE,h]) id
 have nfoot:∀ b,b<m.next->b∉x.o.zE->b∉Wo.zE { x.o with nt:=nt' }:=λb h1 h2 h3=>by
  simp only [Wo.zE,lcI,not_or] at h2 h3;rcases h3 with h3|h3|h3
  ·exact h2.1 h3
  ·exact h2.2.1 h3
  ·rcases k1 b h3 with h|h
   ·exact h2.2.2 h
   ·omega
 have cl:=h.wi.wr.lc;have pl:=h.wi.wr.lp;have lm:=h.wi.wr.lm;have lw:=h.wi.wr.lw;have fw:x.o.w∈x.o.zE:=by simp [Wo.zE]
 have fpm:x.o.pm∈x.o.zE:=by simp [Wo.zE]
 have hwi2:WI { x.o with nt:=nt' } (x.ns++[{ x.o.st h.wi.wr.hu with pm:=pm' }]) m2:=by
  refine WI.qn ⟨r1,t1,λb hb=>?_,h.wi.fu⟩ u2;rcases k1 b hb with e|e
  ·exact h.wi.dj b e
  ·exact ⟨by show b≠x.o.w; omega,by show b≠x.o.pm; omega,by show b≠x.o.c; omega,by show b≠x.o.p; omega⟩
 have nnb2:∀ b∈qc x.nb,b∉Wo.zE { x.o with nt:=nt' }/\b≠x.o.c/\b≠x.o.p:=λb hb=>⟨nfoot b (hnblt b hb) (nnb b hb).1,(nnb b hb).2.1,(nnb b hb).2.2.1⟩
 have hwi4:WI { x.o with nt:=nt' } (x.ns++[{ x.o.st h.wi.wr.hu with pm:=pm' }]) m4:=(hwi2.upd q2 λb hb=>nnb2 b hb).upd u4 λb hb=>by simp at hb; subst hb; exact ⟨nfoot _ hlt.1 ne2,ne3,ne4⟩
 have l2':pm'<m1.next:=l2;have apm:pm'∉qc x.nb:=λhm=>by have:=hnblt _ hm; omega
 have atc:m1.next∉qc x.nb:=λhm=>by have:=hnblt _ hm; omega
 have v3b:∀ b∈qc v3,b∈qc x.nb∨m2.next<=b:=q3;refine jC (λr hr=>?_) (zv.2 ⟨rfl,{ x with nb:=v3,nts:=x.nts++[(x.ns.length,m1.next)],o:={ x.o with nt:=nt' },ns:=x.ns++[{ x.o.st h.wi.wr.hu with pm:=pm' }] },{ x.o.st h.wi.wr.hu with pm:=pm' },m1.next,
  ⟨g4,?_,hwi4,q14,h.mo,h.va,h.bo,h.tr,h.nd,h.own,⟨by show x.t<m4.next; omega,by show x.tm<m4.next; omega⟩,⟨ne1,⟨nfoot _ hlt.1 ne2,ne3,ne4⟩,nfoot _ hlt.2 ne5,ne6,ne7⟩,λb hb=>?_⟩,
  ⟨⟨k,?_⟩,?_,⟨by show pm'<m4.next; omega,by show m1.next<m4.next; omega⟩,rfl,rfl⟩,⟨⟨?_,by show pm'≠x.o.c; omega,by show pm'≠x.o.p; omega,?_⟩,?_,by show m1.next≠x.o.c; omega,by show m1.next≠x.o.p; omega,?_⟩,rfl,rfl,rfl,rfl,rfl,rfl,rfl,rfl,rfl,λb hb=>?_,λb hb=>(q3 b hb).imp id λh=>by omega,?_⟩)
 ·simp only [lcI,nmI,or_false] at hr;rcases hr with rfl|rfl|rfl
  ·exact okR λk _ hk=>by
    have:k=0∨k=1∨k=2∨k=3:=by omega
    rcases this with rfl|rfl|rfl|rfl
    ·exact ⟨_,rfl,h.ld3⟩
    ·exact ⟨_,rfl,(ld tx1).2.1⟩
    ·exact ⟨_,rfl,(ld tx2).2.1⟩
    ·exact ⟨_,rfl,(ld (by rw [Mem.zO _ _ (by omega)]; exact tx2)).2.1⟩
  ·exact okR λk _ hk=>by
    obtain rfl:k=0:=by omega
    exact ⟨_,rfl,h.ld1⟩
  ·exact okR λk _ hk=>by
    have:k=0∨k=1:=by omega
    rcases this with rfl|rfl
    ·exact ⟨_,rfl,h.ld2⟩
    ·exact ⟨_,rfl,(ld tx1).1⟩
 ·exact (out x.tm (by omega) (λhm=>(nnb _ hm).2.2.2.2 rfl) (λe=>ne1 e.symm)).trans (qq u2 (by omega) tg1)
 ·rcases q3 b hb with h'|h'
  ·exact ⟨(nnb2 b h').1,(nnb2 b h').2.1,(nnb2 b h').2.2,(nnb b h').2.2.2.1,(nnb b h').2.2.2.2⟩
  ·refine ⟨λhm=>?_,by show b≠x.o.c; omega,by show b≠x.o.p; omega,by show b≠x.t; omega,by show b≠x.tm; omega⟩;have:=hwi2.lt b hm;omega
 ·exact (out pm' (by omega) apm (by omega)).trans (qq u2 l2' g1)
 ·exact (out m1.next (by omega) atc (by omega)).trans g2
 ·show pm'∉To.fp _;simp only [To.fp,Wo.zE,lcI,not_or];exact ⟨by show ¬ pm'=x.t; omega,by show ¬ pm'=x.tm; omega,by show ¬ pm'=x.o.w; omega,by show ¬ pm'=x.o.pm; omega,k2⟩
 ·exact λhm=>(q3 pm' hm).elim apm λh=>by omega
 ·show m1.next∉To.fp _;simp only [To.fp,Wo.zE,lcI,not_or];exact ⟨by show ¬ m1.next=x.t; omega,by show ¬ m1.next=x.tm; omega,by show ¬ m1.next=x.o.w; omega,by show ¬ m1.next=x.o.pm; omega,λhm=>by have:=t1.lt _ hm; omega⟩
 ·exact λhm=>(q3 m1.next hm).elim atc λh=>by omega
 ·simp only [To.fp,lcI] at hb;rcases hb with h'|h'|h'
  ·left; simp [To.fp,h']
  ·left; simp [To.fp,h']
  ·simp only [Wo.zE,lcI] at h';rcases h' with h'|h'|h'
   ·left; simp [To.fp,Wo.zE,h']
   ·left; simp [To.fp,Wo.zE,h']
   ·rcases k1 b h' with h'|h'
    ·left; simp [To.fp,Wo.zE,h']
    ·right; omega
 ·refine (((hu1.mono λb hb _=>by simp [To.fp,hb]).qu u2).trans (q2.mono λb hb _=>by simp [hb])).trans (u4.mono λb hb _=>by simp at hb; simp [To.fp,hb])
end
end Go.Fx.Tryz
namespace Go.Fx.Tryz
open Go Go.Fx
theorem qjr {o o0:Wo} (hP:o.P=o0.P) (s:St) (hu:s.u=o0.u) (pm:Nat) (nt:Value):Wo.s { o with u:=s.u,hd:=s.hd,pm:=pm,L:=o0.L,nt:=nt } = o0.s:=by
 funext k;unfold Wo.s Wo.has;simp only [hP,hu]
theorem qeC {x0 x:To} {T0 T:List Tb} {m0 m:Mem} (h0:TR x0 T0 m0) (h:TR x T m) {s:St} {tc:Nat} (sn:Sn x0 s tc m) (aw:qiu s tc x) {a rest:List St} (hns:x.ns=a++s::rest) (hal:a.length<=100000) {pre rest2:List (Nat × Nat)} (hnts:x.nts=pre++(a.length,tc)::rest2) (hpl:pre.length<=1000) (hP:x.o.P=x0.o.P) :
  W (Call S tab 30 [x.v,.int .i64 (pre.length:Int)] m) λr m'=>r=.int .i64 0/\∃ x',TR x' T0 m'/\x'.t=x.t/\x'.ts=x0.ts/\x'.o.P=x0.o.P/\Upd x.fp m m'/\x'.ns.length<=x.ns.length/\x'.nts.length<=x.nts.length/\(∀ b∈x'.fp,b∈x.fp∨m.next<=b)/\(∀ b∈qc x'.nb,b∈qc x.nb)/\x'.o.c=x.o.c/\x'.o.p=x.o.p:=by
 have d0:decide ((0:Int)=0)=true:=rfl;obtain ⟨ne1,⟨ne2,ne3,ne4⟩,ne5,ne6,ne7⟩:=h.ne;have hlt:=h.lt;have hll:pre.length<x.nts.length:=by rw [hnts]; simp
 have c1:((pre.length:Int)<0)=False:=eq_false (by omega);have c2:((x.nts.length:Int)<=(pre.length:Int))=False:=eq_false (by omega);obtain ⟨nb',sl,tnb,hsub,_⟩:=TAp.YG (l:=pre++[(a.length,tc)]) (k:=rest2) (by rw [aaI]; have:=h.nb; rw [hnts] at this; exact this);have sl:∀ M,qx 2 x.nb none (some (.int .i64 ((pre.length+1:Nat):Int))) M=some nb':=by
  have e:(pre++[(a.length,tc)]).length=pre.length+1:=by simp
  rw [e] at sl; exact sl
 obtain ⟨b,off,i1,i2⟩:=h.nb.tsl.at .i64 (i:=pre.length) (a:=(a.length,tc)) (by rw [hnts]; simp);have i1:qi 2 x.nb (.int .i64 (pre.length:Int))=some (.pointer (some ⟨b,off,none⟩)):=i1;have i3:∀ M,TAp qcu 132 M x.nb x.nts->qa (.pointer (some ⟨b,off+0,none⟩)) M=some (.int .i64 (a.length:Int))/\qa (.pointer (some ⟨b,off+1,none⟩)) M=some (.map (some tc)):=λM hM=>⟨(i2 M hM.tsl).2 0 _ rfl,(i2 M hM.tsl).2 1 _ rfl⟩
 obtain ⟨k,hk⟩:=sn.gs;have hnt:=h.wi.nt;rw [hns] at hnt;rw [C30];simp only [st0,wA h,d0,c1,nck,fa,h.ld3,h.ld1,h.nb.tsl.len,c2,i1,(i3 m h.nb).1];refine qh.2 ((qcB h.wi.wr hnt hal (λb hb=>(h.wi.dj b hb).1) hk sn.lt.1).mono λr1 m1 hq=>?_);obtain ⟨rfl,pm',nt',_,r1,t1,hsb,l1,l2,u1⟩:=hq;have x1:=u1.next;have fw:x.o.w∈x.o.zE:=by simp [Wo.zE]
 have tx1:m1.get x.t=some (txB x):=(u1.same _ hlt.1 (by simp; exact λe=>ne2 (e ▸ fw))).trans h.tx;have nb1:=h.nb.upd u1 λb hb hm=>by simp at hm; exact (h.nn b hb).1 (hm ▸ fw)
 have wtc:tc≠x.o.w:=λe=>aw.2.1 (by rw [e]; simp [To.fp,Wo.zE])
 have gt1:m1.get tc=some ⟨.map (esT x0.ts) x0.K,false,none⟩:=(u1.same _ sn.lt.2 (by simp; exact wtc)).trans sn.gt;have ld:∀ {M:Mem},M.get x.t=some (txB x)->qa (.pointer (some ⟨x.t,0+3,none⟩)) M=some x.nb:=λg=>qm g rfl
 simp only [st0,d0,nck,fa,ld tx1,i1,(i3 m1 nb1).2,HU gt1];have u2:Upd [] m1 (m1.add ⟨.map (esT x0.ts) x0.K,false,none⟩):=Upd.add _ _ _;have g2:(m1.add ⟨.map (esT x0.ts) x0.K,false,none⟩).get m1.next=some ⟨.map (esT x0.ts) x0.K,false,none⟩:=Mem.qf ..;have n2:(m1.add ⟨.map (esT x0.ts) x0.K,false,none⟩).next=m1.next+1:=rfl;generalize (m1.add ⟨.map (esT x0.ts) x0.K,false,none⟩)=m2 at u2 g2 n2;have tx2:=qq u2 (by omega) tx1;have e3:qj 1 (.pointer (some ⟨x.t,0+2,none⟩)) (.map (some m1.next)) m2=some (m2.put x.t (txB { x with tm:=m1.next })):=zF tx2 (by simp) rfl rfl;have g3:(m2.put x.t (txB { x with tm:=m1.next })).get x.t=some (txB { x with tm:=m1.next }):=Mem.qe ..;have u3:Upd [x.t] m2 (m2.put x.t (txB { x with tm:=m1.next })):=Upd.put _ _ (by simp);have n3:(m2.put x.t (txB { x with tm:=m1.next })).next=m2.next:=rfl;simp only [st0,nck,fa,ld tx2,qB (i:=pre.length) (by omega),sl,e3];generalize (m2.put x.t (txB { x with tm:=m1.next }))=m3 at g3 u3 n3;have e4:qj 1 (.pointer (some ⟨x.t,0+3,none⟩)) nb' m3=some (m3.put x.t (txB { x with tm:=m1.next,nb:=nb' })):=zF g3 (by simp) tnb.one.1 tnb.one.2;have u4:Upd [x.t] m3 (m3.put x.t (txB { x with tm:=m1.next,nb:=nb' })):=Upd.put _ _ (by simp);simp only [st0,nck,fa,e4];have u34:Upd [x.t] m2 (m3.put x.t (txB { x with tm:=m1.next,nb:=nb' })):=u3.trans u4;have n4:(m3.put x.t (txB { x with tm:=m1.next,nb:=nb' })).next=m3.next:=rfl;have cl:=h.wi.wr.lc;have pl:=h.wi.wr.lp;have lw:=h.wi.wr.lw;have hs:=qjr hP s sn.su pm' nt';have kf:∀ c,c<m.next->c∉x.o.zE->c∉Wo.zE { x.o with u:=s.u,hd:=s.hd,pm:=pm',L:=x0.o.L,nt:=nt' }:=λc h1 h2 h3=>by
  simp only [Wo.zE,lcI,not_or] at h2 h3;rcases h3 with h3|h3|h3
  ·exact h2.1 h3
  ·omega
  ·exact h2.2.2 (hsb c h3)
 have hwi1:WI { x.o with u:=s.u,hd:=s.hd,pm:=pm',L:=x0.o.L,nt:=nt' } (a++[s]) m1:=by
  refine ⟨r1,t1,λc hc=>?_,λq=>?_⟩
  ·have:=h.wi.dj c (hsb c hc);have:=hnt.lt c (hsb c hc);exact ⟨this |> λ_=>(h.wi.dj c (hsb c hc)).1,by show c≠pm'; omega,(h.wi.dj c (hsb c hc)).2.2.1,(h.wi.dj c (hsb c hc)).2.2.2⟩
  ·have:=h0.wi.fu q;rw [hs,<- this];unfold Wo.has;simp only [hP,sn.su]
 have kw:x.t∉Wo.zE { x.o with u:=s.u,hd:=s.hd,pm:=pm',L:=x0.o.L,nt:=nt' }:=kf _ hlt.1 ne2;have nnb:∀ c∈qc nb',c∈qc x.nb:=hsub;have nnl:=h.nb.lt;refine jC (λr hr=>?_) (zv.2 ⟨rfl,{ x with tm:=m1.next,nb:=nb',nts:=pre++[(a.length,tc)],o:={ x.o with u:=s.u,hd:=s.hd,pm:=pm',L:=x0.o.L,nt:=nt' },ns:=a++[s],ts:=x0.ts,K:=x0.K },
  ⟨Mem.qe ..,?_,(hwi1.qn u2).upd u34 λc hc=>by simp at hc; subst hc; exact ⟨kw,ne3,ne4⟩,?_,h0.mo,h0.va,h0.bo,λt ht=>by show TrR (Wo.s _) _ _ _; rw [hs]; exact h0.tr t ht,h0.nd,λq hq=>h0.own q (by rw [<- hs]; exact hq),⟨by show x.t<m3.next; omega,by show m1.next<m3.next; omega⟩,⟨by show x.t≠m1.next; omega,⟨kw,ne3,ne4⟩,λhm=>by have:=hwi1.lt m1.next hm; omega,by show m1.next≠x.o.c; omega,by show m1.next≠x.o.p; omega⟩,λc hc=>?_⟩,rfl,rfl,hP,?_,by rw [hns]; simp,by rw [hnts]; simp,λc hc=>?_,hsub,rfl,rfl⟩)
 ·simp only [lcI,nmI,or_false] at hr;have nb2:=nb1.qn u2;rcases hr with rfl|rfl|rfl|rfl
  ·exact okR λk _ hk=>by
    obtain rfl:k=0:=by omega
    exact ⟨_,rfl,ld tx1⟩
  ·exact okR λk _ hk=>by
    obtain rfl:k=0:=by omega
    exact ⟨_,rfl,(i3 m1 nb1).2⟩
  ·exact okR λk _ hk=>by
    have:k=0∨k=1:=by omega
    rcases this with rfl|rfl
    ·exact ⟨_,rfl,ld tx1⟩
    ·exact ⟨_,rfl,ld tx2⟩
  ·exact okR λk _ hk=>by
    have:k=0∨k=1∨k=2:=by omega
    rcases this with rfl|rfl|rfl<;>exact ⟨_,rfl,sl _⟩
 ·exact (u34.same m1.next (by omega) (by simp; omega)).trans g2
 ·refine (((tnb.upd u1 λc hc hm=>?_).qn u2).upd u34 λc hc hm=>?_)
  ·simp at hm; exact (h.nn c (hsub c hc)).1 (hm ▸ fw)
  ·simp at hm; exact (h.nn c (hsub c hc)).2.2.2.1 hm
 ·obtain ⟨k1,k2,k3,k4,k5⟩:=h.nn c (hsub c hc);have:=nnl c (hsub c hc);exact ⟨kf c this k1,k2,k3,k4,by show c≠m1.next; omega⟩
 ·exact ((u1.mono λc hc _=>by simp at hc; simp [To.fp,Wo.zE,hc]).qu u2).trans (u34.mono λc hc _=>by simp at hc; simp [To.fp,hc])
 ·simp only [To.fp,Wo.zE,lcI] at hc;rcases hc with h'|h'|h'|h'|h'
  ·left; simp [To.fp,h']
  ·right; omega
  ·left; simp [To.fp,Wo.zE,h']
  ·right; omega
  ·left; simp [To.fp,Wo.zE,hsb c h']
end Go.Fx.Tryz
