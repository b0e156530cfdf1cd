/- Parts of a proof: FxOps6, FxSound, FxSound2, FxStep. Conditions: none. -/
import Derived.LoopNIn
import Derived.TacticsIn
import Derived.OrdersIn
import Derived.RangeFuncSeq
import Derived.Tactics
import Derived.Scope
import Derived.Test.YtbhdhhgpfanmcaaGreatDoorQw4
set_option linter.unusedSimpArgs false
set_option linter.unusedVariables false
namespace Go.Fx
open Go
theorem yW {φ:Ren} {x X:Option Value} {dflt most k:Nat} (hx:wX φ x X) (h:xB x dflt most=some k):(x=none/\X=none/\k=dflt)∨∃ kd n,x=some (.int kd n)/\X=some (.int kd n)/\0<=n/\n<=most/\k=n.toNat:=by
 unfold xB at h;split at h
 ·cases X with
  | none=>cases h; exact .inl ⟨rfl,rfl,rfl⟩
  | some _=>exact hx.elim
 ·split at h
  ·rename_i hn;cases h
   cases X with
   | none=>exact hx.elim
   | some V =>
    simp only [wX] at hx;cases hx
    exact .inr ⟨_,_,rfl,rfl,hn.1,hn.2,rfl⟩
  ·cases h
 ·cases h
theorem kr {P:Program} {φ:Ren} {w:World} {len cap cap':Nat} {lo LO:Option Value} {h H:Value} {kd:IntKind} {k:Int} {l r:Nat} (hlo:wX φ lo LO) (hh:VR φ h H) (hb:zz len k.toNat lo (some h)=some (l,r)) (hk:0<=k/\k<=cap) (hc:cap<=cap') :
  (Instr.sliceBounds true len cap' LO (some H) (some (.int kd k))).run P w=.ok (l,r,k.toNat) w:=by
 simp only [zz,bsI,msI,pjI] at hb;obtain ⟨h1,hh1,l1,hl,rfl,rfl⟩:=hb;rcases yW (φ:=φ) (x:=some h) (X:=some H) hh hh1 with ⟨h0,_⟩|⟨kd1,n1,e1,e2,g1,g2,rfl⟩
 ·cases h0
 ·cases e2
  have b1:=run_sliceBound (P:=P) (w:=w) (k:=kd) (n:=k) (y:=cap) (y':=cap') .slice3Acap ⟨hk.1,hk.2⟩ hc;have b2:=run_sliceBound (P:=P) (w:=w) (k:=kd1) (n:=n1) (y:=k.toNat) (y':=k.toNat) .slice3B ⟨g1,g2⟩ (Nat.le_refl _);rcases yW hlo hl with ⟨_,rfl,rfl⟩|⟨kd2,n2,_,rfl,g3,g4,rfl⟩
  ·simp only [Instr.sliceBounds,Sem.run_bind,Sem.run_pure,Result.andThen_ok,if_true,b1,b2]
  ·have b3:=run_sliceBound (P:=P) (w:=w) (k:=kd2) (n:=n2) (y:=n1.toNat) (y':=n1.toNat) .slice3C ⟨g3,g4⟩ (Nat.le_refl _);simp only [Instr.sliceBounds,Sem.run_bind,Sem.run_pure,Result.andThen_ok,if_true,b1,b2,Option.isSome_some,b3]
theorem VY {P:Program} {φ:Ren} {m:Mem} {w:World} (hi:Inv φ m w) {t e:TypeId} {i:TypeInfo} {v V u mx MX:Value} {lo hi' LO HI:Option Value} (ht:P.underlying t=some (.slice e)) (hti:P.info? e=some i) (hv:VR φ v V) (hlo:wX φ lo LO) (hhi:wX φ hi' HI) (hmx:VR φ mx MX)
  (h:jO i.size v lo hi' mx m=some u):∃ U,(Instr.sliceAt t V LO HI (some MX)).run P w=.ok U w/\VR φ u U:=by
 unfold jO at h;split at h
 ·rename_i b off len cap hv' kd k;cases HI with
  | none=>exact hhi.elim
  | some H =>
  simp only [wX] at hhi;cases hmx
  split at h
  ·rename_i hk0;obtain ⟨hk1,hk2,hlc⟩:=hk0;simp only [bsI] at h;obtain ⟨⟨l,r⟩,hb,h⟩:=h;split at h
   ·rename_i hk;cases h
    have hle:l<=r/\r<=k.toNat:=by
     simp only [zz,bsI,msI,pjI] at hb;obtain ⟨h1,hh1,l1,hl,rfl,rfl⟩:=hb;rcases yW (φ:=φ) (x:=some hv') (X:=some H) hhi hh1 with ⟨h0,_⟩|⟨kd1,n1,e1,e2,g1,g2,rfl⟩
     ·cases h0
     ·rcases yW hlo hl with ⟨_,_,rfl⟩|⟨kd2,n2,_,_,g3,g4,rfl⟩<;>omega
    cases hv with
    | sliceEx _ _ _ _ q hl hlo' =>
     refine ⟨.slice (some ⟨q.blk,q.base+(if k.toNat=l then off else off+l * i.size),none⟩) (r - l) (k.toNat - l),?_,.sliceEx _ _ _ _ q hl hlo'⟩
     simp only [Instr.sliceAt,Sem.run_bind,qy ht,Result.andThen_ok,Instr.slice,kr hlo hhi hb ⟨hk1,hk2⟩ (Nat.le_refl _),ze hti,Sem.run_pure];by_cases hc:k.toNat=l
     ·simp [hc]
     ·simp [hc,jq,Nat.add_assoc]
    | sliceZero _ _ A =>
     obtain rfl:k=0:=by omega
     have hl0:l=0:=by have:=hle; simp at this; omega
     have hr0:r=0:=by have:=hle; simp at this; omega
     subst hl0; subst hr0;refine ⟨.slice (some A) 0 0,?_,.sliceZero _ _ A⟩;simp only [Instr.sliceAt,Sem.run_bind,qy ht,Result.andThen_ok,Instr.slice,kr hlo hhi hb ⟨hk1,hk2⟩ (Nat.le_refl _),ze hti,Sem.run_pure];simp
    | sliceLoose _ _ _ _ off' cap' s q hl hlo' hoff hlen hcap hroom =>
     refine ⟨.slice (some ⟨q.blk,if k.toNat=l then off' else off'+l * i.size,none⟩) (r - l) (k.toNat - l),?_,.sliceLoose _ _ _ _ _ _ s q hl hlo' ?_ (by omega) (Nat.le_refl _) ?_⟩
     ·simp only [Instr.sliceAt,Sem.run_bind,qy ht,Result.andThen_ok,Instr.slice,kr hlo hhi hb ⟨hk1,hk2⟩ hcap,ze hti,Sem.run_pure];by_cases hc:k.toNat=l
      ·simp [hc]
      ·simp [hc,jq]
     ·intro hne;have hne':k.toNat - l≠0:=hne;show (if k.toNat=l then off' else off'+l * i.size)=q.base+(if k.toNat=l then off else off+l * i.size)
      rw [if_neg (show ¬ k.toNat=l by omega),if_neg (show ¬ k.toNat=l by omega),hoff (by omega)]; omega
     ·have hkm:k.toNat * s<=cap' * s:=Nat.mul_le_mul_right _ (by omega);by_cases hc:k.toNat=l
      ·rw [if_pos hc,hc,Nat.sub_self,Nat.zero_mul]; omega
      ·rw [if_neg hc];rcases hk with hk|hk|hk
       ·have hk':l=0:=hk;subst hk'; simp; omega
       ·have:=hi.yj hl hk;rw [hlo'] at this; cases this
       ·have:=hi.Xn hl hk;rw [hlo'] at this; cases this
        have:l * i.size+(k.toNat - l) * i.size=k.toNat * i.size:=by rw [<- Nat.add_mul]; congr 1; omega
        omega
   ·cases h
  ·cases h
 ·cases h
theorem all_replicate {p:Value->Bool} {l:List Value} (n:Nat) (h:l.all p=true):(List.replicate n l).flatten.all p=true:=by
 rw [List.all_eq_true] at h ⊢;intro v hv;simp only [List.mem_flatten,List.mem_replicate] at hv;obtain ⟨k,⟨_,rfl⟩,hv⟩:=hv;exact h v hv
theorem YQ {P:Program} {φ:Ren} {m m':Mem} {w:World} (hi:Inv φ m w) {t e ty:TypeId} {i:TypeInfo} {z:Value} (ht:P.underlying t=some (.slice e)) (hti:P.info? e=some i) (hz:i.zero=some z) (hp:z.cells.toList.all plain=true) {v V:Value} (hv:VR φ v V) (h:vA z.cells.toList v m=some m') :
  ∃ w' U,(Builtin.clear_ #[t] ty #[V]).run P w=.ok U w'/\VR φ undef U/\Inv φ m' w'/\Frm φ m w φ m' w':=by
 unfold vA at h;split at h
 ·cases h
  cases hv
  exact ⟨w,_,by simp [Builtin.clear_,qy ht]; rfl,VR.undef φ,hi,Frm.refl φ m w⟩
 ·rename_i b off len cap;split at h
  ·rename_i h0;cases h
   subst h0;refine ⟨w,undef,?_,VR.undef φ,hi,Frm.refl φ m w⟩;cases hv<;>(simp [Builtin.clear_,qy ht]; rfl)
  ·rename_i h0;simp only [bsI] at h;obtain ⟨⟨c,e',lo⟩,hq,h⟩:=h;have hg:=Mem.wg hq;split at h
   ·rename_i hh;cases h
    obtain ⟨h1,h2,h3⟩:=hh;simp only [Array.length_toList] at h1;have hzc:(Builtin.zeroCells z.cells len).toList=(List.replicate len z.cells.toList).flatten:=replicate_flatten_eq z.cells z.cells.size len rfl;have hl2:(List.replicate len z.cells.toList).flatten.length=len * z.cells.size:=by simp [List.length_flatten]
    have run:∀ (a:Addr) (C:Nat) (w':World),(Go.storeCells a (List.replicate len z.cells.toList).flatten).run P w=.ok () w'->(Builtin.clear_ #[t] ty #[.slice (some a) len C]).run P w=.ok undef w':=by
     intro a C w' hrun;cases len with
     | zero=>exact absurd rfl h0
     | succ n =>
      simp only [Builtin.clear_,Sem.run_bind,qy ht,Result.andThen_ok,Sem.run_pure,List.getElem?_toArray,List.getElem?_cons_zero,zV hti hz,hzc,hrun];rfl
    cases hv with
    | sliceEx _ _ _ _ l hl hlo =>
     obtain ⟨w',hrun,h5,h6⟩:=Inv.storeCells (P:=P) hl off _ _ 0 c m w hi hg (VRs.plain (all_replicate len hp)) (λv hv=>List.all_eq_true.1 (all_replicate len h3) v hv) (by omega);exact ⟨w',undef,run _ _ w' hrun,VR.undef φ,h5,h6⟩
    | sliceZero _ _ A=>exact absurd rfl h0
    | sliceLoose _ _ _ _ off' cap' s l hl hlo hoff hlen' hcap hroom =>
     have:off'=l.base+off:=hoff h2;subst this;obtain ⟨w',hrun,h5,h6⟩:=Inv.storeCells (P:=P) hl off _ _ 0 c m w hi hg (VRs.plain (all_replicate len hp)) (λv hv=>List.all_eq_true.1 (all_replicate len h3) v hv) (by omega);exact ⟨w',undef,run _ _ w' hrun,VR.undef φ,h5,h6⟩
   ·cases h
 ·cases h
theorem YM {P:Program} {φ:Ren} {m m':Mem} {w:World} (hi:Inv φ m w) {t e:TypeId} {i:TypeInfo} {z:Value} (ht:P.underlying t=some (.slice e)) (hti:P.info? e=some i) (hz:i.zero=some z) (hp:z.cells.toList.all plain=true) (hs:z.cells.size=i.size) {n N c C u:Value} (hn:VR φ n N) (hc:VR φ c C)
  (h:jD e i.bytes z.cells.toList n c m=some (u,m')) :
  ∃ V w' φ',(Instr.makeSlice t N C).run P w=.ok V w'/\VR φ' u V/\Inv φ' m' w'/\Frm φ m w φ' m' w':=by
 unfold jD at h;split at h
 ·rename_i k1 n k2 c;split at h
  ·rename_i hh;obtain ⟨g1,g2,g3,g4⟩:=hh;cases h
   cases hn; cases hc
   obtain ⟨φ',h1,h2,h3⟩:=hi.Qt e (VRs.plain (φ:=φ) (all_replicate c.toNat hp));refine ⟨.slice (some ⟨w.heap.size,0,none⟩) n.toNat c.toNat,_,φ',?_,.sliceEx m.next 0 n.toNat c.toNat ⟨w.heap.size,0,none,0⟩ h3 rfl,h1,h2⟩;have hwn:=wrap_small g1 (by omega);have hwc:=wrap_small (n:=c) (by omega) g3;have hrep:=replicate_flatten_eq z.cells i.size c.toNat hs;have hrep':(Array.range (c.toNat * i.size)).map (z.cells[· % z.cells.size]!)=(List.replicate c.toNat z.cells.toList).flatten.toArray:=by
    apply Array.toList_inj.1; rw [hrep]
   have hnc:¬ (c<n):=by omega
   have hc0:¬ (c<0):=by omega
   have hb:¬ (2 ^ 48<(i.bytes:Int) * c):=by omega
   simp only [Instr.makeSlice,Sem.run_bind,qy ht,Result.andThen_ok,asInt,asIntOf,Sem.run_pure,js hti,hwn,hwc,ze hti];have hcond:(decide (c<0)||decide ((i.bytes:Int) * c > 2 ^ 48)||decide (n<0)||decide (n > c))=false:=by
    simp only [Bool.or_eq_false_iff,decide_eq_false_iff_not];omega
   rw [hcond];simp only [Bool.false_eq_true,if_false,Sem.run_bind,Sem.run_pure,Result.andThen_ok,run_askRoom,ze hti,Sem.run_ite];by_cases h0:c.toNat * i.size=0
   ·rw [if_pos h0];have e0:(Array.range (c.toNat * i.size)).map ((#[]:Array Value)[· % (#[]:Array Value).size]!)=(Array.range (c.toNat * i.size)).map (z.cells[· % z.cells.size]!):=by rw [h0]; simp
    rw [e0,hrep'];simp [newRow]
   ·rw [if_neg h0];simp only [zV hti hz,Result.andThen_ok];rw [hrep'];simp [newRow]
  ·cases h
 ·cases h
end Go.Fx
namespace Go.Fx
open Go
theorem vG {φ:Ren} {ts:List Value} {a:Act} (ht:VRs φ ts a.tmps.toList):∀ {xs:List Operand} {l:List Value},ko ts xs=some l->VRs φ l (xs.map a.eval)
 | [],l,h=>by simp [ko] at h; subst h; exact VRs.nil φ
 | x::xs,l,h=>by
  simp only [ko] at h;split at h
  ·rename_i v r hv hr;cases h
   exact VRs.cons (qw ht hv) (vG ht hr)
  ·cases h
theorem kh {φ:Ren} {ts:List Value} {a:Act} (ht:VRs φ ts a.tmps.toList) {x:Option Operand} {v:Option Value} (h:jo ts x=some v):wX φ v (x.map a.eval):=by
 cases x with
 | none=>cases h; trivial
 | some x =>
  simp only [jo,msI] at h;obtain ⟨u,hu,rfl⟩:=h;exact qw ht hu
theorem wx {φ:Ren} {ts:List Value} {a:Act} (ht:VRs φ ts a.tmps.toList) {place:Nat->Option (Nat × Nat)}:∀ {ps:List (Nat × Operand)} {l:List (Nat × Nat × Operand)} {r:List (Nat × Nat × Value)},vB place ps=some l->kI ts l=some r->ZZ φ place r (ps.map λp=>(p.1,a.eval p.2))
 | [],l,r,h,h'=>by
  simp [vB] at h; subst h;simp [kI] at h'; subst h';exact ⟨rfl,λi p q hp=>by simp at hp⟩
 | (i,x)::ps,l,r,h,h'=>by
  simp only [vB,bsI,msI] at h;obtain ⟨⟨o,s⟩,hp,l',hl,rfl⟩:=h;simp only [kI] at h';split at h'
  ·rename_i v r' hv hr;cases h'
   obtain ⟨h1,h2⟩:=wx ht hl hr;refine ⟨by simpa using h1,λj p q hp' hq=>?_⟩;cases j with
   | zero=>simp at hp' hq; subst hp'; subst hq; exact ⟨hp,qw ht hv⟩
   | succ j=>exact h2 j p q (by simpa using hp') (by simpa using hq)
  ·cases h'
theorem qI.val {P:Program} {φ φ':Ren} {m m':Mem} {w w':World} {s:Sem Value} {v V:Value} (hs:s.run P w=.ok V w') (hv:VR φ' v V) (hi:Inv φ' m' w') (hf:Frm φ m w φ' m' w') :
  qI φ m w ((do pure (Next.value (<- s)):Sem Next).run P w) v m' :=
 ⟨V,w',φ',.inl (by simp [hs]),hv,hi,hf⟩
theorem qI.still {P:Program} {φ:Ren} {m:Mem} {w:World} {s:Sem Value} {v V:Value} (hi:Inv φ m w) (hs:s.run P w=.ok V w) (hv:VR φ v V) :
  qI φ m w ((do pure (Next.value (<- s)):Sem Next).run P w) v m:=qI.val hs hv hi (Frm.refl φ m w)
theorem zx {P:Program} {t:TypeId} {s:Nat} (h:ji P t=some s):∃ i,P.info? t=some i/\i.size=s:=by
 simp only [ji,msI] at h; exact h
theorem xP {P:Program} {t e:TypeId} (h:Qc P t=some e):P.underlying t=some (.slice e):=by
 unfold Qc at h;split at h
 ·cases h; assumption
 ·cases h
theorem VH {P:Program} {t:TypeId} {p:Nat × TypeId} (h:qim P t=some p):P.underlying t=some (.array p.1 p.2):=by
 unfold qim at h;split at h
 ·cases h; assumption
 ·cases h
theorem wj {P:Program} {t:TypeId} {p:TypeId × TypeId} (h:qdA P t=some p):P.underlying t=some (.map p.1 p.2):=by
 unfold qdA at h;split at h
 ·cases h; assumption
 ·cases h
theorem wP {P:Program} {t:TypeId} {fs:Array Field} (h:Zk P t=some fs):P.underlying t=some (.struct fs):=by
 unfold Zk at h;split at h
 ·cases h; assumption
 ·cases h
theorem xK {P:Program} {t:TypeId} {z:Value} (h:hJ P t=some z):∃ i,P.info? t=some i/\i.zero=some z/\z.cells.toList.all plain=true:=by
 simp only [hJ,bsI] at h;obtain ⟨i,hi,z',hz,h⟩:=h;split at h
 ·cases h; exact ⟨i,hi,hz,by assumption⟩
 ·cases h
theorem VR.QM {φ:Ren} {z:Value} (h:z.cells.toList.all Fx.plain=true):VR φ z z:=by
 cases z with
 | agg xs =>
  have:VRs φ xs.toList xs.toList:=VRs.plain h;have:=this.agg;simpa using this
 | bool b=>exact .bool b
 | int k n=>exact .int k n
 | string s=>exact .string s
 | _=>exact VR.plain (by simpa [Value.cells] using h)
theorem res_eq {P:Program} {neg:Bool} {t:TypeId} {x y:Operand} {ao:AOp} (hr:qbY P neg t x y=some ao) {φ:Ren} {m m':Mem} {w:World} (hi:Inv φ m w) {ts:List Value} {a:Act} (ht:VRs φ ts a.tmps.toList) {v:Value} (h:ao.run ts m=some (v,m')) :
  qI φ m w ((do pure (Next.value (<- (do eqGuard (if neg then .neq else .eql) t x y (a.eval x) (a.eval y); Go.binOp (if neg then .neq else .eql) t (a.eval x) (a.eval y):Sem Value))):Sem Next).run P w) v m':=by
 have ar:∀ {op},(AOp.arith op x y).run ts m=some (v,m')->op=(if neg then .neq else .eql)->qI φ m w ((do pure (Next.value (<- (do eqGuard (if neg then .neq else .eql) t x y (a.eval x) (a.eval y); Go.binOp (if neg then .neq else .eql) t (a.eval x) (a.eval y):Sem Value))):Sem Next).run P w) v m':=by
  intro op h hop;subst hop;simp only [AOp.run,bsI,msI,pjI] at h;obtain ⟨p,hp,q,hq,u,hu,rfl,rfl⟩:=h;obtain ⟨h1,h2⟩:=Xh (P:=P) (w:=w) (t:=t) (x:=x) (y:=y) (qw ht hp) (qw ht hq) hu;exact qI.still hi h1 h2
 unfold qbY at hr;split at hr
 ·rename_i hd;split at hr
  ·rename_i hc;cases hr
   simp only [AOp.run,P2.run,bsI,msI,pjI] at h;obtain ⟨p,hp,q,hq,u,hu,rfl,rfl⟩:=h;obtain ⟨h1,h2⟩:=sound_eqIface (P:=P) (w:=w) (x:=x) (y:=y) hd hc (qw ht hp) (qw ht hq) hu;exact qI.still hi h1 h2
  ·cases hr
 ·rename_i e hd;split at hr
  ·cases hr
   simp only [AOp.run,bsI,msI,pjI] at h;obtain ⟨p,hp,q,hq,u,hu,rfl,rfl⟩:=h;obtain ⟨h1,h2⟩:=sound_eqNil (P:=P) (w:=w) (t:=t) (x:=x) (y:=y) (by simp [wh,hd]) (qw ht hp) (qw ht hq) hu;exact qI.still hi h1 h2
  ·simp only [bsI] at hr;obtain ⟨s,hs,hr⟩:=hr;obtain ⟨i,hti,rfl⟩:=zx hs;split at hr
   ·rename_i hz;cases hr
    simp only [AOp.run,R2.run,bsI,msI,pjI] at h;obtain ⟨p,hp,q,hq,u,hu,rfl,rfl⟩:=h;obtain ⟨h1,h2⟩:=sound_eqPtr (P:=P) (x:=x) (y:=y) hi hd hti hz (qw ht hp) (qw ht hq) hu;exact qI.still hi h1 h2
   ·cases hr
 ·cases hr; exact ar h rfl
 ·cases hr; exact ar h rfl
 ·rename_i hd;cases hr
  simp only [AOp.run,bsI,msI,pjI] at h;obtain ⟨p,hp,q,hq,u,hu,rfl,rfl⟩:=h;obtain ⟨h1,h2⟩:=sound_eqBool (P:=P) (w:=w) (x:=x) (y:=y) hd (qw ht hp) (qw ht hq) hu;exact qI.still hi h1 h2
 ·split at hr
  ·rename_i d hd;split at hr
   ·rename_i hh;cases hr
    simp only [AOp.run,bsI,msI,pjI] at h;obtain ⟨p,hp,q,hq,u,hu,rfl,rfl⟩:=h;obtain ⟨h1,h2⟩:=sound_eq (P:=P) (w:=w) (x:=x) (y:=y) hh.1 hh.2.1 hh.2.2 (qw ht hp) (qw ht hq) hu;exact qI.still hi h1 h2
   ·cases hr
  ·cases hr
 ·simp only [msI] at hr;obtain ⟨k,hk,rfl⟩:=hr;simp only [AOp.run,bsI,msI,pjI] at h;obtain ⟨p,hp,q,hq,u,hu,rfl,rfl⟩:=h;obtain ⟨h1,h2⟩:=sound_eqNil (P:=P) (w:=w) (x:=x) (y:=y) hk (qw ht hp) (qw ht hq) hu;exact qI.still hi h1 h2
theorem zg {P:Program} {w:World} {ρ:Operand->Value} {b:Builtin} {xs:Array Operand} {tys:Array TypeId} {ty:TypeId} {s:Sem Value} {d:Option Tmp} {pos:String} {af:Array Edge} {g:Option (Nat × Bool)}
  (hb:∀ cs,builtin b tys ty cs (xs.map ρ)=(do pure (.value (<- s)))) :
  (execOp ρ ⟨d,.call { callee:=.builtin b,args:=xs,argTypes:=tys },ty,pos,af,g⟩).run P w=(do pure (Next.value (<- s)):Sem Next).run P w:=by
 simp only [execOp,resolve,Sem.run_bind,Sem.run_pure,Result.andThen_ok,invoke];rw [hb];simp
theorem Hj {P:Program} {b:Builtin} {tys:Array TypeId} {xs:Array Operand} {ao:AOp} (hr:Qi P b tys.toList xs.toList=some ao) {φ:Ren} {m m':Mem} {w:World} (hi:Inv φ m w) {ts:List Value} {a:Act} (ht:VRs φ ts a.tmps.toList) {v:Value} (h:ao.run ts m=some (v,m'))
  {ty:TypeId} {d:Option Tmp} {pos:String} {af:Array Edge} {g:Option (Nat × Bool)} :
  qI φ m w ((execOp a.eval ⟨d,.call { callee:=.builtin b,args:=xs,argTypes:=tys },ty,pos,af,g⟩).run P w) v m':=by
 unfold Qi at hr;split at hr
 ·rename_i t x h1 h2;have e1:tys=#[t]:=by apply Array.toList_inj.1; simpa using h1
  have e2:xs=#[x]:=by apply Array.toList_inj.1; simpa using h2
  subst e1; subst e2;rw [zg (s:=Builtin.len_ #[t] ty #[a.eval x]) (λ_=>by simp [builtin])];split at hr
  ·rename_i hd;cases hr
   simp only [AOp.run,bsI,msI,pjI] at h;obtain ⟨p,hp,u,hu,rfl,rfl⟩:=h;obtain ⟨h3,h4⟩:=Jo (P:=P) (w:=w) (ty:=ty) hd (qw ht hp) hu;exact qI.still hi h3 h4
  ·rename_i hd;cases hr
   simp only [AOp.run,bsI,msI,pjI] at h;obtain ⟨p,hp,u,hu,rfl,rfl⟩:=h;obtain ⟨h3,h4⟩:=Wc (P:=P) (w:=w) (ty:=ty) hd (qw ht hp) hu;exact qI.still hi h3 h4
  ·rename_i hd;cases hr
   simp only [AOp.run,R1.run,bsI,msI,pjI] at h;obtain ⟨p,hp,u,hu,rfl,rfl⟩:=h;obtain ⟨h3,h4⟩:=qat (P:=P) (ty:=ty) hi hd (qw ht hp) hu;exact qI.still hi h3 h4
  ·cases hr
 ·rename_i t x h1 h2;have e1:tys=#[t]:=by apply Array.toList_inj.1; simpa using h1
  have e2:xs=#[x]:=by apply Array.toList_inj.1; simpa using h2
  subst e1; subst e2;rw [zg (s:=Builtin.cap_ #[t] ty #[a.eval x]) (λ_=>by simp [builtin])];simp only [msI] at hr;obtain ⟨e,he,rfl⟩:=hr;simp only [AOp.run,R1.run,bsI,msI,pjI] at h;obtain ⟨p,hp,u,hu,rfl,rfl⟩:=h;obtain ⟨h3,h4⟩:=qdh (P:=P) (ty:=ty) hi (xP he) (qw ht hp) hu;exact qI.still hi h3 h4
 ·rename_i t u x k h1 h2;have e1:tys=#[t,u]:=by apply Array.toList_inj.1; simpa using h1
  have e2:xs=#[x,k]:=by apply Array.toList_inj.1; simpa using h2
  subst e1; subst e2;rw [zg (s:=Builtin.delete_ #[t,u] ty #[a.eval x,a.eval k]) (λ_=>by simp [builtin])];simp only [bsI,msI] at hr;obtain ⟨q,hq,kk,hkk,rfl⟩:=hr;simp only [AOp.run,E2.run,bsI,msI,pjI] at h;obtain ⟨p,hp,q',hq',u',hu,rfl,rfl⟩:=h;obtain ⟨w',h3,h4,h5⟩:=qau (P:=P) (ty:=ty) (tk:=u) hi (wj hq) hkk (qw ht hp) (qw ht hq') hu;exact qI.val h3 (VR.undef φ) h4 h5
 ·rename_i x h2;have e2:xs=#[x]:=by apply Array.toList_inj.1; simpa using h2
  subst e2;rw [zg (s:=Builtin.unsafeSliceData_ tys ty #[a.eval x]) (λ_=>by simp [builtin])];cases hr
  simp only [AOp.run,P1.run,bsI,msI,pjI] at h;obtain ⟨p,hp,u,hu,rfl,rfl⟩:=h;obtain ⟨U,h3,h4⟩:=Xy (P:=P) (w:=w) (ts:=tys) (ty:=ty) (qw ht hp) hu;exact qI.still hi h3 h4
 ·rename_i t u x n h1 h2;have e1:tys=#[t,u]:=by apply Array.toList_inj.1; simpa using h1
  have e2:xs=#[x,n]:=by apply Array.toList_inj.1; simpa using h2
  subst e1; subst e2;rw [zg (s:=Builtin.unsafeString_ #[t,u] ty #[a.eval x,a.eval n]) (λ_=>by simp [builtin])];split at hr
  ·rename_i e he;split at hr
   ·rename_i hc;cases hr
    simp only [AOp.run,E2.run,bsI] at h;obtain ⟨p,hp,q,hq,hu⟩:=h;obtain ⟨w',h3,h4,h5,h6⟩:=Xx (P:=P) (ty:=ty) (it:=u) hi he hc (qw ht hp) (qw ht hq) hu;exact qI.val h3 h4 h5 h6
   ·cases hr
  ·cases hr
 ·rename_i t u x y h1 h2;have e1:tys=#[t,u]:=by apply Array.toList_inj.1; simpa using h1
  have e2:xs=#[x,y]:=by apply Array.toList_inj.1; simpa using h2
  subst e1; subst e2;rw [zg (s:=Builtin.append_ #[t,u] ty #[a.eval x,a.eval y]) (λ_=>by simp [builtin])];simp only [bsI] at hr;obtain ⟨e,he,i,hti,z,hz,hr⟩:=hr;split at hr
  ·rename_i hh;cases hr
   simp only [AOp.run,bsI] at h;obtain ⟨p,hp,q,hq,⟨n,nc⟩,hsrc,h⟩:=h;obtain ⟨U,w',φ',h3,h4,h5,h6⟩:=Wk (P:=P) (ty:=ty) hi (xP he) hti hz hh.1 hh.2 (qw ht hp) (qw ht hq) hsrc h;exact qI.val h3 h4 h5 h6
  ·split at hr
   ·rename_i hh;cases hr
    obtain ⟨h31,h32,h33⟩:=hh;have hk:∃ k,P.underlying u=some (.int k):=by
     unfold qkQ at h33;split at h33
     ·exact ⟨_,‹_›⟩
     ·cases h33
    obtain ⟨k,hk⟩:=hk;simp only [AOp.run,E2.run,bsI] at h;obtain ⟨p,hp,q,hq,h⟩:=h;obtain ⟨U,w',φ',h3,h4,h5,h6⟩:=KG (P:=P) (ty:=ty) hi (xP he) hti hz h31 h32 hk (qw ht hp) (qw ht hq) h;exact qI.val h3 h4 h5 h6
   ·cases hr
 ·rename_i t u x y h1 h2;have e1:tys=#[t,u]:=by apply Array.toList_inj.1; simpa using h1
  have e2:xs=#[x,y]:=by apply Array.toList_inj.1; simpa using h2
  subst e1; subst e2;rw [zg (s:=Builtin.copy_ #[t,u] ty #[a.eval x,a.eval y]) (λ_=>by simp [builtin])];simp only [bsI,msI] at hr;obtain ⟨e,he,s,hs,rfl⟩:=hr;obtain ⟨i,hti,rfl⟩:=zx hs;simp only [AOp.run,bsI] at h;obtain ⟨p,hp,q,hq,⟨n,nc⟩,hsrc,h⟩:=h;obtain ⟨w',h3,h4,h5,h6⟩:=qav (P:=P) (ty:=ty) (ts:=t) (tx:=u) hi (xP he) hti (qw ht hp) (qw ht hq) hsrc h;exact qI.val h3 h4 h5 h6
 ·rename_i x r h2;have e2:xs=(x::r).toArray:=by apply Array.toList_inj.1; simpa using h2
  subst e2;rw [zg (s:=Builtin.min_ tys ty ((x::r).toArray.map a.eval)) (λ_=>rfl)];cases hr
  simp only [AOp.run,bsI,msI,pjI] at h;obtain ⟨p,hp,l,hl,u,hu,rfl,rfl⟩:=h;obtain ⟨U,h3,h4⟩:=Xg (P:=P) (w:=w) qar _ _ _ _ _ (qw ht hp) (vG ht hl) hu;exact qI.still hi (by simpa [Builtin.min_] using h3) h4
 ·rename_i x r h2;have e2:xs=(x::r).toArray:=by apply Array.toList_inj.1; simpa using h2
  subst e2;rw [zg (s:=Builtin.max_ tys ty ((x::r).toArray.map a.eval)) (λ_=>rfl)];cases hr
  simp only [AOp.run,bsI,msI,pjI] at h;obtain ⟨p,hp,l,hl,u,hu,rfl,rfl⟩:=h;obtain ⟨U,h3,h4⟩:=Xg (P:=P) (w:=w) qas _ _ _ _ _ (qw ht hp) (vG ht hl) hu;exact qI.still hi (by simpa [Builtin.max_] using h3) h4
 ·rename_i t x h1 h2;have e1:tys=#[t]:=by apply Array.toList_inj.1; simpa using h1
  have e2:xs=#[x]:=by apply Array.toList_inj.1; simpa using h2
  subst e1; subst e2;rw [zg (s:=Builtin.clear_ #[t] ty #[a.eval x]) (λ_=>by simp [builtin])];split at hr
  ·rename_i hd;cases hr
   simp only [AOp.run,E1.run,bsI,msI,pjI] at h;obtain ⟨p,hp',u,hu,rfl,rfl⟩:=h;obtain ⟨w',h3,h4,h5⟩:=Wh (P:=P) (ty:=ty) hi hd (qw ht hp') hu;exact qI.val h3 (VR.undef φ) h4 h5
  ·rename_i e he;simp only [bsI] at hr;obtain ⟨s,hs,z,hz,hr⟩:=hr;obtain ⟨i,hti,rfl⟩:=zx hs;obtain ⟨i',hti',hzi,hp⟩:=xK hz;rw [hti] at hti'; cases hti'
   split at hr
   ·cases hr
    simp only [AOp.run,bsI,msI,pjI] at h;obtain ⟨p,hp',u,hu,rfl,rfl⟩:=h;obtain ⟨w',U,h3,h4,h5,h6⟩:=YQ (P:=P) (ty:=ty) hi he hti hzi hp (qw ht hp') hu;exact qI.val h3 h4 h5 h6
   ·cases hr
  ·cases hr
 ·cases hr
end Go.Fx
namespace Go.Fx
open Go
theorem Xk {P:Program} {w:World}:∀ {l:List Field} {pl:List (Nat × Nat)},(l.mapM λf=>(ji P f.type).map λs=>(f.offset,s))=some pl ->
  (l.mapM (λf=>do pure (f.offset,<- sizeOf f.type)):Sem (List (Nat × Nat))).run P w=.ok pl w
 | [],pl,h=>by simp at h; subst h; simp
 | f::l,pl,h=>by
  simp only [List.mapM_cons,Option.bind_eq_bind,bsI,msI,Option.pure_def,sjI] at h;obtain ⟨p,⟨s,hs,rfl⟩,r,hr,rfl⟩:=h;obtain ⟨i,hi,rfl⟩:=zx hs;have:=Xk (w:=w) hr;simp only [List.mapM_cons,Sem.run_bind,ze hi,Result.andThen_ok,Sem.run_pure];rw [this]; rfl
theorem YR {P:Program} {φ:Ren} {w:World} {t:TypeId} {fs:Array Field} {z:Value} {pl:List (Nat × Nat)} {i:TypeInfo} (hfs:P.underlying t=some (.struct fs)) (hti:P.info? t=some i) (hz:i.zero=some z) (hp:z.cells.toList.all plain=true)
  (hpl:Xt P fs=some pl) {ps:List (Nat × Nat × Value)} {PS:Array (Nat × Value)} (hP:ZZ φ (λi=>pl[i]?) ps PS.toList) {c:List Value} (h:qt z.cells.toList ps=some c) :
  ∃ V,(Instr.build t PS).run P w=.ok V w/\VR φ (.agg c.toArray) V:=by
 obtain ⟨R,hR,r⟩:=Zq (place:=λi=>pl.toArray[i]?) ps PS.toList z.cells.toList z.cells c (by simpa using hP) (VRs.plain hp) h;refine ⟨.agg R,?_,by have:=r.agg; simpa using this⟩;have hm:(fs.mapM (λf=>do pure (f.offset,<- sizeOf f.type)):Sem (Array (Nat × Nat))).run P w=.ok pl.toArray w:=by
  have:=Xk (w:=w) (P:=P) (l:=fs.toList) hpl;rw [<- Array.toList_mapM] at this;simp only [Sem.run_map] at this;generalize (fs.mapM (λf=>do pure (f.offset,<- sizeOf f.type)):Sem (Array (Nat × Nat))).run P w=q at this ⊢
  cases q with
  | ok q w'=>simp at this; obtain ⟨rfl,rfl⟩:=this; simp
  | halt q w'=>simp at this
 simp only [Instr.build,Sem.run_bind,zV hti hz,Result.andThen_ok,qy hfs,hm];rw [hR];simp
theorem Wi {P:Program} {φ:Ren} {w:World} {t:TypeId} {n:Nat} {e:TypeId} {z:Value} {j i:TypeInfo} (hfs:P.underlying t=some (.array n e)) (hti:P.info? t=some i) (hz:i.zero=some z) (hp:z.cells.toList.all plain=true)
  (hj:P.info? e=some j) {ps:List (Nat × Nat × Value)} {PS:Array (Nat × Value)} (hP:ZZ φ (λi=>some (i * j.size,j.size)) ps PS.toList) {c:List Value} (h:qt z.cells.toList ps=some c) :
  ∃ V,(Instr.build t PS).run P w=.ok V w/\VR φ (.agg c.toArray) V:=by
 obtain ⟨R,hR,r⟩:=Zq (place:=λi=>some (i * j.size,j.size)) ps PS.toList z.cells.toList z.cells c hP (VRs.plain hp) h;refine ⟨.agg R,?_,by have:=r.agg; simpa using this⟩;simp only [Instr.build,Sem.run_bind,zV hti hz,Result.andThen_ok,qy hfs,ze hj];rw [hR];simp
theorem ZA {P:Program} {φ:Ren} {m:Mem} {w:World} (hi:Inv φ m w) {t e:TypeId} {i:TypeInfo} {z:Value} {len:Nat} (hte:P.underlying t=some (.slice e)) (hti:P.info? e=some i) (hz:i.zero=some z) (hp:z.cells.toList.all plain=true) (hs:z.cells.size=i.size) (hlen:len * i.size<=2 ^ 24)
  {ps:List (Nat × Nat × Value)} {PS:Array (Nat × Value)} (hP:ZZ φ (λk=>some (k * i.size,i.size)) ps PS.toList) {c:List Value} (h:qt (List.replicate len z.cells.toList).flatten ps=some c) :
  ∃ V w' φ',(Instr.buildSlice t len PS).run P w=.ok V w'/\VR φ' (xM e len c m).1 V/\Inv φ' (xM e len c m).2 w'/\Frm φ m w φ' (xM e len c m).2 w':=by
 have hrep:=replicate_flatten_eq z.cells i.size len hs;have hplain:(List.replicate len z.cells.toList).flatten.all plain=true:=by
  rw [List.all_eq_true];intro v hv;simp only [List.mem_flatten,List.mem_replicate] at hv;obtain ⟨l,⟨_,rfl⟩,hv⟩:=hv;exact List.all_eq_true.1 hp v hv
 obtain ⟨R,hR,r⟩:=Zq ps PS.toList _ ((Array.range (len * i.size)).map (z.cells[· % z.cells.size]!)) c hP (by rw [hrep]; exact VRs.plain hplain) h;obtain ⟨φ',h1,h2,h3⟩:=hi.Qt e r;refine ⟨.slice (some ⟨w.heap.size,0,none⟩) len len,_,φ',?_,?_,h1,h2⟩
 ·have hn:¬ (len * i.size > 2 ^ 24):=by omega
  simp only [Instr.buildSlice,Sem.run_bind,qy hte,Result.andThen_ok,ze hti,Sem.run_ite,if_neg hn,Sem.run_pure];by_cases h0:len * i.size=0
  ·rw [if_pos h0];have e0:(Array.range (len * i.size)).map ((#[]:Array Value)[· % (#[]:Array Value).size]!)=(Array.range (len * i.size)).map (z.cells[· % z.cells.size]!):=by rw [h0]; simp
   rw [e0,hR];simp [newRow]
  ·rw [if_neg h0];simp only [Sem.run_bind,zV hti hz,Result.andThen_ok,Sem.run_pure];rw [hR];simp [newRow]
 ·exact VR.sliceEx m.next 0 len len ⟨w.heap.size,0,none,0⟩ h3 rfl
theorem qaK {P:Program} {o:Oper} {ao:AOp} (hr:ZK P o=some ao) {φ:Ren} {m m':Mem} {w:World} (hi:Inv φ m w) {ts:List Value} {a:Act} (ht:VRs φ ts a.tmps.toList) {v:Value} (h:ao.run ts m=some (v,m')) :
  qI φ m w ((execOp a.eval o).run P w) v m':=by
 obtain ⟨dst,op,ty,pos,af,g⟩:=o;cases op<;>simp only [ZK] at hr
 case move x =>
  cases hr
  simp only [AOp.run,msI,pjI] at h;obtain ⟨p,hp,rfl,rfl⟩:=h;exact qI.quiet hi (qw ht hp) rfl
 case assign x =>
  cases hr
  simp only [AOp.run,msI,pjI] at h;obtain ⟨p,hp,rfl,rfl⟩:=h;exact qI.quiet hi (qw ht hp) rfl
 case nilCheck x =>
  cases hr
  simp only [AOp.run,bsI,msI,pjI] at h;obtain ⟨p,hp,u,hu,rfl,rfl⟩:=h;have hv:=qw ht hp;generalize hx:a.eval x=X at hv;unfold qC at hu;split at hu
  ·cases hu
   cases hv with
   | ptr b off l hl=>exact qI.quiet hi (.ptr b off l hl) (by simp [execOp,hx])
  ·cases hu
   cases hv with
   | func _ _ _ _ _ h1 h2 h3 h4=>exact qI.quiet hi (.func _ _ _ _ _ h1 h2 h3 h4) (by simp [execOp,hx])
  ·cases hu
 case pick c x y =>
  cases hr
  simp only [AOp.run,bsI,msI,pjI] at h;obtain ⟨p,hp,t,htt,q,hq,r,hrr,rfl,rfl⟩:=h;have hv:=qw ht hp;generalize hx:a.eval c=C at hv;unfold asB at htt;split at htt
  ·cases htt
   cases hv
   cases t
   ·exact qI.quiet hi (qw ht hrr) (by simp [execOp,hx,asBool])
   ·exact qI.quiet hi (qw ht hq) (by simp [execOp,hx,asBool])
  ·cases htt
 case alloc e =>
  simp only [msI] at hr;obtain ⟨z,hz,rfl⟩:=hr;obtain ⟨i,hti,hzi,hp⟩:=xK hz;simp only [AOp.run,sjI] at h;have e1:(jK e z m).1=v:=by rw [h]
  have e2:(jK e z m).2=m':=by rw [h]
  subst e1; subst e2;obtain ⟨V,w',φ',h1,h2,h3,h4⟩:=YS (P:=P) hi hti hzi (VR.QM hp);exact qI.val h1 h2 h3 h4
 case box e x =>
  cases hr
  simp only [AOp.run,msI] at h;obtain ⟨p,hp,h⟩:=h;have e1:(jK e p m).1=v:=by rw [h]
  have e2:(jK e p m).2=m':=by rw [h]
  subst e1; subst e2;obtain ⟨V,w',φ',h1,h2,h3,h4⟩:=qdi (P:=P) hi e (qw ht hp);exact qI.val h1 h2 h3 h4
 case build t ps =>
  split at hr
  ·rename_i q hq;simp only [bsI,msI] at hr;obtain ⟨s,hs,z,hz,l,hl,rfl⟩:=hr;obtain ⟨j,hj,rfl⟩:=zx hs;obtain ⟨i,hti,hzi,hp⟩:=xK hz;simp only [AOp.run,bsI,msI,pjI] at h;obtain ⟨r,hr,c,hc,rfl,rfl⟩:=h;have hP:=wx ht hl hr;obtain ⟨V,h1,h2⟩:=Wi (P:=P) (w:=w) (PS:=ps.map λ(i,x)=>(i,a.eval x)) (VH hq) hti hzi hp hj (by simpa using hP) hc;exact qI.still hi h1 h2
  ·simp only [bsI,msI] at hr;obtain ⟨fs,hfs,z,hz,pl,hpl,l,hl,rfl⟩:=hr;obtain ⟨i,hti,hzi,hp⟩:=xK hz;simp only [AOp.run,bsI,msI,pjI] at h;obtain ⟨r,hr,c,hc,rfl,rfl⟩:=h;have hP:=wx ht hl hr;obtain ⟨V,h1,h2⟩:=YR (P:=P) (w:=w) (PS:=ps.map λ(i,x)=>(i,a.eval x)) (wP hfs) hti hzi hp hpl (by simpa using hP) hc;exact qI.still hi h1 h2
 case buildSlice t len ps =>
  simp only [bsI] at hr;obtain ⟨e,he,s,hs,z,hz,hr⟩:=hr;obtain ⟨i,hti,rfl⟩:=zx hs;obtain ⟨i',hti',hzi,hp⟩:=xK hz;rw [hti] at hti'; cases hti'
  split at hr
  ·rename_i hh;simp only [msI] at hr;obtain ⟨l,hl,rfl⟩:=hr;simp only [AOp.run,bsI,msI] at h;obtain ⟨r,hr,c,hc,h⟩:=h;have hP:=wx ht hl hr;have e1:(xM e len c m).1=v:=by rw [h]
   have e2:(xM e len c m).2=m':=by rw [h]
   subst e1; subst e2;obtain ⟨V,w',φ',h1,h2,h3,h4⟩:=ZA (P:=P) (PS:=ps.map λ(i,x)=>(i,a.eval x)) hi (xP he) hti hzi hp hh.2.1 hh.1 (by simpa using hP) hc;exact qI.val h1 h2 h3 h4
  ·cases hr
 case load t x =>
  simp only [bsI] at hr;obtain ⟨ag,hag,hr⟩:=hr;cases ag
  ·simp only [Bool.false_eq_true,if_false,sjI] at hr;subst hr;simp only [AOp.run,bsI,msI,pjI] at h;obtain ⟨p,hp,u,hu,rfl,rfl⟩:=h;obtain ⟨U,h1,h2⟩:=Xf (P:=P) hi hag (qw ht hp) hu;exact qI.still hi h1 h2
  ·simp only [if_true,msI] at hr;obtain ⟨n,hn,rfl⟩:=hr;obtain ⟨i,hti,rfl⟩:=zx hn;simp only [AOp.run,bsI,msI,pjI] at h;obtain ⟨p,hp,u,hu,rfl,rfl⟩:=h;obtain ⟨U,h1,h2⟩:=Xe (P:=P) hi hag hti (qw ht hp) hu;exact qI.still hi h1 h2
 case store t x y =>
  simp only [msI] at hr;obtain ⟨n,hn,rfl⟩:=hr;obtain ⟨i,hti,rfl⟩:=zx hn;simp only [AOp.run,bsI,msI,pjI] at h;obtain ⟨p,hp,q,hq,u,hu,rfl,rfl⟩:=h;obtain ⟨w',h1,h2,h3⟩:=YK (P:=P) hi hti (qw ht hp) (qw ht hq) hu;exact ⟨undef,w',φ,.inr ⟨by simp [execOp,h1],rfl⟩,VR.undef φ,h2,h3⟩
 case binOp op t x y ty2 =>
  by_cases h1:op=.eql
  ·subst h1;exact res_eq (neg:=false) hr hi ht h
  ·by_cases h2:op=.neq
   ·subst h2;exact res_eq (neg:=true) hr hi ht h
   ·have hr':some (AOp.arith op x y)=some ao:=by
     cases op<;>simp at h1 h2<;>exact hr
    cases hr'
    simp only [AOp.run,bsI,msI,pjI] at h;obtain ⟨p,hp,q,hq,u,hu,rfl,rfl⟩:=h;obtain ⟨h1,h2⟩:=Xh (P:=P) (w:=w) (t:=t) (x:=x) (y:=y) (qw ht hp) (qw ht hq) hu;exact qI.still hi h1 h2
 case unOp op t x =>
  cases hr
  simp only [AOp.run,bsI,msI,pjI] at h;obtain ⟨p,hp,u,hu,rfl,rfl⟩:=h;obtain ⟨h1,h2⟩:=qeF (P:=P) (w:=w) (qw ht hp) hu;exact qI.still hi h1 h2
 case convert s d x =>
  split at hr
  ·rename_i hs hd;cases hr
   simp only [AOp.run,bsI,msI,pjI] at h;obtain ⟨p,hp,u,hu,rfl,rfl⟩:=h;obtain ⟨h1,h2⟩:=qaw (P:=P) (w:=w) hs hd (qw ht hp) hu;exact qI.still hi h1 h2
  ·rename_i e hs hd;split at hr
   ·rename_i he;cases hr
    simp only [AOp.run,E1.run,bsI] at h;obtain ⟨p,hp,hu⟩:=h;obtain ⟨U,w',φ',h1,h2,h3,h4⟩:=qdd (P:=P) hi hs hd he (qw ht hp) hu;exact qI.val h1 h2 h3 h4
   ·cases hr
  ·rename_i t hs hd;simp only [bsI] at hr;obtain ⟨n,hn,hr⟩:=hr;obtain ⟨i,hti,rfl⟩:=zx hn;split at hr
   ·rename_i hz;cases hr
    simp only [AOp.run,R1.run,bsI,msI,pjI] at h;obtain ⟨p,hp,u,hu,rfl,rfl⟩:=h;obtain ⟨U,h1,h2⟩:=qdf (P:=P) hi hs hd hti hz (qw ht hp) hu;exact qI.still hi h1 h2
   ·cases hr
  ·rename_i t hs hd;simp only [bsI] at hr;obtain ⟨n,hn,hr⟩:=hr;obtain ⟨i,hti,rfl⟩:=zx hn;split at hr
   ·rename_i hz;cases hr
    simp only [AOp.run,R1.run,bsI,msI,pjI] at h;obtain ⟨p,hp,u,hu,rfl,rfl⟩:=h;obtain ⟨U,h1,h2⟩:=qdc (P:=P) hi hs hd hti (λk hk=>Hv (by rw [hz.2]; exact hz.1) k hk) hz.2 hz.1 (qw ht hp) hu;exact qI.still hi h1 h2
   ·cases hr
  ·rename_i hs hd;split at hr
   ·rename_i he;cases hr
    simp only [AOp.run,bsI,msI,pjI] at h;obtain ⟨p,hp,u,hu,rfl,rfl⟩:=h;obtain ⟨h1,h2⟩:=qdj (P:=P) hi hs hd he (qw ht hp) hu;exact qI.still hi h1 h2
   ·cases hr
  ·cases hr
 case makeFunc fn first captured =>
  cases fn<;>simp only [ZK] at hr<;>try (cases hr; done)
  cases hr
  simp only [AOp.run,bsI,msI,pjI] at h;obtain ⟨l0,hl0,l,hl,rfl,rfl⟩:=h;have h0:=vG ht hl0;have h1:=vG ht hl;refine qI.quiet hi (.func _ l0.toArray (first.map a.eval) l.toArray (captured.map a.eval) ?_ ?_ ?_ ?_) (by simp [execOp,Instr.makeFunc])
  ·have:=h0.1; simpa using this
  ·intro i x y hx hy;exact h0.2 i x y (by simpa using hx) (by simpa using hy)
  ·have:=h1.1; simpa using this
  ·intro i x y hx hy;exact h1.2 i x y (by simpa using hx) (by simpa using hy)
 case lookup t x y ok =>
  simp only [bsI,msI] at hr;obtain ⟨q,hq,kk,hkk,z,hz,rfl⟩:=hr;obtain ⟨i,hti,hzi,hzp⟩:=xK hz;simp only [AOp.run,R2.run,bsI,msI,pjI] at h;obtain ⟨p,hp,k,hk,u,hu,rfl,rfl⟩:=h;obtain ⟨U,h1,h2⟩:=Wb (P:=P) hi (wj hq) hkk hti hzi (VR.QM hzp) (qw ht hp) (qw ht hk) hu;exact qI.still hi h1 h2
 case mapUpdate t x k y =>
  simp only [bsI,msI] at hr;obtain ⟨q,hq,kk,hkk,rfl⟩:=hr;simp only [AOp.run,bsI,msI,pjI] at h;obtain ⟨p,hp,k,hk,u,hu,v',hv,rfl,rfl⟩:=h;obtain ⟨w',h1,h2,h3⟩:=QE (P:=P) hi (wj hq) hkk (qw ht hp) (qw ht hk) (qw ht hu) hv;exact ⟨undef,w',φ,.inr ⟨by simp [execOp,h1],rfl⟩,VR.undef φ,h2,h3⟩
 case insert t x k y =>
  simp only [bsI,msI] at hr;obtain ⟨q,hq,kk,hkk,rfl⟩:=hr;simp only [AOp.run,bsI,msI,pjI] at h;obtain ⟨p,hp,k,hk,u,hu,v',hv,rfl,rfl⟩:=h;obtain ⟨w',h1,h2,h3⟩:=QE (P:=P) hi (wj hq) hkk (qw ht hp) (qw ht hk) (qw ht hu) hv;exact ⟨undef,w',φ,.inr ⟨by simp [execOp,h1],rfl⟩,VR.undef φ,h2,h3⟩
 case makeMap t x =>
  simp only [msI] at hr;obtain ⟨q,hq,rfl⟩:=hr;simp only [AOp.run,bsI] at h;obtain ⟨p,hp,h⟩:=h;split at h
  ·rename_i hh;obtain ⟨V,w',φ',h1,h2,h3,h4⟩:=YN (P:=P) hi t;have e1:(zK m).1=v:=by rw [Option.some.inj h]
   have e2:(zK m).2=m':=by rw [Option.some.inj h]
   subst e1; subst e2;refine qI.val (s:=Instr.makeMap t (x.map a.eval)) (V:=V) ?_ h2 h3 h4;have hx:=kh ht hp;generalize x.map a.eval=X at hx;unfold qbd at hh;split at hh
   ·cases X with
    | none=>exact h1
    | some _=>exact hx.elim
   ·cases X with
    | none=>exact hx.elim
    | some X =>
     simp only [wX] at hx;cases hx
     rw [<- h1];simp [Instr.makeMap,qy (wj hq),asInt,asIntOf]
   ·cases hh
  ·cases h
 case range t x =>
  split at hr
  ·rename_i hd;cases hr
   simp only [AOp.run,E1.run,bsI] at h;obtain ⟨p,hp,hu⟩:=h;obtain ⟨U,w',φ',h1,h2,h3,h4⟩:=VZ (P:=P) hi hd (qw ht hp) hu;exact qI.val h1 h2 h3 h4
  ·cases hr
 case next x str =>
  cases str
  ·simp only [ZK] at hr; cases hr
  ·simp only [ZK] at hr;cases hr
   simp only [AOp.run,E1.run,bsI] at h;obtain ⟨p,hp,hu⟩:=h;obtain ⟨w',h1,h2,h3,h4⟩:=YL (P:=P) (ty:=ty) hi (qw ht hp) hu;exact qI.val h1 h2 h3 h4
 case typeAssert x xt t ok =>
  split at hr
  ·cases hr
  ·rename_i d hd hni;simp only [msI] at hr;obtain ⟨z,hz,rfl⟩:=hr;obtain ⟨i,hti,hzi,hzp⟩:=xK hz;simp only [AOp.run,P1.run,bsI,msI,pjI] at h;obtain ⟨p,hp,u,hu,rfl,rfl⟩:=h;obtain ⟨U,h1,h2⟩:=Wj (P:=P) (w:=w) (xt:=xt) hni (λms e=>hd ms e) hti hzi (VR.QM hzp) (qw ht hp) hu;exact qI.still hi h1 h2
  ·cases hr
 case fieldAddr t x k =>
  simp only [bsI] at hr;obtain ⟨fs,hfs,f,hf,s,hs,hr⟩:=hr;obtain ⟨i,hti,rfl⟩:=zx hs;split at hr
  ·rename_i hz;cases hr
   simp only [AOp.run,bsI,msI,pjI] at h;obtain ⟨p,hp,u,hu,rfl,rfl⟩:=h;obtain ⟨U,h1,h2⟩:=Xz (P:=P) (w:=w) (wP hfs) hf hti hz (qw ht hp) hu;exact qI.still hi h1 h2
  ·cases hr
 case field t x k =>
  simp only [bsI,msI] at hr;obtain ⟨fs,hfs,f,hf,s,hs,ag,hag,rfl⟩:=hr;simp only [AOp.run,bsI,msI,pjI] at h;obtain ⟨p,hp,u,hu,rfl,rfl⟩:=h;obtain ⟨U,h1,h2⟩:=YO (P:=P) (w:=w) (wP hfs) hf hs hag (qw ht hp) hu;exact qI.still hi h1 h2
 case indexAddr t x i =>
  split at hr
  ·rename_i e he;simp only [msI] at hr;obtain ⟨s,hs,rfl⟩:=hr;obtain ⟨i',hti,rfl⟩:=zx hs;simp only [AOp.run,bsI,msI,pjI] at h;obtain ⟨p,hp,q,hq,u,hu,rfl,rfl⟩:=h;obtain ⟨U,h1,h2⟩:=Wd (P:=P) (w:=w) (xP he) hti (qw ht hp) (qw ht hq) hu;exact qI.still hi h1 h2
  ·simp only [bsI,msI] at hr;obtain ⟨⟨n,e⟩,he,s,hs,rfl⟩:=hr;obtain ⟨i',hti,rfl⟩:=zx hs;simp only [AOp.run,bsI,msI,pjI] at h;obtain ⟨p,hp,q,hq,u,hu,rfl,rfl⟩:=h;obtain ⟨U,h1,h2⟩:=Wf (P:=P) (w:=w) (VH he) hti (qw ht hp) (qw ht hq) hu;exact qI.still hi h1 h2
 case index t x i =>
  split at hr
  ·rename_i hd;cases hr
   simp only [AOp.run,bsI,msI,pjI] at h;obtain ⟨p,hp,q,hq,u,hu,rfl,rfl⟩:=h;obtain ⟨h1,h2⟩:=Jp (P:=P) (w:=w) hd (qw ht hp) (qw ht hq) hu;exact qI.still hi h1 h2
  ·rename_i n e hd;simp only [bsI,msI] at hr;obtain ⟨s,hs,ag,hag,rfl⟩:=hr;obtain ⟨i',hti,rfl⟩:=zx hs;simp only [AOp.run,bsI,msI,pjI] at h;obtain ⟨p,hp,q,hq,u,hu,rfl,rfl⟩:=h;obtain ⟨U,h1,h2⟩:=Jq (P:=P) (w:=w) hd hti hag (qw ht hp) (qw ht hq) hu;exact qI.still hi h1 h2
  ·cases hr
 case slice t x lo hi' mx =>
  cases mx with
  | some mx =>
   simp only [ZK,bsI,msI] at hr;obtain ⟨e,he,s,hs,rfl⟩:=hr;obtain ⟨i,hti,rfl⟩:=zx hs;simp only [AOp.run,bsI,msI,pjI] at h;obtain ⟨p,hp,l,hl,q,hq,k,hk,u,hu,rfl,rfl⟩:=h;obtain ⟨U,h1,h2⟩:=VY (P:=P) hi (xP he) hti (qw ht hp) (kh ht hl) (kh ht hq) (qw ht hk) hu;exact qI.still hi h1 h2
  | none =>
   simp only [ZK] at hr;split at hr
   ·rename_i hd;cases hr
    simp only [AOp.run,bsI,msI,pjI] at h;obtain ⟨p,hp,l,hl,q,hq,u,hu,rfl,rfl⟩:=h;obtain ⟨h1,h2⟩:=Jn (P:=P) (w:=w) hd (qw ht hp) (kh ht hl) (kh ht hq) hu;exact qI.still hi h1 h2
   ·rename_i e hd;simp only [msI] at hr;obtain ⟨s,hs,rfl⟩:=hr;obtain ⟨i',hti,rfl⟩:=zx hs;simp only [AOp.run,bsI,msI,pjI] at h;obtain ⟨p,hp,l,hl,q,hq,u,hu,rfl,rfl⟩:=h;obtain ⟨U,h1,h2⟩:=VW (P:=P) hi hd hti (qw ht hp) (kh ht hl) (kh ht hq) hu;exact qI.still hi h1 h2
   ·rename_i n e hd;simp only [msI] at hr;obtain ⟨s,hs,rfl⟩:=hr;obtain ⟨i',hti,rfl⟩:=zx hs;simp only [AOp.run,bsI,msI,pjI] at h;obtain ⟨p,hp,l,hl,q,hq,u,hu,rfl,rfl⟩:=h;obtain ⟨U,h1,h2⟩:=VX (P:=P) hi hd hti (qw ht hp) (kh ht hl) (kh ht hq) hu;exact qI.still hi h1 h2
   ·cases hr
 case makeSlice t n c =>
  simp only [bsI] at hr;obtain ⟨e,he,i,hti,z,hz,hr⟩:=hr;obtain ⟨i',hti',hzi,hp⟩:=xK hz;rw [hti] at hti'; cases hti'
  split at hr
  ·rename_i hs;cases hr
   simp only [AOp.run,bsI] at h;obtain ⟨p,hp',q,hq,h⟩:=h;obtain ⟨V,w',φ',h1,h2,h3,h4⟩:=YM (P:=P) hi (xP he) hti hzi hp hs (qw ht hp') (qw ht hq) h;exact qI.val h1 h2 h3 h4
  ·cases hr
 case makeInterface t x =>
  simp only [bsI] at hr;obtain ⟨d,hd,hr⟩:=hr;split at hr
  ·cases hr
  ·rename_i hnot;cases hr
   simp only [AOp.run,msI,pjI] at h;obtain ⟨p,hp,rfl,rfl⟩:=h;refine qI.still (V:=.iface t (a.eval x)) hi ?_ (.iface t _ _ (qw ht hp));simp only [Instr.makeInterface,Sem.run_bind,qy hd,Result.andThen_ok];cases d<;>first|rfl|exact (hnot _ rfl).elim
 case extract x i =>
  cases hr
  simp only [AOp.run,bsI,msI,pjI] at h;obtain ⟨p,hp,u,hu,rfl,rfl⟩:=h;have hv:=qw ht hp;generalize hx:a.eval x=X at hv;unfold qG at hu;split at hu
  ·cases hv with
   | tuple xs ys h1 h2 =>
   obtain ⟨U,hU,r⟩:=(VRs.of_array h1 h2).get (i:=i) (x:=u) (by simpa using hu);refine qI.quiet hi r ?_;have hU':ys[i]? = some U:=by simpa using hU
   simp [execOp,hx,Instr.extract,hU']
  ·cases hu
 all_goals (first|cases hr|(simp only [ZK] at hr; cases hr))
theorem XF {P:Program} {w:World} {a:Act} {f:FuncId} {fn:Func} {e:Array Value->Sem Value} {xs:Array Operand} {tys:Array TypeId} {ty:TypeId} {d:Option Tmp} {pos:String} {af:Array Edge} {g:Option (Nat × Bool)} {V:Value} {w':World}
  (hf : P.funcs[f]? = some fn) (hn : ¬ fn.name = "runtime.NumGoroutine") (hb : fn.body.isNone = true) (h1 : Extern.findNext fn = none) (h2 : Extern.find fn = some e) (hev : (e (xs.map a.eval)).run P w = .ok V w') :
  (execOp a.eval ⟨d,.call { callee:=.value (.func f),args:=xs,argTypes:=tys },ty,pos,af,g⟩).run P w=.ok (.value V) w':=by
 have hx:a.eval (.func f)=.func (.func f) #[] #[]:=rfl;have hb':fn.body=none:=by simpa using hb
 simp [execOp,resolve,Deferred.ofValue,hx,invoke,callFunc,hf,hn,hb',h1,h2,hev]
theorem find_noEscape {fn : Func} (h : fn.name = "internal/abi.NoEscape") (ho : fn.origin = "") : Extern.findNext fn = none ∧ Extern.find fn = some Extern.AbiNoEscape.same := by
 refine ⟨?_,?_⟩
 ·unfold Extern.findNext; simp only [h,ho]; kernel_rfl
 ·unfold Extern.find; simp only [h,ho]; kernel_rfl
theorem find_noZero {fn : Func} (h : fn.name = "internal/bytealg.MakeNoZero") (ho : fn.origin = "") : Extern.findNext fn = none ∧ Extern.find fn = some (Extern.BytealgMakeNoZero.makeNoZero fn.params fn.resultTypes) := by
 refine ⟨?_,?_⟩
 ·unfold Extern.findNext; simp only [h,ho]; kernel_rfl
 ·unfold Extern.find; simp only [h,ho]; kernel_rfl
theorem find_idxByte {fn : Func} (h : fn.name = "internal/bytealg.IndexByteString") (ho : fn.origin = "") : Extern.findNext fn = none ∧ Extern.find fn = some Extern.BytealgIndexByte.indexByte := by
 refine ⟨?_,?_⟩
 ·unfold Extern.findNext; simp only [h,ho]; kernel_rfl
 ·unfold Extern.find; simp only [h,ho]; kernel_rfl
theorem find_cloneM {fn : Func} (h : fn.name = "maps.clone") (ho : fn.origin = "") : Extern.findNext fn = none ∧ Extern.find fn = some Extern.MapsClone.clone := by
 refine ⟨?_,?_⟩
 ·unfold Extern.findNext; simp only [h,ho]; kernel_rfl
 ·unfold Extern.find; simp only [h,ho]; kernel_rfl
theorem extOf_some {P : Program} {f : FuncId} {p : ExtK × Func} (h : extOf P f = some p) : P.funcs[f]? = some p.2 ∧ p.2.body.isNone = true ∧ p.2.origin = "" ∧ extK p.2.name = some p.1 := by
 unfold extOf at h;split at h
 ·rename_i fn hfn;split at h
  ·rename_i hb;simp only [msI] at h;obtain ⟨k,hk,rfl⟩:=h;exact ⟨hfn,hb.1,hb.2,hk⟩
  ·cases h
 ·cases h
theorem extK_name {n : String} {k : ExtK} (h : extK n = some k) : n = (match k with | .noEscape => "internal/abi.NoEscape" | .noZero => "internal/bytealg.MakeNoZero" | .idxByte => "internal/bytealg.IndexByteString" | .cloneM => "maps.clone") := by
 unfold extK at h;split at h
 ·cases h; assumption
 ·split at h
  ·cases h; assumption
  ·split at h
   ·cases h; assumption
   ·split at h
    ·cases h; assumption
    ·cases h
theorem Wr {P:Program} {f:FuncId} {xs:Array Operand} {tys:Array TypeId} {ao:AOp} (hr:qaL P f xs.toList=some ao) {φ:Ren} {m m':Mem} {w:World} (hi:Inv φ m w) {ts:List Value} {a:Act} (ht:VRs φ ts a.tmps.toList) {v:Value} (h:ao.run ts m=some (v,m'))
  {ty:TypeId} {d:Option Tmp} {pos:String} {af:Array Edge} {g:Option (Nat × Bool)} :
  qI φ m w ((execOp a.eval ⟨d,.call { callee:=.value (.func f),args:=xs,argTypes:=tys },ty,pos,af,g⟩).run P w) v m':=by
 simp only [qaL,bsI] at hr;obtain ⟨⟨k,fn⟩,hp,hr⟩:=hr;obtain ⟨hf,hb,ho,hk⟩:=extOf_some hp;have hn:=extK_name hk;simp only at hf hb ho hn;have hne : ¬ fn.name = "runtime.NumGoroutine" := by
  intro e;simp only [e] at hk;have : extK "runtime.NumGoroutine" = none := by decide
  rw [this] at hk; cases hk
 split at hr
 ·rename_i _ _ x hk' hx;obtain rfl:=hk';have e2:xs=#[x]:=by apply Array.toList_inj.1; simpa using hx
  subst e2;cases hr
  simp only [AOp.run,msI,pjI] at h;obtain ⟨p,hp,rfl,rfl⟩:=h;obtain ⟨h1,h2⟩:=find_noEscape hn ho;exact ⟨a.eval x,w,φ,.inl (XF hf hne hb h1 h2 (by simpa using Lib.run_noEscape w (a.eval x))),qw ht hp,hi,Frm.refl φ m w⟩
 ·rename_i _ _ x hk' hx;obtain rfl:=hk';have e2:xs=#[x]:=by apply Array.toList_inj.1; simpa using hx
  subst e2;split at hr
  ·rename_i t hrt;have e3:fn.resultTypes=#[t]:=by apply Array.toList_inj.1; simpa using hrt
   simp only [msI] at hr;obtain ⟨e,he,rfl⟩:=hr;simp only [AOp.run,E1.run,bsI] at h;obtain ⟨p,hp,h⟩:=h;obtain ⟨h1,h2⟩:=find_noZero hn ho;rw [e3] at h2;obtain ⟨U,w',φ',h3,h4,h5,h6⟩:=Wa (P:=P) (ps:=fn.params) hi (xP he) (qw ht hp) h;exact ⟨U,w',φ',.inl (XF hf hne hb h1 h2 (by simpa using h3)),h4,h5,h6⟩
  ·cases hr
 ·rename_i _ _ x y hk' hx;obtain rfl:=hk';have e2:xs=#[x,y]:=by apply Array.toList_inj.1; simpa using hx
  subst e2;cases hr
  simp only [AOp.run,P2.run,bsI,msI,pjI] at h;obtain ⟨p,hp,q,hq,u,hu,rfl,rfl⟩:=h;obtain ⟨h1,h2⟩:=find_idxByte hn ho;have hx:=qw ht hp;have hy:=qw ht hq;unfold JB at hu;split at hu
  ·cases hu
   generalize hA:a.eval x=A at hx;generalize hB:a.eval y=B at hy;cases hx; cases hy
   rename_i s c;refine ⟨_,w,φ,.inl (XF hf hne hb h1 h2 (?_:_=Result.ok _ _)),.int ..,hi,Frm.refl φ m w⟩;simp only [List.map_toArray,List.map_cons,List.map_nil,hA,hB];exact Lib.run_indexByteString s c w
  ·cases hu
 ·rename_i _ _ x hk' hx;obtain rfl:=hk';have e2:xs=#[x]:=by apply Array.toList_inj.1; simpa using hx
  subst e2;cases hr
  simp only [AOp.run,E1.run,bsI] at h;obtain ⟨p,hp,h⟩:=h;obtain ⟨h1,h2⟩:=find_cloneM hn ho;obtain ⟨U,w',φ',h3,h4,h5,h6⟩:=Wg (P:=P) hi (qw ht hp) h;exact ⟨U,w',φ',.inl (XF hf hne hb h1 h2 (by simpa using h3)),h4,h5,h6⟩
 ·cases hr
theorem xo {a:Option AOp} {o:AOp} (h:yG a=some o):a=some o/\o.vC=false:=by
 simp only [yG,bsI] at h;obtain ⟨b,hb,h⟩:=h;split at h
 ·cases h
 ·rename_i hc; cases h; exact ⟨hb,by simpa using hc⟩
theorem qaJ {P:Program} {o:Oper} {ao:AOp} (hr:res P o=some ao):ao.vC=false ∨
  (∃ (x:Operand) (args:Array Operand) (tys:Array TypeId),o.op=.call { callee:=.value x,args,argTypes:=tys }/\((∃ f,x=.func f/\ao=.call f args.toList/\zX P f=true)∨ao=.callv x args.toList)):=by
 unfold res at hr;split at hr
 ·rename_i c hc;obtain ⟨callee,xs,tys⟩:=c;unfold Ws at hr;split at hr
  ·exact .inl (xo hr).2
  ·rename_i f he;simp only at he; subst he;split at hr
   ·rename_i hg; cases hr; exact .inr ⟨_,xs,tys,hc,.inl ⟨f,rfl,rfl,hg⟩⟩
   ·exact .inl (xo hr).2
  ·rename_i x hx he;simp only at he; subst he;cases hr; exact .inr ⟨x,xs,tys,hc,.inr rfl⟩
  ·cases hr
 ·exact .inl (xo hr).2
theorem qdq {P:Program} {o:Oper} {ao:AOp} (hr:res P o=some ao) {φ:Ren} {m m':Mem} {w:World} (hi:Inv φ m w) {ts:List Value} {a:Act} (ht:VRs φ ts a.tmps.toList) {v:Value} (h:ao.run ts m=some (v,m')) :
  qI φ m w ((execOp a.eval o).run P w) v m':=by
 unfold res at hr;split at hr
 ·rename_i c hc;obtain ⟨dst,op,ty,pos,af,g⟩:=o;simp only at hc; subst hc;obtain ⟨callee,xs,tys⟩:=c;unfold Ws at hr;split at hr
  ·rename_i b he;simp only at he; subst he;exact Hj (xo hr).1 hi ht h
  ·rename_i f he;simp only at he; subst he;split at hr
   ·cases hr; simp [AOp.run] at h
   ·exact Wr (xo hr).1 hi ht h
  ·cases hr; simp [AOp.run] at h
  ·cases hr
 ·exact qaK (xo hr).1 hi ht h
end Go.Fx
namespace Go.Fx
open Go
structure AOper where
 dst:Option Nat
 op:AOp
 guard:Option (Nat × Bool)
abbrev zj:=FuncId->List Value->Mem->Option (Value × Mem)
def kH:Value->Option (FuncId × List Value × List Value)
 | .func (.func f) first cap=>bif Nat.blt f yBase then some (f,first.toList,cap.toList) else none
 | .func (.yield N) _ _=>some (yBase+N,[],[])
 | _=>none
def zA (call:zj) (ts:List Value) (m:Mem):AOp->Option (Value × Mem)
 | .call f xs=>(ko ts xs).bind λl=>call f l m
 | .callv x xs=>(zc ts x).bind λv=>(kH v).bind λp=>(ko ts xs).bind λl=>call p.1 (p.2.1++(l++p.2.2)) m
 | o=>o.run ts m
def ja (ts:List Value) (dst:Option Nat) (v:Value):List Value :=
 match dst with
 | some d=>ts.set d v
 | none=>ts
def zh (ts:List Value) (g:Option (Nat × Bool)):Bool :=
 match g with
 | none=>true
 | some (t,want)=>match ts[t]? with
  | some (.bool b)=>b == want
  | _=>false
def xc (call:zj):List AOper->List Value->Mem->Option (List Value × Mem)
 | [],ts,m=>some (ts,m)
 | o::r,ts,m =>
  if zh ts o.guard then (zA call ts m o.op).bind λp=>xc call r (ja ts o.dst p.1) p.2
  else xc call r (ja ts o.dst undef) m
def yZ (P:Program) (o:Oper):AOp:=(res P o).getD .stop
def kg (P:Program) (ops:Array Oper):List Oper->Option (List AOper)
 | []=>some []
 | o::r=>(kg P ops r).bind λl =>
  match o.guard with
  | none=>some (⟨o.dst,yZ P o,none⟩::l)
  | some (j,want)=>((ops[j]?).bind (·.dst)).map λt=>⟨o.dst,yZ P o,some (t,want)⟩::l
def rf (ro:Option Nat):Fence:={ Fence.wide with round:=ro }
theorem Hh (ro:Option Nat) (k:Nat):(rf ro).depth.isSome=true->1<=k:=λh=>(by cases h)
theorem Hi {ro:Option Nat} {n:Nat} {P:Program} {f:FuncId} {args:Array Value} {w:World} {R:Ending->World->Prop}:CallsIn (rf ro) n P f args w R↔Calls P f args w R :=
 Iff.trans (show CallsIn (rf ro) n P f args w R↔CallsIn Fence.wide n P f args w R from Iff.rfl) callsIn_wide
def vS (P:Program) (φ:Ren) (m:Mem) (w:World) (f:FuncId) (args:Array Value) (v:Value) (m':Mem):Prop :=
 Calls P f args w λe w'=>∃ V φ',e=.returned V/\VR φ' v V/\Inv φ' m' w'/\Frm φ m w φ' m' w'
def qkq (P:Program) (φ:Ren) (m:Mem) (w:World) (N:Nat) (args:Array Value) (v:Value) (m':Mem):Prop :=
 ∃ l b,φ N=some l/\v=.bool b/\YieldAt (rf none) 0 P l.blk args w λe w'=>e=.returned (.bool b)/\∃ φ',Inv φ' m' w'/\Frm φ m w φ' m' w'
structure CallOk (P:Program) (call:zj):Prop where
 fn:∀ f args m v m',f<yBase->call f args m=some (v,m')->∀ φ w (ARGS:Array Value),Inv φ m w->VRs φ args ARGS.toList->vS P φ m w f ARGS v m'
 yl:∀ N args m v m',call (yBase+N) args m=some (v,m')->∀ φ w (ARGS:Array Value),Inv φ m w->VRs φ args ARGS.toList->qkq P φ m w N ARGS v m'
theorem qeJ {P:Program} {w:World} {ρ:Operand->Value} {x:Operand} {f:FuncId} {fst cap:Array Value} {xs:Array Operand} {tys:Array TypeId} {ty:TypeId} {d:Option Tmp} {pos:String} {af:Array Edge} {g:Option (Nat × Bool)}
  (hx:ρ x=.func (.func f) fst cap) (hf:zX P f=true) :
  (execOp ρ ⟨d,.call { callee:=.value x,args:=xs,argTypes:=tys },ty,pos,af,g⟩).run P w=.ok (.enter f (fst++xs.map ρ++cap)) w:=by
 unfold zX at hf;split at hf
 ·rename_i fn hfn;simp only [baI,bne_iff_ne,ne_eq] at hf;obtain ⟨c,hb⟩:=Option.isSome_iff_exists.1 hf.2;simp [execOp,resolve,Deferred.ofValue,hx,invoke,callFunc,hfn,hf.1.2,hb]
 ·cases hf
theorem Vu {P:Program} {f:FuncId} (h:zX P f=true):f<yBase:=by
 unfold zX at h;split at h
 ·simp only [baI] at h;simpa using h.1.1
 ·cases h
theorem KH {P:Program} {w w':World} {ρ:Operand->Value} {x:Operand} {N:Nat} {xs:Array Operand} {tys:Array TypeId} {ty:TypeId} {d:Option Tmp} {pos:String} {af:Array Edge} {g:Option (Nat × Bool)} {r:Next}
  (hx:ρ x=.func (.yield N) #[] #[]) (hy:(Instr.yield N (xs.map ρ)).run P w=.ok r w') :
  (execOp ρ ⟨d,.call { callee:=.value x,args:=xs,argTypes:=tys },ty,pos,af,g⟩).run P w=.ok r w':=by
 simp [execOp,resolve,Deferred.ofValue,hx,invoke,hy]
theorem KF {ro:Option Nat} {P:Program} {o:Oper} (hnd:∀ c,o.op≠.defer c) {φ:Ren} {m m':Mem} {w:World} {a:Act} {v:Value} {next:Act->World->Prop} {Q:Exit->Act->World->Prop} (h:qI φ m w ((execOp a.eval o).run P w) v m')
  (hn:∀ V w' φ',VR φ' v V->Inv φ' m' w'->Frm φ m w φ' m' w'->next (a.put o.dst V) w'):o.wpIn (rf ro) 0 P a w next Q:=by
 obtain ⟨V,w',φ',hr,hv,hi,hf⟩:=h;refine ⟨λ_ _=>trivial,?_⟩;rw [Oper.semAt_eq _ _ _ hnd];rcases hr with hr|⟨hr,rfl⟩
 ·rw [hr]; exact hn V w' φ' hv hi hf
 ·rw [hr]; exact hn undef w' φ' hv hi hf
theorem zJ (call:zj) (ts:List Value) (m:Mem) {ao:AOp} (h:ao.vC=false):zA call ts m ao=ao.run ts m:=by
 cases ao<;>first|rfl|simp [AOp.vC] at h
theorem Vb {P:Program} {o:Oper} {ao:AOp} (h:res P o=some ao):∀ c,o.op≠.defer c:=by
 intro c hc;unfold res at h;rw [hc] at h;simp only [yG,ZK,hc,Option.bind_none] at h;cases h
theorem jh {ro:Option Nat} {P:Program} {call:zj} (hc:CallOk P call) (hg:∀ f args m r,f<yBase->call f args m=some r->zX P f=true) {o:Oper} {ao:AOp} (hr0:yZ P o=ao) {φ:Ren} {m m':Mem} {w:World} (hi:Inv φ m w) {ts:List Value} {a:Act}
  (ht:VRs φ ts a.tmps.toList) {v:Value} (h:zA call ts m ao=some (v,m')) {next:Act->World->Prop} {Q:Exit->Act->World->Prop}
  (hn:∀ V w' φ',VR φ' v V->Inv φ' m' w'->Frm φ m w φ' m' w'->next (a.put o.dst V) w'):o.wpIn (rf ro) 0 P a w next Q:=by
 have hr:res P o=some ao:=by
  unfold yZ at hr0;cases hres:res P o with
  | none=>rw [hres] at hr0; simp only [Option.getD_none] at hr0; subst hr0; simp [zA,AOp.run] at h
  | some x=>rw [hres] at hr0; simp only [Option.getD_some] at hr0; rw [hr0]
 rcases qaJ hr with hcl|⟨x,args,tys,ho,hcase⟩
 ·rw [zJ call ts m hcl] at h;exact KF (Vb hr) (qdq hr hi ht h) hn
 ·obtain ⟨d,op,ty,pos,af,g⟩:=o;simp only at ho;subst ho;have fin:∀ {f:FuncId} {fst cap:Array Value} {fstA capA:List Value} {l:List Value},a.eval x=.func (.func f) fst cap->VRs φ fstA fst.toList->VRs φ capA cap.toList ->
    ko ts args.toList=some l->f<yBase->call f (fstA++(l++capA)) m=some (v,m')->Oper.wpIn (rf ro) 0 P ⟨d,.call { callee:=.value x,args,argTypes:=tys },ty,pos,af,g⟩ a w next Q:=by
   intro f fst cap fstA capA l hx hfst hcap hl hfl hcall;refine ⟨λ_ _=>trivial,?_⟩;rw [Oper.semAt_eq _ _ _ (λc hc=>by cases hc)]
   rw [qeJ hx (hg _ _ _ _ hfl hcall)];rw [Oper.uponIn_enter];refine ⟨Hh ro _,Hi.2 ?_⟩;have:=hc.fn f _ m v m' hfl hcall φ w (fst++args.map a.eval++cap) hi (by
    have:=hfst.append ((vG ht hl).append hcap);simpa using this)
   refine this.mono ?_
   rintro e w' ⟨V,φ',rfl,hv,hi',hf'⟩
   exact hn V w' φ' hv hi' hf'
  rcases hcase with ⟨f,rfl,rfl,hgf⟩|rfl
  ·simp only [zA,bsI] at h;obtain ⟨l,hl,h⟩:=h;exact fin (fst:=#[]) (cap:=#[]) (fstA:=[]) (capA:=[]) rfl (VRs.nil φ) (VRs.nil φ) hl (Vu hgf) (by simpa using h)
  ·simp only [zA,bsI] at h;obtain ⟨u,hu,⟨f,fstA,cap⟩,hcap,l,hl,h⟩:=h;have hv:=qw ht hu;generalize hx:a.eval x=X at hv;unfold kH at hcap;split at hcap
   ·rename_i f' us vs;cases hlt:Nat.blt f' yBase with
    | false=>rw [hlt] at hcap; cases hcap
    | true =>
     rw [hlt] at hcap;simp only [cond_true,sjI,pjI] at hcap;obtain ⟨rfl,rfl,rfl⟩:=hcap;cases hv with
     | func _ _ _ _ _ h1 h2 h3 h4=>exact fin hx (VRs.of_array h1 h2) (VRs.of_array h3 h4) hl (by simpa using hlt) h
   ·rename_i N us vs;cases hcap
    cases hv with
    | yield _ lo hlo =>
     have hcl:=hc.yl N _ m v m' h φ w (args.map a.eval) hi (by simpa using vG ht hl);obtain ⟨lo',b,hlo',rfl,fn,tm,ass,bo,hyr,hround⟩:=hcl;rw [hlo] at hlo'; cases hlo'
     refine ⟨λ_ _=>trivial,?_⟩;rw [Oper.semAt_eq _ _ _ (λc hc=>by cases hc)]
     rw [KH hx hyr,Oper.uponIn_round];refine ⟨Hh ro _,?_⟩;refine RoundIn.mono (show RoundIn (rf ro) 0 P lo.blk fn tm ass bo w _ from hround) ?_
     rintro e w' ⟨rfl,φ',hi',hf'⟩
     exact hn (.bool b) w' φ' (.bool b) hi' hf'
   ·cases hcap
theorem XM {φ:Ren} {ts:List Value} {a:Act} (ht:VRs φ ts a.tmps.toList) (d:Option Nat) {v V:Value} (hv:VR φ v V):VRs φ (ja ts d v) (a.put d V).tmps.toList:=by
 cases d with
 | none=>exact ht
 | some d=>simpa [ja,Act.put] using ht.set hv d
theorem put_defers (a:Act) (d:Option Nat) (v:Value):(a.put d v).defers=a.defers:=by cases d<;>rfl
theorem Zw {φ:Ren} {ts:List Value} {a:Act} (ht:VRs φ ts a.tmps.toList) {ops:Array Oper} {o:Oper} {g:Option (Nat × Bool)}
  (hg:match o.guard with|none=>g=none|some (j,want)=>∃ t,(ops[j]?).bind (·.dst)=some t/\g=some (t,want)):Region.wanted o (yielded ops a.tmps)=zh ts g:=by
 unfold Region.wanted;split at hg
 ·rename_i h0;rw [h0]; subst hg; rfl
 ·rename_i j want h0;obtain ⟨t,h1,rfl⟩:=hg;rw [h0];simp only [yielded,h1,bmI,zh];cases e:ts[t]? with
  | none =>
   have:a.tmps[t]? = none:=by
    rw [Array.getElem?_eq_none_iff];rw [List.getElem?_eq_none_iff] at e;have:=ht.1; simp at this; omega
   rw [this]; rfl
  | some u =>
   obtain ⟨V,hV,r⟩:=ht.get e;have hV':a.tmps[t]? = some V:=by simpa using hV
   rw [hV'];cases r<;>simp
   all_goals (rename_i b; cases b<;>cases want<;>rfl)
def St (φ:Ren) (m:Mem) (w:World) (a:Act) (ts':List Value) (m':Mem) (a':Act) (w':World):Prop :=
 ∃ φ',VRs φ' ts' a'.tmps.toList/\Inv φ' m' w'/\Frm φ m w φ' m' w'/\a'.defers=a.defers
end Go.Fx
