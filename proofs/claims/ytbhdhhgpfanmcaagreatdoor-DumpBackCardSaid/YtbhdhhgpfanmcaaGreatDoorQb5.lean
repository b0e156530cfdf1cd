/- Parts of a proof: FxOps6, FxSound, FxSound2. Conditions: none. -/
import Derived.Test.YtbhdhhgpfanmcaaGreatDoorQb4
namespace Go.Fx
open Go
theorem yT {φ:Ren} {x X:Option Value} {dflt most k:Nat} (hx:wU φ x X) (h:xz x dflt most=some k):(x=none/\X=none/\k=dflt)∨∃ kd n,x=some (.int kd n)/\X=some (.int kd n)/\0<=n/\n<=most/\k=n.toNat:=by
 unfold xz at h;split at h
 ·cases X with
  | none=>cases h; exact .inl ⟨rfl,rfl,rfl⟩
  | some _=>exact hx.elim
 ·split at h
  ·rename_i hn;cases h
   cases X with
   | none=>exact hx.elim
   | some V =>
    simp only [wU] at hx;cases hx
    exact .inr ⟨_,_,rfl,rfl,hn.1,hn.2,rfl⟩
  ·cases h
 ·cases h
theorem ki {P:Program} {φ:Ren} {w:World} {len cap cap':Nat} {lo LO:Option Value} {h H:Value} {kd:IntKind} {k:Int} {l r:Nat} (hlo:wU φ lo LO) (hh:VR φ h H) (hb:zz len k.toNat lo (some h)=some (l,r)) (hk:0<=k/\k<=cap) (hc:cap<=cap') :
  (Instr.sliceBounds true len cap' LO (some H) (some (.int kd k))).run P w=.ok (l,r,k.toNat) w:=by
 simp only [zz,Option.bind_eq_some_iff,Option.map_eq_some_iff,Prod.mk.injEq] at hb;obtain ⟨h1,hh1,l1,hl,rfl,rfl⟩:=hb;rcases yT (φ:=φ) (x:=some h) (X:=some H) hh hh1 with ⟨h0,_⟩|⟨kd1,n1,e1,e2,g1,g2,rfl⟩
 ·cases h0
 ·cases e2
  have b1:=run_sliceBound (P:=P) (w:=w) (k:=kd) (n:=k) (y:=cap) (y':=cap') .slice3Acap ⟨hk.1,hk.2⟩ hc;have b2:=run_sliceBound (P:=P) (w:=w) (k:=kd1) (n:=n1) (y:=k.toNat) (y':=k.toNat) .slice3B ⟨g1,g2⟩ (Nat.le_refl _);rcases yT hlo hl with ⟨_,rfl,rfl⟩|⟨kd2,n2,_,rfl,g3,g4,rfl⟩
  ·simp only [Instr.sliceBounds,Sem.run_bind,Sem.run_pure,Result.andThen_ok,if_true,b1,b2]
  ·have b3:=run_sliceBound (P:=P) (w:=w) (k:=kd2) (n:=n2) (y:=n1.toNat) (y':=n1.toNat) .slice3C ⟨g3,g4⟩ (Nat.le_refl _);simp only [Instr.sliceBounds,Sem.run_bind,Sem.run_pure,Result.andThen_ok,if_true,b1,b2,Option.isSome_some,b3]
theorem VW {P:Program} {φ:Ren} {m:Mem} {w:World} (hi:Inv φ m w) {t e:TypeId} {i:TypeInfo} {v V u mx MX:Value} {lo hi' LO HI:Option Value} (ht:P.underlying t=some (.slice e)) (hti:P.info? e=some i) (hv:VR φ v V) (hlo:wU φ lo LO) (hhi:wU φ hi' HI) (hmx:VR φ mx MX)
  (h:jL i.size v lo hi' mx m=some u):∃ U,(Instr.sliceAt t V LO HI (some MX)).run P w=.ok U w/\VR φ u U:=by
 unfold jL at h;split at h
 ·rename_i b off len cap hv' kd k;cases HI with
  | none=>exact hhi.elim
  | some H =>
  simp only [wU] at hhi;cases hmx
  split at h
  ·rename_i hk0;obtain ⟨hk1,hk2,hlc⟩:=hk0;simp only [Option.bind_eq_some_iff] at h;obtain ⟨⟨l,r⟩,hb,h⟩:=h;split at h
   ·rename_i hk;cases h
    have hle:l<=r/\r<=k.toNat:=by
     simp only [zz,Option.bind_eq_some_iff,Option.map_eq_some_iff,Prod.mk.injEq] at hb;obtain ⟨h1,hh1,l1,hl,rfl,rfl⟩:=hb;rcases yT (φ:=φ) (x:=some hv') (X:=some H) hhi hh1 with ⟨h0,_⟩|⟨kd1,n1,e1,e2,g1,g2,rfl⟩
     ·cases h0
     ·rcases yT hlo hl with ⟨_,_,rfl⟩|⟨kd2,n2,_,_,g3,g4,rfl⟩<;>omega
    cases hv with
    | sliceEx _ _ _ _ q hl hlo' =>
     refine ⟨.slice (some ⟨q.blk,q.base+(if k.toNat=l then off else off+l * i.size),none⟩) (r - l) (k.toNat - l),?_,.sliceEx _ _ _ _ q hl hlo'⟩
     simp only [Instr.sliceAt,Sem.run_bind,qy ht,Result.andThen_ok,Instr.slice,ki hlo hhi hb ⟨hk1,hk2⟩ (Nat.le_refl _),ze hti,Sem.run_pure];by_cases hc:k.toNat=l
     ·simp [hc]
     ·simp [hc,jo,Nat.add_assoc]
    | sliceZero _ _ A =>
     obtain rfl:k=0:=by omega
     have hl0:l=0:=by have:=hle; simp at this; omega
     have hr0:r=0:=by have:=hle; simp at this; omega
     subst hl0; subst hr0;refine ⟨.slice (some A) 0 0,?_,.sliceZero _ _ A⟩;simp only [Instr.sliceAt,Sem.run_bind,qy ht,Result.andThen_ok,Instr.slice,ki hlo hhi hb ⟨hk1,hk2⟩ (Nat.le_refl _),ze hti,Sem.run_pure];simp
    | sliceLoose _ _ _ _ off' cap' s q hl hlo' hoff hlen hcap hroom =>
     refine ⟨.slice (some ⟨q.blk,if k.toNat=l then off' else off'+l * i.size,none⟩) (r - l) (k.toNat - l),?_,.sliceLoose _ _ _ _ _ _ s q hl hlo' ?_ (by omega) (Nat.le_refl _) ?_⟩
     ·simp only [Instr.sliceAt,Sem.run_bind,qy ht,Result.andThen_ok,Instr.slice,ki hlo hhi hb ⟨hk1,hk2⟩ hcap,ze hti,Sem.run_pure];by_cases hc:k.toNat=l
      ·simp [hc]
      ·simp [hc,jo]
     ·intro hne;have hne':k.toNat - l≠0:=hne;show (if k.toNat=l then off' else off'+l * i.size)=q.base+(if k.toNat=l then off else off+l * i.size)
      rw [if_neg (show ¬ k.toNat=l by omega),if_neg (show ¬ k.toNat=l by omega),hoff (by omega)]; omega
     ·have hkm:k.toNat * s<=cap' * s:=Nat.mul_le_mul_right _ (by omega);by_cases hc:k.toNat=l
      ·rw [if_pos hc,hc,Nat.sub_self,Nat.zero_mul]; omega
      ·rw [if_neg hc];rcases hk with hk|hk|hk
       ·have hk':l=0:=hk;subst hk'; simp; omega
       ·have:=hi.yg hl hk;rw [hlo'] at this; cases this
       ·have:=hi.Xm hl hk;rw [hlo'] at this; cases this
        have:l * i.size+(k.toNat - l) * i.size=k.toNat * i.size:=by rw [<- Nat.add_mul]; congr 1; omega
        omega
   ·cases h
  ·cases h
 ·cases h
theorem all_replicate {p:Value->Bool} {l:List Value} (n:Nat) (h:l.all p=true):(List.replicate n l).flatten.all p=true:=by
 rw [List.all_eq_true] at h ⊢;intro v hv;simp only [List.mem_flatten,List.mem_replicate] at hv;obtain ⟨k,⟨_,rfl⟩,hv⟩:=hv;exact h v hv
theorem YP {P:Program} {φ:Ren} {m m':Mem} {w:World} (hi:Inv φ m w) {t e ty:TypeId} {i:TypeInfo} {z:Value} (ht:P.underlying t=some (.slice e)) (hti:P.info? e=some i) (hz:i.zero=some z) (hp:z.cells.toList.all plain=true) {v V:Value} (hv:VR φ v V) (h:vw z.cells.toList v m=some m') :
  ∃ w' U,(Builtin.clear_ #[t] ty #[V]).run P w=.ok U w'/\VR φ undef U/\Inv φ m' w'/\Frm φ m w φ m' w':=by
 unfold vw at h;split at h
 ·cases h
  cases hv
  exact ⟨w,_,by simp [Builtin.clear_,qy ht]; rfl,VR.undef φ,hi,Frm.refl φ m w⟩
 ·rename_i b off len cap;split at h
  ·rename_i h0;cases h
   subst h0;refine ⟨w,undef,?_,VR.undef φ,hi,Frm.refl φ m w⟩;cases hv<;>(simp [Builtin.clear_,qy ht]; rfl)
  ·rename_i h0;simp only [Option.bind_eq_some_iff] at h;obtain ⟨⟨c,e',lo⟩,hq,h⟩:=h;have hg:=Mem.vY hq;split at h
   ·rename_i hh;cases h
    obtain ⟨h1,h2,h3⟩:=hh;simp only [Array.length_toList] at h1;have hzc:(Builtin.zeroCells z.cells len).toList=(List.replicate len z.cells.toList).flatten:=replicate_flatten_eq z.cells z.cells.size len rfl;have hl2:(List.replicate len z.cells.toList).flatten.length=len * z.cells.size:=by simp [List.length_flatten]
    have run:∀ (a:Addr) (C:Nat) (w':World),(Go.storeCells a (List.replicate len z.cells.toList).flatten).run P w=.ok () w'->(Builtin.clear_ #[t] ty #[.slice (some a) len C]).run P w=.ok undef w':=by
     intro a C w' hrun;cases len with
     | zero=>exact absurd rfl h0
     | succ n =>
      simp only [Builtin.clear_,Sem.run_bind,qy ht,Result.andThen_ok,Sem.run_pure,List.getElem?_toArray,List.getElem?_cons_zero,zV hti hz,hzc,hrun];rfl
    cases hv with
    | sliceEx _ _ _ _ l hl hlo =>
     obtain ⟨w',hrun,h5,h6⟩:=Inv.storeCells (P:=P) hl off _ _ 0 c m w hi hg (VRs.plain (all_replicate len hp)) (λv hv=>List.all_eq_true.1 (all_replicate len h3) v hv) (by omega);exact ⟨w',undef,run _ _ w' hrun,VR.undef φ,h5,h6⟩
    | sliceZero _ _ A=>exact absurd rfl h0
    | sliceLoose _ _ _ _ off' cap' s l hl hlo hoff hlen' hcap hroom =>
     have:off'=l.base+off:=hoff h2;subst this;obtain ⟨w',hrun,h5,h6⟩:=Inv.storeCells (P:=P) hl off _ _ 0 c m w hi hg (VRs.plain (all_replicate len hp)) (λv hv=>List.all_eq_true.1 (all_replicate len h3) v hv) (by omega);exact ⟨w',undef,run _ _ w' hrun,VR.undef φ,h5,h6⟩
   ·cases h
 ·cases h
theorem YL {P:Program} {φ:Ren} {m m':Mem} {w:World} (hi:Inv φ m w) {t e:TypeId} {i:TypeInfo} {z:Value} (ht:P.underlying t=some (.slice e)) (hti:P.info? e=some i) (hz:i.zero=some z) (hp:z.cells.toList.all plain=true) (hs:z.cells.size=i.size) {n N c C u:Value} (hn:VR φ n N) (hc:VR φ c C)
  (h:vv e i.bytes z.cells.toList n c m=some (u,m')) :
  ∃ V w' φ',(Instr.makeSlice t N C).run P w=.ok V w'/\VR φ' u V/\Inv φ' m' w'/\Frm φ m w φ' m' w':=by
 unfold vv at h;split at h
 ·rename_i k1 n k2 c;split at h
  ·rename_i hh;obtain ⟨g1,g2,g3,g4⟩:=hh;cases h
   cases hn; cases hc
   obtain ⟨φ',h1,h2,h3⟩:=hi.Qs e (VRs.plain (φ:=φ) (all_replicate c.toNat hp));refine ⟨.slice (some ⟨w.heap.size,0,none⟩) n.toNat c.toNat,_,φ',?_,.sliceEx m.next 0 n.toNat c.toNat ⟨w.heap.size,0,none,0⟩ h3 rfl,h1,h2⟩;have hwn:=wrap_small g1 (by omega);have hwc:=wrap_small (n:=c) (by omega) g3;have hrep:=replicate_flatten_eq z.cells i.size c.toNat hs;have hrep':(Array.range (c.toNat * i.size)).map (z.cells[· % z.cells.size]!)=(List.replicate c.toNat z.cells.toList).flatten.toArray:=by
    apply Array.toList_inj.1; rw [hrep]
   have hnc:¬ (c<n):=by omega
   have hc0:¬ (c<0):=by omega
   have hb:¬ (2 ^ 48<(i.bytes:Int) * c):=by omega
   simp only [Instr.makeSlice,Sem.run_bind,qy ht,Result.andThen_ok,asInt,asIntOf,Sem.run_pure,jr hti,hwn,hwc,ze hti];have hcond:(decide (c<0)||decide ((i.bytes:Int) * c > 2 ^ 48)||decide (n<0)||decide (n > c))=false:=by
    simp only [Bool.or_eq_false_iff,decide_eq_false_iff_not];omega
   rw [hcond];simp only [Bool.false_eq_true,if_false,Sem.run_bind,Sem.run_pure,Result.andThen_ok,run_askRoom,ze hti,Sem.run_ite];by_cases h0:c.toNat * i.size=0
   ·rw [if_pos h0];have e0:(Array.range (c.toNat * i.size)).map ((#[]:Array Value)[· % (#[]:Array Value).size]!)=(Array.range (c.toNat * i.size)).map (z.cells[· % z.cells.size]!):=by rw [h0]; simp
    rw [e0,hrep'];simp [newRow]
   ·rw [if_neg h0];simp only [zV hti hz,Result.andThen_ok];rw [hrep'];simp [newRow]
  ·cases h
 ·cases h
end Go.Fx
namespace Go.Fx
open Go
theorem vD {φ:Ren} {ts:List Value} {a:Act} (ht:VRs φ ts a.tmps.toList):∀ {xs:List Operand} {l:List Value},kg ts xs=some l->VRs φ l (xs.map a.eval)
 | [],l,h=>by simp [kg] at h; subst h; exact VRs.nil φ
 | x::xs,l,h=>by
  simp only [kg] at h;split at h
  ·rename_i v r hv hr;cases h
   exact VRs.cons (qw ht hv) (vD ht hr)
  ·cases h
theorem jZ {φ:Ren} {ts:List Value} {a:Act} (ht:VRs φ ts a.tmps.toList) {x:Option Operand} {v:Option Value} (h:jn ts x=some v):wU φ v (x.map a.eval):=by
 cases x with
 | none=>cases h; trivial
 | some x =>
  simp only [jn,Option.map_eq_some_iff] at h;obtain ⟨u,hu,rfl⟩:=h;exact qw ht hu
theorem wo {φ:Ren} {ts:List Value} {a:Act} (ht:VRs φ ts a.tmps.toList) {place:Nat->Option (Nat × Nat)}:∀ {ps:List (Nat × Operand)} {l:List (Nat × Nat × Operand)} {r:List (Nat × Nat × Value)},vx place ps=some l->kF ts l=some r->ZY φ place r (ps.map λp=>(p.1,a.eval p.2))
 | [],l,r,h,h'=>by
  simp [vx] at h; subst h;simp [kF] at h'; subst h';exact ⟨rfl,λi p q hp=>by simp at hp⟩
 | (i,x)::ps,l,r,h,h'=>by
  simp only [vx,Option.bind_eq_some_iff,Option.map_eq_some_iff] at h;obtain ⟨⟨o,s⟩,hp,l',hl,rfl⟩:=h;simp only [kF] at h';split at h'
  ·rename_i v r' hv hr;cases h'
   obtain ⟨h1,h2⟩:=wo ht hl hr;refine ⟨by simpa using h1,λj p q hp' hq=>?_⟩;cases j with
   | zero=>simp at hp' hq; subst hp'; subst hq; exact ⟨hp,qw ht hv⟩
   | succ j=>exact h2 j p q (by simpa using hp') (by simpa using hq)
  ·cases h'
theorem qH.val {P:Program} {φ φ':Ren} {m m':Mem} {w w':World} {s:Sem Value} {v V:Value} (hs:s.run P w=.ok V w') (hv:VR φ' v V) (hi:Inv φ' m' w') (hf:Frm φ m w φ' m' w') :
  qH φ m w ((do pure (Next.value (<- s)):Sem Next).run P w) v m' :=
 ⟨V,w',φ',.inl (by simp [hs]),hv,hi,hf⟩
theorem qH.still {P:Program} {φ:Ren} {m:Mem} {w:World} {s:Sem Value} {v V:Value} (hi:Inv φ m w) (hs:s.run P w=.ok V w) (hv:VR φ v V) :
  qH φ m w ((do pure (Next.value (<- s)):Sem Next).run P w) v m:=qH.val hs hv hi (Frm.refl φ m w)
theorem zw {P:Program} {t:TypeId} {s:Nat} (h:jf P t=some s):∃ i,P.info? t=some i/\i.size=s:=by
 simp only [jf,Option.map_eq_some_iff] at h; exact h
theorem xN {P:Program} {t e:TypeId} (h:Qb P t=some e):P.underlying t=some (.slice e):=by
 unfold Qb at h;split at h
 ·cases h; assumption
 ·cases h
theorem VE {P:Program} {t:TypeId} {p:Nat × TypeId} (h:qic P t=some p):P.underlying t=some (.array p.1 p.2):=by
 unfold qic at h;split at h
 ·cases h; assumption
 ·cases h
theorem wa {P:Program} {t:TypeId} {p:TypeId × TypeId} (h:qdx P t=some p):P.underlying t=some (.map p.1 p.2):=by
 unfold qdx at h;split at h
 ·cases h; assumption
 ·cases h
theorem wN {P:Program} {t:TypeId} {fs:Array Field} (h:Zi P t=some fs):P.underlying t=some (.struct fs):=by
 unfold Zi at h;split at h
 ·cases h; assumption
 ·cases h
theorem xI {P:Program} {t:TypeId} {z:Value} (h:yY P t=some z):∃ i,P.info? t=some i/\i.zero=some z/\z.cells.toList.all plain=true:=by
 simp only [yY,Option.bind_eq_some_iff] at h;obtain ⟨i,hi,z',hz,h⟩:=h;split at h
 ·cases h; exact ⟨i,hi,hz,by assumption⟩
 ·cases h
theorem VR.QK {φ:Ren} {z:Value} (h:z.cells.toList.all Fx.plain=true):VR φ z z:=by
 cases z with
 | agg xs =>
  have:VRs φ xs.toList xs.toList:=VRs.plain h;have:=this.agg;simpa using this
 | bool b=>exact .bool b
 | int k n=>exact .int k n
 | string s=>exact .string s
 | _=>exact VR.plain (by simpa [Value.cells] using h)
theorem res_eq {P:Program} {neg:Bool} {t:TypeId} {x y:Operand} {ao:AOp} (hr:qbY P neg t x y=some ao) {φ:Ren} {m m':Mem} {w:World} (hi:Inv φ m w) {ts:List Value} {a:Act} (ht:VRs φ ts a.tmps.toList) {v:Value} (h:ao.run ts m=some (v,m')) :
  qH φ m w ((do pure (Next.value (<- (do eqGuard (if neg then .neq else .eql) t x y (a.eval x) (a.eval y); Go.binOp (if neg then .neq else .eql) t (a.eval x) (a.eval y):Sem Value))):Sem Next).run P w) v m':=by
 have ar:∀ {op},(AOp.arith op x y).run ts m=some (v,m')->op=(if neg then .neq else .eql)->qH φ m w ((do pure (Next.value (<- (do eqGuard (if neg then .neq else .eql) t x y (a.eval x) (a.eval y); Go.binOp (if neg then .neq else .eql) t (a.eval x) (a.eval y):Sem Value))):Sem Next).run P w) v m':=by
  intro op h hop;subst hop;simp only [AOp.run,Option.bind_eq_some_iff,Option.map_eq_some_iff,Prod.mk.injEq] at h;obtain ⟨p,hp,q,hq,u,hu,rfl,rfl⟩:=h;obtain ⟨h1,h2⟩:=Xg (P:=P) (w:=w) (t:=t) (x:=x) (y:=y) (qw ht hp) (qw ht hq) hu;exact qH.still hi h1 h2
 unfold qbY at hr;split at hr
 ·rename_i hd;split at hr
  ·rename_i hc;cases hr
   simp only [AOp.run,P2.run,Option.bind_eq_some_iff,Option.map_eq_some_iff,Prod.mk.injEq] at h;obtain ⟨p,hp,q,hq,u,hu,rfl,rfl⟩:=h;obtain ⟨h1,h2⟩:=sound_eqIface (P:=P) (w:=w) (x:=x) (y:=y) hd hc (qw ht hp) (qw ht hq) hu;exact qH.still hi h1 h2
  ·cases hr
 ·rename_i e hd;split at hr
  ·cases hr
   simp only [AOp.run,Option.bind_eq_some_iff,Option.map_eq_some_iff,Prod.mk.injEq] at h;obtain ⟨p,hp,q,hq,u,hu,rfl,rfl⟩:=h;obtain ⟨h1,h2⟩:=sound_eqNil (P:=P) (w:=w) (t:=t) (x:=x) (y:=y) (by simp [vZ,hd]) (qw ht hp) (qw ht hq) hu;exact qH.still hi h1 h2
  ·simp only [Option.bind_eq_some_iff] at hr;obtain ⟨s,hs,hr⟩:=hr;obtain ⟨i,hti,rfl⟩:=zw hs;split at hr
   ·rename_i hz;cases hr
    simp only [AOp.run,R2.run,Option.bind_eq_some_iff,Option.map_eq_some_iff,Prod.mk.injEq] at h;obtain ⟨p,hp,q,hq,u,hu,rfl,rfl⟩:=h;obtain ⟨h1,h2⟩:=sound_eqPtr (P:=P) (x:=x) (y:=y) hi hd hti hz (qw ht hp) (qw ht hq) hu;exact qH.still hi h1 h2
   ·cases hr
 ·cases hr; exact ar h rfl
 ·cases hr; exact ar h rfl
 ·rename_i hd;cases hr
  simp only [AOp.run,Option.bind_eq_some_iff,Option.map_eq_some_iff,Prod.mk.injEq] at h;obtain ⟨p,hp,q,hq,u,hu,rfl,rfl⟩:=h;obtain ⟨h1,h2⟩:=sound_eqBool (P:=P) (w:=w) (x:=x) (y:=y) hd (qw ht hp) (qw ht hq) hu;exact qH.still hi h1 h2
 ·split at hr
  ·rename_i d hd;split at hr
   ·rename_i hh;cases hr
    simp only [AOp.run,Option.bind_eq_some_iff,Option.map_eq_some_iff,Prod.mk.injEq] at h;obtain ⟨p,hp,q,hq,u,hu,rfl,rfl⟩:=h;obtain ⟨h1,h2⟩:=sound_eq (P:=P) (w:=w) (x:=x) (y:=y) hh.1 hh.2.1 hh.2.2 (qw ht hp) (qw ht hq) hu;exact qH.still hi h1 h2
   ·cases hr
  ·cases hr
 ·simp only [Option.map_eq_some_iff] at hr;obtain ⟨k,hk,rfl⟩:=hr;simp only [AOp.run,Option.bind_eq_some_iff,Option.map_eq_some_iff,Prod.mk.injEq] at h;obtain ⟨p,hp,q,hq,u,hu,rfl,rfl⟩:=h;obtain ⟨h1,h2⟩:=sound_eqNil (P:=P) (w:=w) (x:=x) (y:=y) hk (qw ht hp) (qw ht hq) hu;exact qH.still hi h1 h2
theorem zf {P:Program} {w:World} {ρ:Operand->Value} {b:Builtin} {xs:Array Operand} {tys:Array TypeId} {ty:TypeId} {s:Sem Value} {d:Option Tmp} {pos:String} {af:Array Edge} {g:Option (Nat × Bool)}
  (hb:∀ cs,builtin b tys ty cs (xs.map ρ)=(do pure (.value (<- s)))) :
  (execOp ρ ⟨d,.call { callee:=.builtin b,args:=xs,argTypes:=tys },ty,pos,af,g⟩).run P w=(do pure (Next.value (<- s)):Sem Next).run P w:=by
 simp only [execOp,resolve,Sem.run_bind,Sem.run_pure,Result.andThen_ok,invoke];rw [hb];simp
theorem Hg {P:Program} {b:Builtin} {tys:Array TypeId} {xs:Array Operand} {ao:AOp} (hr:Qh P b tys.toList xs.toList=some ao) {φ:Ren} {m m':Mem} {w:World} (hi:Inv φ m w) {ts:List Value} {a:Act} (ht:VRs φ ts a.tmps.toList) {v:Value} (h:ao.run ts m=some (v,m'))
  {ty:TypeId} {d:Option Tmp} {pos:String} {af:Array Edge} {g:Option (Nat × Bool)} :
  qH φ m w ((execOp a.eval ⟨d,.call { callee:=.builtin b,args:=xs,argTypes:=tys },ty,pos,af,g⟩).run P w) v m':=by
 unfold Qh at hr;split at hr
 ·rename_i t x h1 h2;have e1:tys=#[t]:=by apply Array.toList_inj.1; simpa using h1
  have e2:xs=#[x]:=by apply Array.toList_inj.1; simpa using h2
  subst e1; subst e2;rw [zf (s:=Builtin.len_ #[t] ty #[a.eval x]) (λ_=>by simp [builtin])];split at hr
  ·rename_i hd;cases hr
   simp only [AOp.run,Option.bind_eq_some_iff,Option.map_eq_some_iff,Prod.mk.injEq] at h;obtain ⟨p,hp,u,hu,rfl,rfl⟩:=h;obtain ⟨h3,h4⟩:=Jn (P:=P) (w:=w) (ty:=ty) hd (qw ht hp) hu;exact qH.still hi h3 h4
  ·rename_i hd;cases hr
   simp only [AOp.run,Option.bind_eq_some_iff,Option.map_eq_some_iff,Prod.mk.injEq] at h;obtain ⟨p,hp,u,hu,rfl,rfl⟩:=h;obtain ⟨h3,h4⟩:=Wa (P:=P) (w:=w) (ty:=ty) hd (qw ht hp) hu;exact qH.still hi h3 h4
  ·rename_i hd;cases hr
   simp only [AOp.run,R1.run,Option.bind_eq_some_iff,Option.map_eq_some_iff,Prod.mk.injEq] at h;obtain ⟨p,hp,u,hu,rfl,rfl⟩:=h;obtain ⟨h3,h4⟩:=qar (P:=P) (ty:=ty) hi hd (qw ht hp) hu;exact qH.still hi h3 h4
  ·cases hr
 ·rename_i t x h1 h2;have e1:tys=#[t]:=by apply Array.toList_inj.1; simpa using h1
  have e2:xs=#[x]:=by apply Array.toList_inj.1; simpa using h2
  subst e1; subst e2;rw [zf (s:=Builtin.cap_ #[t] ty #[a.eval x]) (λ_=>by simp [builtin])];simp only [Option.map_eq_some_iff] at hr;obtain ⟨e,he,rfl⟩:=hr;simp only [AOp.run,R1.run,Option.bind_eq_some_iff,Option.map_eq_some_iff,Prod.mk.injEq] at h;obtain ⟨p,hp,u,hu,rfl,rfl⟩:=h;obtain ⟨h3,h4⟩:=qdf (P:=P) (ty:=ty) hi (xN he) (qw ht hp) hu;exact qH.still hi h3 h4
 ·rename_i t u x k h1 h2;have e1:tys=#[t,u]:=by apply Array.toList_inj.1; simpa using h1
  have e2:xs=#[x,k]:=by apply Array.toList_inj.1; simpa using h2
  subst e1; subst e2;rw [zf (s:=Builtin.delete_ #[t,u] ty #[a.eval x,a.eval k]) (λ_=>by simp [builtin])];simp only [Option.bind_eq_some_iff,Option.map_eq_some_iff] at hr;obtain ⟨q,hq,kk,hkk,rfl⟩:=hr;simp only [AOp.run,E2.run,Option.bind_eq_some_iff,Option.map_eq_some_iff,Prod.mk.injEq] at h;obtain ⟨p,hp,q',hq',u',hu,rfl,rfl⟩:=h;obtain ⟨w',h3,h4,h5⟩:=qas (P:=P) (ty:=ty) (tk:=u) hi (wa hq) hkk (qw ht hp) (qw ht hq') hu;exact qH.val h3 (VR.undef φ) h4 h5
 ·rename_i x h2;have e2:xs=#[x]:=by apply Array.toList_inj.1; simpa using h2
  subst e2;rw [zf (s:=Builtin.unsafeSliceData_ tys ty #[a.eval x]) (λ_=>by simp [builtin])];cases hr
  simp only [AOp.run,P1.run,Option.bind_eq_some_iff,Option.map_eq_some_iff,Prod.mk.injEq] at h;obtain ⟨p,hp,u,hu,rfl,rfl⟩:=h;obtain ⟨U,h3,h4⟩:=Xx (P:=P) (w:=w) (ts:=tys) (ty:=ty) (qw ht hp) hu;exact qH.still hi h3 h4
 ·rename_i t u x n h1 h2;have e1:tys=#[t,u]:=by apply Array.toList_inj.1; simpa using h1
  have e2:xs=#[x,n]:=by apply Array.toList_inj.1; simpa using h2
  subst e1; subst e2;rw [zf (s:=Builtin.unsafeString_ #[t,u] ty #[a.eval x,a.eval n]) (λ_=>by simp [builtin])];split at hr
  ·rename_i e he;split at hr
   ·rename_i hc;cases hr
    simp only [AOp.run,E2.run,Option.bind_eq_some_iff] at h;obtain ⟨p,hp,q,hq,hu⟩:=h;obtain ⟨w',h3,h4,h5,h6⟩:=Xw (P:=P) (ty:=ty) (it:=u) hi he hc (qw ht hp) (qw ht hq) hu;exact qH.val h3 h4 h5 h6
   ·cases hr
  ·cases hr
 ·rename_i t u x y h1 h2;have e1:tys=#[t,u]:=by apply Array.toList_inj.1; simpa using h1
  have e2:xs=#[x,y]:=by apply Array.toList_inj.1; simpa using h2
  subst e1; subst e2;rw [zf (s:=Builtin.append_ #[t,u] ty #[a.eval x,a.eval y]) (λ_=>by simp [builtin])];simp only [Option.bind_eq_some_iff] at hr;obtain ⟨e,he,i,hti,z,hz,hr⟩:=hr;split at hr
  ·rename_i hh;cases hr
   simp only [AOp.run,Option.bind_eq_some_iff] at h;obtain ⟨p,hp,q,hq,⟨n,nc⟩,hsrc,h⟩:=h;obtain ⟨U,w',φ',h3,h4,h5,h6⟩:=Wi (P:=P) (ty:=ty) hi (xN he) hti hz hh.1 hh.2 (qw ht hp) (qw ht hq) hsrc h;exact qH.val h3 h4 h5 h6
  ·split at hr
   ·rename_i hh;cases hr
    obtain ⟨h31,h32,h33⟩:=hh;have hk:∃ k,P.underlying u=some (.int k):=by
     unfold qkD at h33;split at h33
     ·exact ⟨_,‹_›⟩
     ·cases h33
    obtain ⟨k,hk⟩:=hk;simp only [AOp.run,E2.run,Option.bind_eq_some_iff] at h;obtain ⟨p,hp,q,hq,h⟩:=h;obtain ⟨U,w',φ',h3,h4,h5,h6⟩:=KE (P:=P) (ty:=ty) hi (xN he) hti hz h31 h32 hk (qw ht hp) (qw ht hq) h;exact qH.val h3 h4 h5 h6
   ·cases hr
 ·rename_i t u x y h1 h2;have e1:tys=#[t,u]:=by apply Array.toList_inj.1; simpa using h1
  have e2:xs=#[x,y]:=by apply Array.toList_inj.1; simpa using h2
  subst e1; subst e2;rw [zf (s:=Builtin.copy_ #[t,u] ty #[a.eval x,a.eval y]) (λ_=>by simp [builtin])];simp only [Option.bind_eq_some_iff,Option.map_eq_some_iff] at hr;obtain ⟨e,he,s,hs,rfl⟩:=hr;obtain ⟨i,hti,rfl⟩:=zw hs;simp only [AOp.run,Option.bind_eq_some_iff] at h;obtain ⟨p,hp,q,hq,⟨n,nc⟩,hsrc,h⟩:=h;obtain ⟨w',h3,h4,h5,h6⟩:=qat (P:=P) (ty:=ty) (ts:=t) (tx:=u) hi (xN he) hti (qw ht hp) (qw ht hq) hsrc h;exact qH.val h3 h4 h5 h6
 ·rename_i x r h2;have e2:xs=(x::r).toArray:=by apply Array.toList_inj.1; simpa using h2
  subst e2;rw [zf (s:=Builtin.min_ tys ty ((x::r).toArray.map a.eval)) (λ_=>rfl)];cases hr
  simp only [AOp.run,Option.bind_eq_some_iff,Option.map_eq_some_iff,Prod.mk.injEq] at h;obtain ⟨p,hp,l,hl,u,hu,rfl,rfl⟩:=h;obtain ⟨U,h3,h4⟩:=Xf (P:=P) (w:=w) qap _ _ _ _ _ (qw ht hp) (vD ht hl) hu;exact qH.still hi (by simpa [Builtin.min_] using h3) h4
 ·rename_i x r h2;have e2:xs=(x::r).toArray:=by apply Array.toList_inj.1; simpa using h2
  subst e2;rw [zf (s:=Builtin.max_ tys ty ((x::r).toArray.map a.eval)) (λ_=>rfl)];cases hr
  simp only [AOp.run,Option.bind_eq_some_iff,Option.map_eq_some_iff,Prod.mk.injEq] at h;obtain ⟨p,hp,l,hl,u,hu,rfl,rfl⟩:=h;obtain ⟨U,h3,h4⟩:=Xf (P:=P) (w:=w) qaq _ _ _ _ _ (qw ht hp) (vD ht hl) hu;exact qH.still hi (by simpa [Builtin.max_] using h3) h4
 ·rename_i t x h1 h2;have e1:tys=#[t]:=by apply Array.toList_inj.1; simpa using h1
  have e2:xs=#[x]:=by apply Array.toList_inj.1; simpa using h2
  subst e1; subst e2;rw [zf (s:=Builtin.clear_ #[t] ty #[a.eval x]) (λ_=>by simp [builtin])];split at hr
  ·rename_i hd;cases hr
   simp only [AOp.run,E1.run,Option.bind_eq_some_iff,Option.map_eq_some_iff,Prod.mk.injEq] at h;obtain ⟨p,hp',u,hu,rfl,rfl⟩:=h;obtain ⟨w',h3,h4,h5⟩:=Wf (P:=P) (ty:=ty) hi hd (qw ht hp') hu;exact qH.val h3 (VR.undef φ) h4 h5
  ·rename_i e he;simp only [Option.bind_eq_some_iff] at hr;obtain ⟨s,hs,z,hz,hr⟩:=hr;obtain ⟨i,hti,rfl⟩:=zw hs;obtain ⟨i',hti',hzi,hp⟩:=xI hz;rw [hti] at hti'; cases hti'
   split at hr
   ·cases hr
    simp only [AOp.run,Option.bind_eq_some_iff,Option.map_eq_some_iff,Prod.mk.injEq] at h;obtain ⟨p,hp',u,hu,rfl,rfl⟩:=h;obtain ⟨w',U,h3,h4,h5,h6⟩:=YP (P:=P) (ty:=ty) hi he hti hzi hp (qw ht hp') hu;exact qH.val h3 h4 h5 h6
   ·cases hr
  ·cases hr
 ·cases hr
end Go.Fx
namespace Go.Fx
open Go
theorem Xj {P:Program} {w:World}:∀ {l:List Field} {pl:List (Nat × Nat)},(l.mapM λf=>(jf P f.type).map λs=>(f.offset,s))=some pl ->
  (l.mapM (λf=>do pure (f.offset,<- sizeOf f.type)):Sem (List (Nat × Nat))).run P w=.ok pl w
 | [],pl,h=>by simp at h; subst h; simp
 | f::l,pl,h=>by
  simp only [List.mapM_cons,Option.bind_eq_bind,Option.bind_eq_some_iff,Option.map_eq_some_iff,Option.pure_def,Option.some.injEq] at h;obtain ⟨p,⟨s,hs,rfl⟩,r,hr,rfl⟩:=h;obtain ⟨i,hi,rfl⟩:=zw hs;have:=Xj (w:=w) hr;simp only [List.mapM_cons,Sem.run_bind,ze hi,Result.andThen_ok,Sem.run_pure];rw [this]; rfl
theorem YQ {P:Program} {φ:Ren} {w:World} {t:TypeId} {fs:Array Field} {z:Value} {pl:List (Nat × Nat)} {i:TypeInfo} (hfs:P.underlying t=some (.struct fs)) (hti:P.info? t=some i) (hz:i.zero=some z) (hp:z.cells.toList.all plain=true)
  (hpl:Xr P fs=some pl) {ps:List (Nat × Nat × Value)} {PS:Array (Nat × Value)} (hP:ZY φ (λi=>pl[i]?) ps PS.toList) {c:List Value} (h:qt z.cells.toList ps=some c) :
  ∃ V,(Instr.build t PS).run P w=.ok V w/\VR φ (.agg c.toArray) V:=by
 obtain ⟨R,hR,r⟩:=Zp (place:=λi=>pl.toArray[i]?) ps PS.toList z.cells.toList z.cells c (by simpa using hP) (VRs.plain hp) h;refine ⟨.agg R,?_,by have:=r.agg; simpa using this⟩;have hm:(fs.mapM (λf=>do pure (f.offset,<- sizeOf f.type)):Sem (Array (Nat × Nat))).run P w=.ok pl.toArray w:=by
  have:=Xj (w:=w) (P:=P) (l:=fs.toList) hpl;rw [<- Array.toList_mapM] at this;simp only [Sem.run_map] at this;generalize (fs.mapM (λf=>do pure (f.offset,<- sizeOf f.type)):Sem (Array (Nat × Nat))).run P w=q at this ⊢
  cases q with
  | ok q w'=>simp at this; obtain ⟨rfl,rfl⟩:=this; simp
  | halt q w'=>simp at this
 simp only [Instr.build,Sem.run_bind,zV hti hz,Result.andThen_ok,qy hfs,hm];rw [hR];simp
theorem Wg {P:Program} {φ:Ren} {w:World} {t:TypeId} {n:Nat} {e:TypeId} {z:Value} {j i:TypeInfo} (hfs:P.underlying t=some (.array n e)) (hti:P.info? t=some i) (hz:i.zero=some z) (hp:z.cells.toList.all plain=true)
  (hj:P.info? e=some j) {ps:List (Nat × Nat × Value)} {PS:Array (Nat × Value)} (hP:ZY φ (λi=>some (i * j.size,j.size)) ps PS.toList) {c:List Value} (h:qt z.cells.toList ps=some c) :
  ∃ V,(Instr.build t PS).run P w=.ok V w/\VR φ (.agg c.toArray) V:=by
 obtain ⟨R,hR,r⟩:=Zp (place:=λi=>some (i * j.size,j.size)) ps PS.toList z.cells.toList z.cells c hP (VRs.plain hp) h;refine ⟨.agg R,?_,by have:=r.agg; simpa using this⟩;simp only [Instr.build,Sem.run_bind,zV hti hz,Result.andThen_ok,qy hfs,ze hj];rw [hR];simp
theorem Zy {P:Program} {φ:Ren} {m:Mem} {w:World} (hi:Inv φ m w) {t e:TypeId} {i:TypeInfo} {z:Value} {len:Nat} (hte:P.underlying t=some (.slice e)) (hti:P.info? e=some i) (hz:i.zero=some z) (hp:z.cells.toList.all plain=true) (hs:z.cells.size=i.size) (hlen:len * i.size<=2 ^ 24)
  {ps:List (Nat × Nat × Value)} {PS:Array (Nat × Value)} (hP:ZY φ (λk=>some (k * i.size,i.size)) ps PS.toList) {c:List Value} (h:qt (List.replicate len z.cells.toList).flatten ps=some c) :
  ∃ V w' φ',(Instr.buildSlice t len PS).run P w=.ok V w'/\VR φ' (xK e len c m).1 V/\Inv φ' (xK e len c m).2 w'/\Frm φ m w φ' (xK e len c m).2 w':=by
 have hrep:=replicate_flatten_eq z.cells i.size len hs;have hplain:(List.replicate len z.cells.toList).flatten.all plain=true:=by
  rw [List.all_eq_true];intro v hv;simp only [List.mem_flatten,List.mem_replicate] at hv;obtain ⟨l,⟨_,rfl⟩,hv⟩:=hv;exact List.all_eq_true.1 hp v hv
 obtain ⟨R,hR,r⟩:=Zp ps PS.toList _ ((Array.range (len * i.size)).map (z.cells[· % z.cells.size]!)) c hP (by rw [hrep]; exact VRs.plain hplain) h;obtain ⟨φ',h1,h2,h3⟩:=hi.Qs e r;refine ⟨.slice (some ⟨w.heap.size,0,none⟩) len len,_,φ',?_,?_,h1,h2⟩
 ·have hn:¬ (len * i.size > 2 ^ 24):=by omega
  simp only [Instr.buildSlice,Sem.run_bind,qy hte,Result.andThen_ok,ze hti,Sem.run_ite,if_neg hn,Sem.run_pure];by_cases h0:len * i.size=0
  ·rw [if_pos h0];have e0:(Array.range (len * i.size)).map ((#[]:Array Value)[· % (#[]:Array Value).size]!)=(Array.range (len * i.size)).map (z.cells[· % z.cells.size]!):=by rw [h0]; simp
   rw [e0,hR];simp [newRow]
  ·rw [if_neg h0];simp only [Sem.run_bind,zV hti hz,Result.andThen_ok,Sem.run_pure];rw [hR];simp [newRow]
 ·exact VR.sliceEx m.next 0 len len ⟨w.heap.size,0,none,0⟩ h3 rfl
theorem qaI {P:Program} {o:Oper} {ao:AOp} (hr:ZI P o=some ao) {φ:Ren} {m m':Mem} {w:World} (hi:Inv φ m w) {ts:List Value} {a:Act} (ht:VRs φ ts a.tmps.toList) {v:Value} (h:ao.run ts m=some (v,m')) :
  qH φ m w ((execOp a.eval o).run P w) v m':=by
 obtain ⟨dst,op,ty,pos,af,g⟩:=o;cases op<;>simp only [ZI] at hr
 case move x =>
  cases hr
  simp only [AOp.run,Option.map_eq_some_iff,Prod.mk.injEq] at h;obtain ⟨p,hp,rfl,rfl⟩:=h;exact qH.quiet hi (qw ht hp) rfl
 case assign x =>
  cases hr
  simp only [AOp.run,Option.map_eq_some_iff,Prod.mk.injEq] at h;obtain ⟨p,hp,rfl,rfl⟩:=h;exact qH.quiet hi (qw ht hp) rfl
 case nilCheck x =>
  cases hr
  simp only [AOp.run,Option.bind_eq_some_iff,Option.map_eq_some_iff,Prod.mk.injEq] at h;obtain ⟨p,hp,u,hu,rfl,rfl⟩:=h;have hv:=qw ht hp;generalize hx:a.eval x=X at hv;unfold qB at hu;split at hu
  ·cases hu
   cases hv with
   | ptr b off l hl=>exact qH.quiet hi (.ptr b off l hl) (by simp [execOp,hx])
  ·cases hu
   cases hv with
   | func _ _ _ _ _ h1 h2 h3 h4=>exact qH.quiet hi (.func _ _ _ _ _ h1 h2 h3 h4) (by simp [execOp,hx])
  ·cases hu
 case pick c x y =>
  cases hr
  simp only [AOp.run,Option.bind_eq_some_iff,Option.map_eq_some_iff,Prod.mk.injEq] at h;obtain ⟨p,hp,t,htt,q,hq,r,hrr,rfl,rfl⟩:=h;have hv:=qw ht hp;generalize hx:a.eval c=C at hv;unfold asB at htt;split at htt
  ·cases htt
   cases hv
   cases t
   ·exact qH.quiet hi (qw ht hrr) (by simp [execOp,hx,asBool])
   ·exact qH.quiet hi (qw ht hq) (by simp [execOp,hx,asBool])
  ·cases htt
 case alloc e =>
  simp only [Option.map_eq_some_iff] at hr;obtain ⟨z,hz,rfl⟩:=hr;obtain ⟨i,hti,hzi,hp⟩:=xI hz;simp only [AOp.run,Option.some.injEq] at h;have e1:(jH e z m).1=v:=by rw [h]
  have e2:(jH e z m).2=m':=by rw [h]
  subst e1; subst e2;obtain ⟨V,w',φ',h1,h2,h3,h4⟩:=YR (P:=P) hi hti hzi (VR.QK hp);exact qH.val h1 h2 h3 h4
 case box e x =>
  cases hr
  simp only [AOp.run,Option.map_eq_some_iff] at h;obtain ⟨p,hp,h⟩:=h;have e1:(jH e p m).1=v:=by rw [h]
  have e2:(jH e p m).2=m':=by rw [h]
  subst e1; subst e2;obtain ⟨V,w',φ',h1,h2,h3,h4⟩:=qdg (P:=P) hi e (qw ht hp);exact qH.val h1 h2 h3 h4
 case build t ps =>
  split at hr
  ·rename_i q hq;simp only [Option.bind_eq_some_iff,Option.map_eq_some_iff] at hr;obtain ⟨s,hs,z,hz,l,hl,rfl⟩:=hr;obtain ⟨j,hj,rfl⟩:=zw hs;obtain ⟨i,hti,hzi,hp⟩:=xI hz;simp only [AOp.run,Option.bind_eq_some_iff,Option.map_eq_some_iff,Prod.mk.injEq] at h;obtain ⟨r,hr,c,hc,rfl,rfl⟩:=h;have hP:=wo ht hl hr;obtain ⟨V,h1,h2⟩:=Wg (P:=P) (w:=w) (PS:=ps.map λ(i,x)=>(i,a.eval x)) (VE hq) hti hzi hp hj (by simpa using hP) hc;exact qH.still hi h1 h2
  ·simp only [Option.bind_eq_some_iff,Option.map_eq_some_iff] at hr;obtain ⟨fs,hfs,z,hz,pl,hpl,l,hl,rfl⟩:=hr;obtain ⟨i,hti,hzi,hp⟩:=xI hz;simp only [AOp.run,Option.bind_eq_some_iff,Option.map_eq_some_iff,Prod.mk.injEq] at h;obtain ⟨r,hr,c,hc,rfl,rfl⟩:=h;have hP:=wo ht hl hr;obtain ⟨V,h1,h2⟩:=YQ (P:=P) (w:=w) (PS:=ps.map λ(i,x)=>(i,a.eval x)) (wN hfs) hti hzi hp hpl (by simpa using hP) hc;exact qH.still hi h1 h2
 case buildSlice t len ps =>
  simp only [Option.bind_eq_some_iff] at hr;obtain ⟨e,he,s,hs,z,hz,hr⟩:=hr;obtain ⟨i,hti,rfl⟩:=zw hs;obtain ⟨i',hti',hzi,hp⟩:=xI hz;rw [hti] at hti'; cases hti'
  split at hr
  ·rename_i hh;simp only [Option.map_eq_some_iff] at hr;obtain ⟨l,hl,rfl⟩:=hr;simp only [AOp.run,Option.bind_eq_some_iff,Option.map_eq_some_iff] at h;obtain ⟨r,hr,c,hc,h⟩:=h;have hP:=wo ht hl hr;have e1:(xK e len c m).1=v:=by rw [h]
   have e2:(xK e len c m).2=m':=by rw [h]
   subst e1; subst e2;obtain ⟨V,w',φ',h1,h2,h3,h4⟩:=Zy (P:=P) (PS:=ps.map λ(i,x)=>(i,a.eval x)) hi (xN he) hti hzi hp hh.2.1 hh.1 (by simpa using hP) hc;exact qH.val h1 h2 h3 h4
  ·cases hr
 case load t x =>
  simp only [Option.bind_eq_some_iff] at hr;obtain ⟨ag,hag,hr⟩:=hr;cases ag
  ·simp only [Bool.false_eq_true,if_false,Option.some.injEq] at hr;subst hr;simp only [AOp.run,Option.bind_eq_some_iff,Option.map_eq_some_iff,Prod.mk.injEq] at h;obtain ⟨p,hp,u,hu,rfl,rfl⟩:=h;obtain ⟨U,h1,h2⟩:=Xe (P:=P) hi hag (qw ht hp) hu;exact qH.still hi h1 h2
  ·simp only [if_true,Option.map_eq_some_iff] at hr;obtain ⟨n,hn,rfl⟩:=hr;obtain ⟨i,hti,rfl⟩:=zw hn;simp only [AOp.run,Option.bind_eq_some_iff,Option.map_eq_some_iff,Prod.mk.injEq] at h;obtain ⟨p,hp,u,hu,rfl,rfl⟩:=h;obtain ⟨U,h1,h2⟩:=Xd (P:=P) hi hag hti (qw ht hp) hu;exact qH.still hi h1 h2
 case store t x y =>
  simp only [Option.map_eq_some_iff] at hr;obtain ⟨n,hn,rfl⟩:=hr;obtain ⟨i,hti,rfl⟩:=zw hn;simp only [AOp.run,Option.bind_eq_some_iff,Option.map_eq_some_iff,Prod.mk.injEq] at h;obtain ⟨p,hp,q,hq,u,hu,rfl,rfl⟩:=h;obtain ⟨w',h1,h2,h3⟩:=YJ (P:=P) hi hti (qw ht hp) (qw ht hq) hu;exact ⟨undef,w',φ,.inr ⟨by simp [execOp,h1],rfl⟩,VR.undef φ,h2,h3⟩
 case binOp op t x y ty2 =>
  by_cases h1:op=.eql
  ·subst h1;exact res_eq (neg:=false) hr hi ht h
  ·by_cases h2:op=.neq
   ·subst h2;exact res_eq (neg:=true) hr hi ht h
   ·have hr':some (AOp.arith op x y)=some ao:=by
     cases op<;>simp at h1 h2<;>exact hr
    cases hr'
    simp only [AOp.run,Option.bind_eq_some_iff,Option.map_eq_some_iff,Prod.mk.injEq] at h;obtain ⟨p,hp,q,hq,u,hu,rfl,rfl⟩:=h;obtain ⟨h1,h2⟩:=Xg (P:=P) (w:=w) (t:=t) (x:=x) (y:=y) (qw ht hp) (qw ht hq) hu;exact qH.still hi h1 h2
 case unOp op t x =>
  cases hr
  simp only [AOp.run,Option.bind_eq_some_iff,Option.map_eq_some_iff,Prod.mk.injEq] at h;obtain ⟨p,hp,u,hu,rfl,rfl⟩:=h;obtain ⟨h1,h2⟩:=qeE (P:=P) (w:=w) (qw ht hp) hu;exact qH.still hi h1 h2
 case convert s d x =>
  split at hr
  ·rename_i hs hd;cases hr
   simp only [AOp.run,Option.bind_eq_some_iff,Option.map_eq_some_iff,Prod.mk.injEq] at h;obtain ⟨p,hp,u,hu,rfl,rfl⟩:=h;obtain ⟨h1,h2⟩:=qau (P:=P) (w:=w) hs hd (qw ht hp) hu;exact qH.still hi h1 h2
  ·rename_i e hs hd;split at hr
   ·rename_i he;cases hr
    simp only [AOp.run,E1.run,Option.bind_eq_some_iff] at h;obtain ⟨p,hp,hu⟩:=h;obtain ⟨U,w',φ',h1,h2,h3,h4⟩:=qdb (P:=P) hi hs hd he (qw ht hp) hu;exact qH.val h1 h2 h3 h4
   ·cases hr
  ·rename_i t hs hd;simp only [Option.bind_eq_some_iff] at hr;obtain ⟨n,hn,hr⟩:=hr;obtain ⟨i,hti,rfl⟩:=zw hn;split at hr
   ·rename_i hz;cases hr
    simp only [AOp.run,R1.run,Option.bind_eq_some_iff,Option.map_eq_some_iff,Prod.mk.injEq] at h;obtain ⟨p,hp,u,hu,rfl,rfl⟩:=h;obtain ⟨U,h1,h2⟩:=qdd (P:=P) hi hs hd hti hz (qw ht hp) hu;exact qH.still hi h1 h2
   ·cases hr
  ·rename_i t hs hd;simp only [Option.bind_eq_some_iff] at hr;obtain ⟨n,hn,hr⟩:=hr;obtain ⟨i,hti,rfl⟩:=zw hn;split at hr
   ·rename_i hz;cases hr
    simp only [AOp.run,R1.run,Option.bind_eq_some_iff,Option.map_eq_some_iff,Prod.mk.injEq] at h;obtain ⟨p,hp,u,hu,rfl,rfl⟩:=h;obtain ⟨U,h1,h2⟩:=qda (P:=P) hi hs hd hti (λk hk=>Ht (by rw [hz.2]; exact hz.1) k hk) hz.2 hz.1 (qw ht hp) hu;exact qH.still hi h1 h2
   ·cases hr
  ·rename_i hs hd;split at hr
   ·rename_i he;cases hr
    simp only [AOp.run,Option.bind_eq_some_iff,Option.map_eq_some_iff,Prod.mk.injEq] at h;obtain ⟨p,hp,u,hu,rfl,rfl⟩:=h;obtain ⟨h1,h2⟩:=qdh (P:=P) hi hs hd he (qw ht hp) hu;exact qH.still hi h1 h2
   ·cases hr
  ·cases hr
 case makeFunc fn first captured =>
  cases fn<;>simp only [ZI] at hr<;>try (cases hr; done)
  cases hr
  simp only [AOp.run,Option.bind_eq_some_iff,Option.map_eq_some_iff,Prod.mk.injEq] at h;obtain ⟨l0,hl0,l,hl,rfl,rfl⟩:=h;have h0:=vD ht hl0;have h1:=vD ht hl;refine qH.quiet hi (.func _ l0.toArray (first.map a.eval) l.toArray (captured.map a.eval) ?_ ?_ ?_ ?_) (by simp [execOp,Instr.makeFunc])
  ·have:=h0.1; simpa using this
  ·intro i x y hx hy;exact h0.2 i x y (by simpa using hx) (by simpa using hy)
  ·have:=h1.1; simpa using this
  ·intro i x y hx hy;exact h1.2 i x y (by simpa using hx) (by simpa using hy)
 case lookup t x y ok =>
  simp only [Option.bind_eq_some_iff,Option.map_eq_some_iff] at hr;obtain ⟨q,hq,kk,hkk,z,hz,rfl⟩:=hr;obtain ⟨i,hti,hzi,hzp⟩:=xI hz;simp only [AOp.run,R2.run,Option.bind_eq_some_iff,Option.map_eq_some_iff,Prod.mk.injEq] at h;obtain ⟨p,hp,k,hk,u,hu,rfl,rfl⟩:=h;obtain ⟨U,h1,h2⟩:=VZ (P:=P) hi (wa hq) hkk hti hzi (VR.QK hzp) (qw ht hp) (qw ht hk) hu;exact qH.still hi h1 h2
 case mapUpdate t x k y =>
  simp only [Option.bind_eq_some_iff,Option.map_eq_some_iff] at hr;obtain ⟨q,hq,kk,hkk,rfl⟩:=hr;simp only [AOp.run,Option.bind_eq_some_iff,Option.map_eq_some_iff,Prod.mk.injEq] at h;obtain ⟨p,hp,k,hk,u,hu,v',hv,rfl,rfl⟩:=h;obtain ⟨w',h1,h2,h3⟩:=QC (P:=P) hi (wa hq) hkk (qw ht hp) (qw ht hk) (qw ht hu) hv;exact ⟨undef,w',φ,.inr ⟨by simp [execOp,h1],rfl⟩,VR.undef φ,h2,h3⟩
 case insert t x k y =>
  simp only [Option.bind_eq_some_iff,Option.map_eq_some_iff] at hr;obtain ⟨q,hq,kk,hkk,rfl⟩:=hr;simp only [AOp.run,Option.bind_eq_some_iff,Option.map_eq_some_iff,Prod.mk.injEq] at h;obtain ⟨p,hp,k,hk,u,hu,v',hv,rfl,rfl⟩:=h;obtain ⟨w',h1,h2,h3⟩:=QC (P:=P) hi (wa hq) hkk (qw ht hp) (qw ht hk) (qw ht hu) hv;exact ⟨undef,w',φ,.inr ⟨by simp [execOp,h1],rfl⟩,VR.undef φ,h2,h3⟩
 case makeMap t x =>
  simp only [Option.map_eq_some_iff] at hr;obtain ⟨q,hq,rfl⟩:=hr;simp only [AOp.run,Option.bind_eq_some_iff] at h;obtain ⟨p,hp,h⟩:=h;split at h
  ·rename_i hh;obtain ⟨V,w',φ',h1,h2,h3,h4⟩:=YM (P:=P) hi t;have e1:(zJ m).1=v:=by rw [Option.some.inj h]
   have e2:(zJ m).2=m':=by rw [Option.some.inj h]
   subst e1; subst e2;refine qH.val (s:=Instr.makeMap t (x.map a.eval)) (V:=V) ?_ h2 h3 h4;have hx:=jZ ht hp;generalize x.map a.eval=X at hx;unfold qbb at hh;split at hh
   ·cases X with
    | none=>exact h1
    | some _=>exact hx.elim
   ·cases X with
    | none=>exact hx.elim
    | some X =>
     simp only [wU] at hx;cases hx
     rw [<- h1];simp [Instr.makeMap,qy (wa hq),asInt,asIntOf]
   ·cases hh
  ·cases h
 case range t x =>
  split at hr
  ·rename_i hd;cases hr
   simp only [AOp.run,E1.run,Option.bind_eq_some_iff] at h;obtain ⟨p,hp,hu⟩:=h;obtain ⟨U,w',φ',h1,h2,h3,h4⟩:=VX (P:=P) hi hd (qw ht hp) hu;exact qH.val h1 h2 h3 h4
  ·cases hr
 case next x str =>
  cases str
  ·simp only [ZI] at hr; cases hr
  ·simp only [ZI] at hr;cases hr
   simp only [AOp.run,E1.run,Option.bind_eq_some_iff] at h;obtain ⟨p,hp,hu⟩:=h;obtain ⟨w',h1,h2,h3,h4⟩:=YK (P:=P) (ty:=ty) hi (qw ht hp) hu;exact qH.val h1 h2 h3 h4
 case typeAssert x xt t ok =>
  split at hr
  ·cases hr
  ·rename_i d hd hni;simp only [Option.map_eq_some_iff] at hr;obtain ⟨z,hz,rfl⟩:=hr;obtain ⟨i,hti,hzi,hzp⟩:=xI hz;simp only [AOp.run,P1.run,Option.bind_eq_some_iff,Option.map_eq_some_iff,Prod.mk.injEq] at h;obtain ⟨p,hp,u,hu,rfl,rfl⟩:=h;obtain ⟨U,h1,h2⟩:=Wh (P:=P) (w:=w) (xt:=xt) hni (λms e=>hd ms e) hti hzi (VR.QK hzp) (qw ht hp) hu;exact qH.still hi h1 h2
  ·cases hr
 case fieldAddr t x k =>
  simp only [Option.bind_eq_some_iff] at hr;obtain ⟨fs,hfs,f,hf,s,hs,hr⟩:=hr;obtain ⟨i,hti,rfl⟩:=zw hs;split at hr
  ·rename_i hz;cases hr
   simp only [AOp.run,Option.bind_eq_some_iff,Option.map_eq_some_iff,Prod.mk.injEq] at h;obtain ⟨p,hp,u,hu,rfl,rfl⟩:=h;obtain ⟨U,h1,h2⟩:=Xy (P:=P) (w:=w) (wN hfs) hf hti hz (qw ht hp) hu;exact qH.still hi h1 h2
  ·cases hr
 case field t x k =>
  simp only [Option.bind_eq_some_iff,Option.map_eq_some_iff] at hr;obtain ⟨fs,hfs,f,hf,s,hs,ag,hag,rfl⟩:=hr;simp only [AOp.run,Option.bind_eq_some_iff,Option.map_eq_some_iff,Prod.mk.injEq] at h;obtain ⟨p,hp,u,hu,rfl,rfl⟩:=h;obtain ⟨U,h1,h2⟩:=YN (P:=P) (w:=w) (wN hfs) hf hs hag (qw ht hp) hu;exact qH.still hi h1 h2
 case indexAddr t x i =>
  split at hr
  ·rename_i e he;simp only [Option.map_eq_some_iff] at hr;obtain ⟨s,hs,rfl⟩:=hr;obtain ⟨i',hti,rfl⟩:=zw hs;simp only [AOp.run,Option.bind_eq_some_iff,Option.map_eq_some_iff,Prod.mk.injEq] at h;obtain ⟨p,hp,q,hq,u,hu,rfl,rfl⟩:=h;obtain ⟨U,h1,h2⟩:=Wb (P:=P) (w:=w) (xN he) hti (qw ht hp) (qw ht hq) hu;exact qH.still hi h1 h2
  ·simp only [Option.bind_eq_some_iff,Option.map_eq_some_iff] at hr;obtain ⟨⟨n,e⟩,he,s,hs,rfl⟩:=hr;obtain ⟨i',hti,rfl⟩:=zw hs;simp only [AOp.run,Option.bind_eq_some_iff,Option.map_eq_some_iff,Prod.mk.injEq] at h;obtain ⟨p,hp,q,hq,u,hu,rfl,rfl⟩:=h;obtain ⟨U,h1,h2⟩:=Wc (P:=P) (w:=w) (VE he) hti (qw ht hp) (qw ht hq) hu;exact qH.still hi h1 h2
 case index t x i =>
  split at hr
  ·rename_i hd;cases hr
   simp only [AOp.run,Option.bind_eq_some_iff,Option.map_eq_some_iff,Prod.mk.injEq] at h;obtain ⟨p,hp,q,hq,u,hu,rfl,rfl⟩:=h;obtain ⟨h1,h2⟩:=Jo (P:=P) (w:=w) hd (qw ht hp) (qw ht hq) hu;exact qH.still hi h1 h2
  ·rename_i n e hd;simp only [Option.bind_eq_some_iff,Option.map_eq_some_iff] at hr;obtain ⟨s,hs,ag,hag,rfl⟩:=hr;obtain ⟨i',hti,rfl⟩:=zw hs;simp only [AOp.run,Option.bind_eq_some_iff,Option.map_eq_some_iff,Prod.mk.injEq] at h;obtain ⟨p,hp,q,hq,u,hu,rfl,rfl⟩:=h;obtain ⟨U,h1,h2⟩:=Jp (P:=P) (w:=w) hd hti hag (qw ht hp) (qw ht hq) hu;exact qH.still hi h1 h2
  ·cases hr
 case slice t x lo hi' mx =>
  cases mx with
  | some mx =>
   simp only [ZI,Option.bind_eq_some_iff,Option.map_eq_some_iff] at hr;obtain ⟨e,he,s,hs,rfl⟩:=hr;obtain ⟨i,hti,rfl⟩:=zw hs;simp only [AOp.run,Option.bind_eq_some_iff,Option.map_eq_some_iff,Prod.mk.injEq] at h;obtain ⟨p,hp,l,hl,q,hq,k,hk,u,hu,rfl,rfl⟩:=h;obtain ⟨U,h1,h2⟩:=VW (P:=P) hi (xN he) hti (qw ht hp) (jZ ht hl) (jZ ht hq) (qw ht hk) hu;exact qH.still hi h1 h2
  | none =>
   simp only [ZI] at hr;split at hr
   ·rename_i hd;cases hr
    simp only [AOp.run,Option.bind_eq_some_iff,Option.map_eq_some_iff,Prod.mk.injEq] at h;obtain ⟨p,hp,l,hl,q,hq,u,hu,rfl,rfl⟩:=h;obtain ⟨h1,h2⟩:=Jm (P:=P) (w:=w) hd (qw ht hp) (jZ ht hl) (jZ ht hq) hu;exact qH.still hi h1 h2
   ·rename_i e hd;simp only [Option.map_eq_some_iff] at hr;obtain ⟨s,hs,rfl⟩:=hr;obtain ⟨i',hti,rfl⟩:=zw hs;simp only [AOp.run,Option.bind_eq_some_iff,Option.map_eq_some_iff,Prod.mk.injEq] at h;obtain ⟨p,hp,l,hl,q,hq,u,hu,rfl,rfl⟩:=h;obtain ⟨U,h1,h2⟩:=VU (P:=P) hi hd hti (qw ht hp) (jZ ht hl) (jZ ht hq) hu;exact qH.still hi h1 h2
   ·rename_i n e hd;simp only [Option.map_eq_some_iff] at hr;obtain ⟨s,hs,rfl⟩:=hr;obtain ⟨i',hti,rfl⟩:=zw hs;simp only [AOp.run,Option.bind_eq_some_iff,Option.map_eq_some_iff,Prod.mk.injEq] at h;obtain ⟨p,hp,l,hl,q,hq,u,hu,rfl,rfl⟩:=h;obtain ⟨U,h1,h2⟩:=VV (P:=P) hi hd hti (qw ht hp) (jZ ht hl) (jZ ht hq) hu;exact qH.still hi h1 h2
   ·cases hr
 case makeSlice t n c =>
  simp only [Option.bind_eq_some_iff] at hr;obtain ⟨e,he,i,hti,z,hz,hr⟩:=hr;obtain ⟨i',hti',hzi,hp⟩:=xI hz;rw [hti] at hti'; cases hti'
  split at hr
  ·rename_i hs;cases hr
   simp only [AOp.run,Option.bind_eq_some_iff] at h;obtain ⟨p,hp',q,hq,h⟩:=h;obtain ⟨V,w',φ',h1,h2,h3,h4⟩:=YL (P:=P) hi (xN he) hti hzi hp hs (qw ht hp') (qw ht hq) h;exact qH.val h1 h2 h3 h4
  ·cases hr
 case makeInterface t x =>
  simp only [Option.bind_eq_some_iff] at hr;obtain ⟨d,hd,hr⟩:=hr;split at hr
  ·cases hr
  ·rename_i hnot;cases hr
   simp only [AOp.run,Option.map_eq_some_iff,Prod.mk.injEq] at h;obtain ⟨p,hp,rfl,rfl⟩:=h;refine qH.still (V:=.iface t (a.eval x)) hi ?_ (.iface t _ _ (qw ht hp));simp only [Instr.makeInterface,Sem.run_bind,qy hd,Result.andThen_ok];cases d<;>first|rfl|exact (hnot _ rfl).elim
 case extract x i =>
  cases hr
  simp only [AOp.run,Option.bind_eq_some_iff,Option.map_eq_some_iff,Prod.mk.injEq] at h;obtain ⟨p,hp,u,hu,rfl,rfl⟩:=h;have hv:=qw ht hp;generalize hx:a.eval x=X at hv;unfold qG at hu;split at hu
  ·cases hv with
   | tuple xs ys h1 h2 =>
   obtain ⟨U,hU,r⟩:=(VRs.of_array h1 h2).get (i:=i) (x:=u) (by simpa using hu);refine qH.quiet hi r ?_;have hU':ys[i]? = some U:=by simpa using hU
   simp [execOp,hx,Instr.extract,hU']
  ·cases hu
 all_goals (first|cases hr|(simp only [ZI] at hr; cases hr))
theorem XD {P:Program} {w:World} {a:Act} {f:FuncId} {fn:Func} {e:Array Value->Sem Value} {xs:Array Operand} {tys:Array TypeId} {ty:TypeId} {d:Option Tmp} {pos:String} {af:Array Edge} {g:Option (Nat × Bool)} {V:Value} {w':World}
  (hf : P.funcs[f]? = some fn) (hn : ¬ fn.name = "runtime.NumGoroutine") (hb : fn.body.isNone = true) (h1 : Extern.findNext fn = none) (h2 : Extern.find fn = some e) (hev : (e (xs.map a.eval)).run P w = .ok V w') :
  (execOp a.eval ⟨d,.call { callee:=.value (.func f),args:=xs,argTypes:=tys },ty,pos,af,g⟩).run P w=.ok (.value V) w':=by
 have hx:a.eval (.func f)=.func (.func f) #[] #[]:=rfl;have hb':fn.body=none:=by simpa using hb
 simp [execOp,resolve,Deferred.ofValue,hx,invoke,callFunc,hf,hn,hb',h1,h2,hev]
theorem find_noEscape {fn : Func} (h : fn.name = "internal/abi.NoEscape") (ho : fn.origin = "") : Extern.findNext fn = none ∧ Extern.find fn = some Extern.AbiNoEscape.same := by
 refine ⟨?_,?_⟩
 ·unfold Extern.findNext; simp only [h,ho]; kernel_rfl
 ·unfold Extern.find; simp only [h,ho]; kernel_rfl
theorem find_noZero {fn : Func} (h : fn.name = "internal/bytealg.MakeNoZero") (ho : fn.origin = "") : Extern.findNext fn = none ∧ Extern.find fn = some (Extern.BytealgMakeNoZero.makeNoZero fn.params fn.resultTypes) := by
 refine ⟨?_,?_⟩
 ·unfold Extern.findNext; simp only [h,ho]; kernel_rfl
 ·unfold Extern.find; simp only [h,ho]; kernel_rfl
theorem find_idxByte {fn : Func} (h : fn.name = "internal/bytealg.IndexByteString") (ho : fn.origin = "") : Extern.findNext fn = none ∧ Extern.find fn = some Extern.BytealgIndexByte.indexByte := by
 refine ⟨?_,?_⟩
 ·unfold Extern.findNext; simp only [h,ho]; kernel_rfl
 ·unfold Extern.find; simp only [h,ho]; kernel_rfl
theorem find_cloneM {fn : Func} (h : fn.name = "maps.clone") (ho : fn.origin = "") : Extern.findNext fn = none ∧ Extern.find fn = some Extern.MapsClone.clone := by
 refine ⟨?_,?_⟩
 ·unfold Extern.findNext; simp only [h,ho]; kernel_rfl
 ·unfold Extern.find; simp only [h,ho]; kernel_rfl
theorem extOf_some {P : Program} {f : FuncId} {p : ExtK × Func} (h : extOf P f = some p) : P.funcs[f]? = some p.2 ∧ p.2.body.isNone = true ∧ p.2.origin = "" ∧ extK p.2.name = some p.1 := by
 unfold extOf at h;split at h
 ·rename_i fn hfn;split at h
  ·rename_i hb;simp only [Option.map_eq_some_iff] at h;obtain ⟨k,hk,rfl⟩:=h;exact ⟨hfn,hb.1,hb.2,hk⟩
  ·cases h
 ·cases h
theorem extK_name {n : String} {k : ExtK} (h : extK n = some k) : n = (match k with | .noEscape => "internal/abi.NoEscape" | .noZero => "internal/bytealg.MakeNoZero" | .idxByte => "internal/bytealg.IndexByteString" | .cloneM => "maps.clone") := by
 unfold extK at h;split at h
 ·cases h; assumption
 ·split at h
  ·cases h; assumption
  ·split at h
   ·cases h; assumption
   ·split at h
    ·cases h; assumption
    ·cases h
theorem Wn {P:Program} {f:FuncId} {xs:Array Operand} {tys:Array TypeId} {ao:AOp} (hr:qaJ P f xs.toList=some ao) {φ:Ren} {m m':Mem} {w:World} (hi:Inv φ m w) {ts:List Value} {a:Act} (ht:VRs φ ts a.tmps.toList) {v:Value} (h:ao.run ts m=some (v,m'))
  {ty:TypeId} {d:Option Tmp} {pos:String} {af:Array Edge} {g:Option (Nat × Bool)} :
  qH φ m w ((execOp a.eval ⟨d,.call { callee:=.value (.func f),args:=xs,argTypes:=tys },ty,pos,af,g⟩).run P w) v m':=by
 simp only [qaJ,Option.bind_eq_some_iff] at hr;obtain ⟨⟨k,fn⟩,hp,hr⟩:=hr;obtain ⟨hf,hb,ho,hk⟩:=extOf_some hp;have hn:=extK_name hk;simp only at hf hb ho hn;have hne : ¬ fn.name = "runtime.NumGoroutine" := by
  intro e;simp only [e] at hk;have : extK "runtime.NumGoroutine" = none := by decide
  rw [this] at hk; cases hk
 split at hr
 ·rename_i _ _ x hk' hx;obtain rfl:=hk';have e2:xs=#[x]:=by apply Array.toList_inj.1; simpa using hx
  subst e2;cases hr
  simp only [AOp.run,Option.map_eq_some_iff,Prod.mk.injEq] at h;obtain ⟨p,hp,rfl,rfl⟩:=h;obtain ⟨h1,h2⟩:=find_noEscape hn ho;exact ⟨a.eval x,w,φ,.inl (XD hf hne hb h1 h2 (by simpa using Lib.run_noEscape w (a.eval x))),qw ht hp,hi,Frm.refl φ m w⟩
 ·rename_i _ _ x hk' hx;obtain rfl:=hk';have e2:xs=#[x]:=by apply Array.toList_inj.1; simpa using hx
  subst e2;split at hr
  ·rename_i t hrt;have e3:fn.resultTypes=#[t]:=by apply Array.toList_inj.1; simpa using hrt
   simp only [Option.map_eq_some_iff] at hr;obtain ⟨e,he,rfl⟩:=hr;simp only [AOp.run,E1.run,Option.bind_eq_some_iff] at h;obtain ⟨p,hp,h⟩:=h;obtain ⟨h1,h2⟩:=find_noZero hn ho;rw [e3] at h2;obtain ⟨U,w',φ',h3,h4,h5,h6⟩:=VY (P:=P) (ps:=fn.params) hi (xN he) (qw ht hp) h;exact ⟨U,w',φ',.inl (XD hf hne hb h1 h2 (by simpa using h3)),h4,h5,h6⟩
  ·cases hr
 ·rename_i _ _ x y hk' hx;obtain rfl:=hk';have e2:xs=#[x,y]:=by apply Array.toList_inj.1; simpa using hx
  subst e2;cases hr
  simp only [AOp.run,P2.run,Option.bind_eq_some_iff,Option.map_eq_some_iff,Prod.mk.injEq] at h;obtain ⟨p,hp,q,hq,u,hu,rfl,rfl⟩:=h;obtain ⟨h1,h2⟩:=find_idxByte hn ho;have hx:=qw ht hp;have hy:=qw ht hq;unfold JA at hu;split at hu
  ·cases hu
   generalize hA:a.eval x=A at hx;generalize hB:a.eval y=B at hy;cases hx; cases hy
   rename_i s c;refine ⟨_,w,φ,.inl (XD hf hne hb h1 h2 (?_:_=Result.ok _ _)),.int ..,hi,Frm.refl φ m w⟩;simp only [List.map_toArray,List.map_cons,List.map_nil,hA,hB];exact Lib.run_indexByteString s c w
  ·cases hu
 ·rename_i _ _ x hk' hx;obtain rfl:=hk';have e2:xs=#[x]:=by apply Array.toList_inj.1; simpa using hx
  subst e2;cases hr
  simp only [AOp.run,E1.run,Option.bind_eq_some_iff] at h;obtain ⟨p,hp,h⟩:=h;obtain ⟨h1,h2⟩:=find_cloneM hn ho;obtain ⟨U,w',φ',h3,h4,h5,h6⟩:=Wd (P:=P) hi (qw ht hp) h;exact ⟨U,w',φ',.inl (XD hf hne hb h1 h2 (by simpa using h3)),h4,h5,h6⟩
 ·cases hr
theorem xm {a:Option AOp} {o:AOp} (h:yF a=some o):a=some o/\o.vy=false:=by
 simp only [yF,Option.bind_eq_some_iff] at h;obtain ⟨b,hb,h⟩:=h;split at h
 ·cases h
 ·rename_i hc; cases h; exact ⟨hb,by simpa using hc⟩
theorem qaH {P:Program} {o:Oper} {ao:AOp} (hr:res P o=some ao):ao.vy=false ∨
  (∃ (x:Operand) (args:Array Operand) (tys:Array TypeId),o.op=.call { callee:=.value x,args,argTypes:=tys }/\((∃ f,x=.func f/\ao=.call f args.toList/\zW P f=true)∨ao=.callv x args.toList)):=by
 unfold res at hr;split at hr
 ·rename_i c hc;obtain ⟨callee,xs,tys⟩:=c;unfold Wp at hr;split at hr
  ·exact .inl (xm hr).2
  ·rename_i f he;simp only at he; subst he;split at hr
   ·rename_i hg; cases hr; exact .inr ⟨_,xs,tys,hc,.inl ⟨f,rfl,rfl,hg⟩⟩
   ·exact .inl (xm hr).2
  ·rename_i x hx he;simp only at he; subst he;cases hr; exact .inr ⟨x,xs,tys,hc,.inr rfl⟩
  ·cases hr
 ·exact .inl (xm hr).2
theorem qdn {P:Program} {o:Oper} {ao:AOp} (hr:res P o=some ao) {φ:Ren} {m m':Mem} {w:World} (hi:Inv φ m w) {ts:List Value} {a:Act} (ht:VRs φ ts a.tmps.toList) {v:Value} (h:ao.run ts m=some (v,m')) :
  qH φ m w ((execOp a.eval o).run P w) v m':=by
 unfold res at hr;split at hr
 ·rename_i c hc;obtain ⟨dst,op,ty,pos,af,g⟩:=o;simp only at hc; subst hc;obtain ⟨callee,xs,tys⟩:=c;unfold Wp at hr;split at hr
  ·rename_i b he;simp only at he; subst he;exact Hg (xm hr).1 hi ht h
  ·rename_i f he;simp only at he; subst he;split at hr
   ·cases hr; simp [AOp.run] at h
   ·exact Wn (xm hr).1 hi ht h
  ·cases hr; simp [AOp.run] at h
  ·cases hr
 ·exact qaI (xm hr).1 hi ht h
end Go.Fx
