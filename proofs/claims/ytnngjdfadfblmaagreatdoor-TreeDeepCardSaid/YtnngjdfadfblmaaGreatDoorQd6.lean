/- Parts of a proof: FxSound2, FxStep, FxTmps. Conditions: none. -/
import Derived.LoopNIn
import Derived.TacticsIn
import Derived.OrdersIn
import Derived.RangeFuncSeq
import Derived.Tactics
import Derived.Scope
import Derived.Test.YtnngjdfadfblmaaGreatDoorQd5
namespace Go.Fx
open Go
set_option linter.unusedSimpArgs false
set_option linter.unusedVariables false
theorem mapM_fields {P:Program} {w:World}:∀ {l:List Field} {pl:List (Nat × Nat)},(l.mapM fun f=>(sizeT P f.type).map fun s=>(f.offset,s))=some pl →
  (l.mapM (fun f=>do pure (f.offset,← sizeOf f.type)):Sem (List (Nat × Nat))).run P w=.ok pl w
 | [],pl,h=>by simp at h; subst h; simp
 | f::l,pl,h=>by
  simp only [List.mapM_cons,Option.bind_eq_bind,Option.bind_eq_some_iff,Option.map_eq_some_iff,Option.pure_def,Option.some.injEq] at h
  obtain ⟨p,⟨s,hs,rfl⟩,r,hr,rfl⟩:=h
  obtain ⟨i,hi,rfl⟩:=sizeT_some hs
  have:=mapM_fields (w:=w) hr
  simp only [List.mapM_cons,Sem.run_bind,run_size hi,Result.andThen_ok,Sem.run_pure]
  rw [this]; rfl
theorem sound_build {P:Program} {φ:Ren} {w:World} {t:TypeId} {fs:Array Field} {z:Value} {pl:List (Nat × Nat)} {i:TypeInfo} (hfs:P.underlying t=some (.struct fs)) (hti:P.info? t=some i) (hz:i.zero=some z) (hp:z.cells.toList.all plain=true)
  (hpl:fieldPlaces P fs=some pl) {ps:List (Nat × Nat × Value)} {PS:Array (Nat × Value)} (hP:PartsR φ (fun i=>pl[i]?) ps PS.toList) {c:List Value} (h:afill z.cells.toList ps=some c) :
  ∃ V,(Instr.build t PS).run P w=.ok V w∧VR φ (.agg c.toArray) V:=by
 obtain ⟨R,hR,r⟩:=afill_ok (place:=fun i=>pl.toArray[i]?) ps PS.toList z.cells.toList z.cells c (by simpa using hP) (VRs.plain hp) h
 refine ⟨.agg R,?_,by have:=r.agg; simpa using this⟩
 have hm:(fs.mapM (fun f=>do pure (f.offset,← sizeOf f.type)):Sem (Array (Nat × Nat))).run P w=.ok pl.toArray w:=by
  have:=mapM_fields (w:=w) (P:=P) (l:=fs.toList) hpl
  rw [← Array.toList_mapM] at this
  simp only [Sem.run_map] at this
  generalize (fs.mapM (fun f=>do pure (f.offset,← sizeOf f.type)):Sem (Array (Nat × Nat))).run P w=q at this ⊢
  cases q with
  | ok q w'=>simp at this; obtain ⟨rfl,rfl⟩:=this; simp
  | halt q w'=>simp at this
 simp only [Instr.build,Sem.run_bind,run_zero hti hz,Result.andThen_ok,run_und hfs,hm]
 rw [hR]
 simp
theorem sound_buildA {P:Program} {φ:Ren} {w:World} {t:TypeId} {n:Nat} {e:TypeId} {z:Value} {j i:TypeInfo} (hfs:P.underlying t=some (.array n e)) (hti:P.info? t=some i) (hz:i.zero=some z) (hp:z.cells.toList.all plain=true)
  (hj:P.info? e=some j) {ps:List (Nat × Nat × Value)} {PS:Array (Nat × Value)} (hP:PartsR φ (fun i=>some (i * j.size,j.size)) ps PS.toList) {c:List Value} (h:afill z.cells.toList ps=some c) :
  ∃ V,(Instr.build t PS).run P w=.ok V w∧VR φ (.agg c.toArray) V:=by
 obtain ⟨R,hR,r⟩:=afill_ok (place:=fun i=>some (i * j.size,j.size)) ps PS.toList z.cells.toList z.cells c hP (VRs.plain hp) h
 refine ⟨.agg R,?_,by have:=r.agg; simpa using this⟩
 simp only [Instr.build,Sem.run_bind,run_zero hti hz,Result.andThen_ok,run_und hfs,run_size hj]
 rw [hR]
 simp
theorem sound_buildSlice {P:Program} {φ:Ren} {m:Mem} {w:World} (hi:Inv φ m w) {t e:TypeId} {i:TypeInfo} {z:Value} {len:Nat} (hte:P.underlying t=some (.slice e)) (hti:P.info? e=some i) (hz:i.zero=some z) (hp:z.cells.toList.all plain=true) (hs:z.cells.size=i.size) (hlen:len * i.size≤2 ^ 24)
  {ps:List (Nat × Nat × Value)} {PS:Array (Nat × Value)} (hP:PartsR φ (fun k=>some (k * i.size,i.size)) ps PS.toList) {c:List Value} (h:afill (List.replicate len z.cells.toList).flatten ps=some c) :
  ∃ V w' φ',(Instr.buildSlice t len PS).run P w=.ok V w'∧VR φ' (runBuildSlice e len c m).1 V∧Inv φ' (runBuildSlice e len c m).2 w'∧Frm φ m w φ' (runBuildSlice e len c m).2 w':=by
 have hrep:=replicate_flatten_eq z.cells i.size len hs
 have hplain:(List.replicate len z.cells.toList).flatten.all plain=true:=by
  rw [List.all_eq_true]
  intro v hv
  simp only [List.mem_flatten,List.mem_replicate] at hv
  obtain ⟨l,⟨_,rfl⟩,hv⟩:=hv
  exact List.all_eq_true.1 hp v hv
 obtain ⟨R,hR,r⟩:=afill_ok ps PS.toList _ ((Array.range (len * i.size)).map (z.cells[· % z.cells.size]!)) c hP (by rw [hrep]; exact VRs.plain hplain) h
 obtain ⟨φ',h1,h2,h3⟩:=hi.allocCells e r
 refine ⟨.slice (some ⟨w.heap.size,0,none⟩) len len,_,φ',?_,?_,h1,h2⟩
 ·have hn:¬ (len * i.size > 2 ^ 24):=by omega
  simp only [Instr.buildSlice,Sem.run_bind,run_und hte,Result.andThen_ok,run_size hti,Sem.run_ite,if_neg hn,Sem.run_pure]
  by_cases h0:len * i.size=0
  ·rw [if_pos h0]
   have e0:(Array.range (len * i.size)).map ((#[]:Array Value)[· % (#[]:Array Value).size]!)=(Array.range (len * i.size)).map (z.cells[· % z.cells.size]!):=by rw [h0]; simp
   rw [e0,hR]
   simp [newRow]
  ·rw [if_neg h0]
   simp only [Sem.run_bind,run_zero hti hz,Result.andThen_ok,Sem.run_pure]
   rw [hR]
   simp [newRow]
 ·exact VR.sliceEx m.next 0 len len ⟨w.heap.size,0,none,0⟩ h3 rfl
theorem resO_sound {P:Program} {o:Oper} {ao:AOp} (hr:resO P o=some ao) {φ:Ren} {m m':Mem} {w:World} (hi:Inv φ m w) {ts:List Value} {a:Act} (ht:VRs φ ts a.tmps.toList) {v:Value} (h:ao.run ts m=some (v,m')) :
  Comes1 φ m w ((execOp a.eval o).run P w) v m':=by
 obtain ⟨dst,op,ty,pos,af,g⟩:=o
 cases op<;>simp only [resO] at hr
 case move x =>
  cases hr
  simp only [AOp.run,Option.map_eq_some_iff,Prod.mk.injEq] at h
  obtain ⟨p,hp,rfl,rfl⟩:=h
  exact Comes1.quiet hi (aval_ok ht hp) rfl
 case assign x =>
  cases hr
  simp only [AOp.run,Option.map_eq_some_iff,Prod.mk.injEq] at h
  obtain ⟨p,hp,rfl,rfl⟩:=h
  exact Comes1.quiet hi (aval_ok ht hp) rfl
 case nilCheck x =>
  cases hr
  simp only [AOp.run,Option.bind_eq_some_iff,Option.map_eq_some_iff,Prod.mk.injEq] at h
  obtain ⟨p,hp,u,hu,rfl,rfl⟩:=h
  have hv:=aval_ok ht hp
  generalize hx:a.eval x=X at hv
  unfold runNilck at hu
  split at hu
  ·cases hu
   cases hv with
   | ptr b off l hl=>exact Comes1.quiet hi (.ptr b off l hl) (by simp [execOp,hx])
  ·cases hu
   cases hv with
   | func _ _ _ _ _ h1 h2 h3 h4=>exact Comes1.quiet hi (.func _ _ _ _ _ h1 h2 h3 h4) (by simp [execOp,hx])
  ·cases hu
 case pick c x y =>
  cases hr
  simp only [AOp.run,Option.bind_eq_some_iff,Option.map_eq_some_iff,Prod.mk.injEq] at h
  obtain ⟨p,hp,t,htt,q,hq,r,hrr,rfl,rfl⟩:=h
  have hv:=aval_ok ht hp
  generalize hx:a.eval c=C at hv
  unfold asB at htt
  split at htt
  ·cases htt
   cases hv
   cases t
   ·exact Comes1.quiet hi (aval_ok ht hrr) (by simp [execOp,hx,asBool])
   ·exact Comes1.quiet hi (aval_ok ht hq) (by simp [execOp,hx,asBool])
  ·cases htt
 case alloc e =>
  simp only [Option.map_eq_some_iff] at hr
  obtain ⟨z,hz,rfl⟩:=hr
  obtain ⟨i,hti,hzi,hp⟩:=zeroT_some hz
  simp only [AOp.run,Option.some.injEq] at h
  have e1:(runBox e z m).1=v:=by rw [h]
  have e2:(runBox e z m).2=m':=by rw [h]
  subst e1; subst e2
  obtain ⟨V,w',φ',h1,h2,h3,h4⟩:=sound_alloc (P:=P) hi hti hzi (VR.of_cells hp)
  exact Comes1.val h1 h2 h3 h4
 case box e x =>
  cases hr
  simp only [AOp.run,Option.map_eq_some_iff] at h
  obtain ⟨p,hp,h⟩:=h
  have e1:(runBox e p m).1=v:=by rw [h]
  have e2:(runBox e p m).2=m':=by rw [h]
  subst e1; subst e2
  obtain ⟨V,w',φ',h1,h2,h3,h4⟩:=sound_box (P:=P) hi e (aval_ok ht hp)
  exact Comes1.val h1 h2 h3 h4
 case build t ps =>
  split at hr
  ·rename_i q hq
   simp only [Option.bind_eq_some_iff,Option.map_eq_some_iff] at hr
   obtain ⟨s,hs,z,hz,l,hl,rfl⟩:=hr
   obtain ⟨j,hj,rfl⟩:=sizeT_some hs
   obtain ⟨i,hti,hzi,hp⟩:=zeroT_some hz
   simp only [AOp.run,Option.bind_eq_some_iff,Option.map_eq_some_iff,Prod.mk.injEq] at h
   obtain ⟨r,hr,c,hc,rfl,rfl⟩:=h
   have hP:=aparts_ok ht hl hr
   obtain ⟨V,h1,h2⟩:=sound_buildA (P:=P) (w:=w) (PS:=ps.map fun (i,x)=>(i,a.eval x)) (arrT_some hq) hti hzi hp hj (by simpa using hP) hc
   exact Comes1.still hi h1 h2
  ·simp only [Option.bind_eq_some_iff,Option.map_eq_some_iff] at hr
   obtain ⟨fs,hfs,z,hz,pl,hpl,l,hl,rfl⟩:=hr
   obtain ⟨i,hti,hzi,hp⟩:=zeroT_some hz
   simp only [AOp.run,Option.bind_eq_some_iff,Option.map_eq_some_iff,Prod.mk.injEq] at h
   obtain ⟨r,hr,c,hc,rfl,rfl⟩:=h
   have hP:=aparts_ok ht hl hr
   obtain ⟨V,h1,h2⟩:=sound_build (P:=P) (w:=w) (PS:=ps.map fun (i,x)=>(i,a.eval x)) (fieldsT_some hfs) hti hzi hp hpl (by simpa using hP) hc
   exact Comes1.still hi h1 h2
 case buildSlice t len ps =>
  simp only [Option.bind_eq_some_iff] at hr
  obtain ⟨e,he,s,hs,z,hz,hr⟩:=hr
  obtain ⟨i,hti,rfl⟩:=sizeT_some hs
  obtain ⟨i',hti',hzi,hp⟩:=zeroT_some hz
  rw [hti] at hti'; cases hti'
  split at hr
  ·rename_i hh
   simp only [Option.map_eq_some_iff] at hr
   obtain ⟨l,hl,rfl⟩:=hr
   simp only [AOp.run,Option.bind_eq_some_iff,Option.map_eq_some_iff] at h
   obtain ⟨r,hr,c,hc,h⟩:=h
   have hP:=aparts_ok ht hl hr
   have e1:(runBuildSlice e len c m).1=v:=by rw [h]
   have e2:(runBuildSlice e len c m).2=m':=by rw [h]
   subst e1; subst e2
   obtain ⟨V,w',φ',h1,h2,h3,h4⟩:=sound_buildSlice (P:=P) (PS:=ps.map fun (i,x)=>(i,a.eval x)) hi (elemT_some he) hti hzi hp hh.2.1 hh.1 (by simpa using hP) hc
   exact Comes1.val h1 h2 h3 h4
  ·cases hr
 case load t x =>
  simp only [Option.bind_eq_some_iff] at hr
  obtain ⟨ag,hag,hr⟩:=hr
  cases ag
  ·simp only [Bool.false_eq_true,if_false,Option.some.injEq] at hr
   subst hr
   simp only [AOp.run,Option.bind_eq_some_iff,Option.map_eq_some_iff,Prod.mk.injEq] at h
   obtain ⟨p,hp,u,hu,rfl,rfl⟩:=h
   obtain ⟨U,h1,h2⟩:=sound_load1 (P:=P) hi hag (aval_ok ht hp) hu
   exact Comes1.still hi h1 h2
  ·simp only [if_true,Option.map_eq_some_iff] at hr
   obtain ⟨n,hn,rfl⟩:=hr
   obtain ⟨i,hti,rfl⟩:=sizeT_some hn
   simp only [AOp.run,Option.bind_eq_some_iff,Option.map_eq_some_iff,Prod.mk.injEq] at h
   obtain ⟨p,hp,u,hu,rfl,rfl⟩:=h
   obtain ⟨U,h1,h2⟩:=sound_loadN (P:=P) hi hag hti (aval_ok ht hp) hu
   exact Comes1.still hi h1 h2
 case store t x y =>
  simp only [Option.map_eq_some_iff] at hr
  obtain ⟨n,hn,rfl⟩:=hr
  obtain ⟨i,hti,rfl⟩:=sizeT_some hn
  simp only [AOp.run,Option.bind_eq_some_iff,Option.map_eq_some_iff,Prod.mk.injEq] at h
  obtain ⟨p,hp,q,hq,u,hu,rfl,rfl⟩:=h
  obtain ⟨w',h1,h2,h3⟩:=sound_store (P:=P) hi hti (aval_ok ht hp) (aval_ok ht hq) hu
  exact ⟨undef,w',φ,.inr ⟨by simp [execOp,h1],rfl⟩,VR.undef φ,h2,h3⟩
 case binOp op t x y ty2 =>
  by_cases h1:op=.eql
  ·subst h1
   exact res_eq (neg:=false) hr hi ht h
  ·by_cases h2:op=.neq
   ·subst h2
    exact res_eq (neg:=true) hr hi ht h
   ·have hr':some (AOp.arith op x y)=some ao:=by
     cases op<;>simp at h1 h2<;>exact hr
    cases hr'
    simp only [AOp.run,Option.bind_eq_some_iff,Option.map_eq_some_iff,Prod.mk.injEq] at h
    obtain ⟨p,hp,q,hq,u,hu,rfl,rfl⟩:=h
    obtain ⟨h1,h2⟩:=sound_arith (P:=P) (w:=w) (t:=t) (x:=x) (y:=y) (aval_ok ht hp) (aval_ok ht hq) hu
    exact Comes1.still hi h1 h2
 case unOp op t x =>
  cases hr
  simp only [AOp.run,Option.bind_eq_some_iff,Option.map_eq_some_iff,Prod.mk.injEq] at h
  obtain ⟨p,hp,u,hu,rfl,rfl⟩:=h
  obtain ⟨h1,h2⟩:=sound_un (P:=P) (w:=w) (aval_ok ht hp) hu
  exact Comes1.still hi h1 h2
 case convert s d x =>
  split at hr
  ·rename_i hs hd
   cases hr
   simp only [AOp.run,Option.bind_eq_some_iff,Option.map_eq_some_iff,Prod.mk.injEq] at h
   obtain ⟨p,hp,u,hu,rfl,rfl⟩:=h
   obtain ⟨h1,h2⟩:=sound_conv (P:=P) (w:=w) hs hd (aval_ok ht hp) hu
   exact Comes1.still hi h1 h2
  ·rename_i e hs hd
   split at hr
   ·rename_i he
    cases hr
    simp only [AOp.run,E1.run,Option.bind_eq_some_iff] at h
    obtain ⟨p,hp,hu⟩:=h
    obtain ⟨U,w',φ',h1,h2,h3,h4⟩:=sound_s2b (P:=P) hi hs hd he (aval_ok ht hp) hu
    exact Comes1.val h1 h2 h3 h4
   ·cases hr
  ·rename_i t hs hd
   simp only [Option.bind_eq_some_iff] at hr
   obtain ⟨n,hn,hr⟩:=hr
   obtain ⟨i,hti,rfl⟩:=sizeT_some hn
   split at hr
   ·rename_i hz
    cases hr
    simp only [AOp.run,R1.run,Option.bind_eq_some_iff,Option.map_eq_some_iff,Prod.mk.injEq] at h
    obtain ⟨p,hp,u,hu,rfl,rfl⟩:=h
    obtain ⟨U,h1,h2⟩:=sound_p2u (P:=P) hi hs hd hti hz (aval_ok ht hp) hu
    exact Comes1.still hi h1 h2
   ·cases hr
  ·rename_i t hs hd
   simp only [Option.bind_eq_some_iff] at hr
   obtain ⟨n,hn,hr⟩:=hr
   obtain ⟨i,hti,rfl⟩:=sizeT_some hn
   split at hr
   ·rename_i hz
    cases hr
    simp only [AOp.run,R1.run,Option.bind_eq_some_iff,Option.map_eq_some_iff,Prod.mk.injEq] at h
    obtain ⟨p,hp,u,hu,rfl,rfl⟩:=h
    obtain ⟨U,h1,h2⟩:=sound_u2p (P:=P) hi hs hd hti (fun k hk=>liesAt_self (by rw [hz.2]; exact hz.1) k hk) hz.2 hz.1 (aval_ok ht hp) hu
    exact Comes1.still hi h1 h2
   ·cases hr
  ·rename_i hs hd
   split at hr
   ·rename_i he
    cases hr
    simp only [AOp.run,Option.bind_eq_some_iff,Option.map_eq_some_iff,Prod.mk.injEq] at h
    obtain ⟨p,hp,u,hu,rfl,rfl⟩:=h
    obtain ⟨h1,h2⟩:=sound_b2s (P:=P) hi hs hd he (aval_ok ht hp) hu
    exact Comes1.still hi h1 h2
   ·cases hr
  ·cases hr
 case makeFunc fn first captured =>
  cases fn<;>simp only [resO] at hr<;>try (cases hr; done)
  cases hr
  simp only [AOp.run,Option.bind_eq_some_iff,Option.map_eq_some_iff,Prod.mk.injEq] at h
  obtain ⟨l0,hl0,l,hl,rfl,rfl⟩:=h
  have h0:=avals_ok ht hl0
  have h1:=avals_ok ht hl
  refine Comes1.quiet hi (.func _ l0.toArray (first.map a.eval) l.toArray (captured.map a.eval) ?_ ?_ ?_ ?_) (by simp [execOp,Instr.makeFunc])
  ·have:=h0.1; simpa using this
  ·intro i x y hx hy
   exact h0.2 i x y (by simpa using hx) (by simpa using hy)
  ·have:=h1.1; simpa using this
  ·intro i x y hx hy
   exact h1.2 i x y (by simpa using hx) (by simpa using hy)
 case lookup t x y ok =>
  simp only [Option.bind_eq_some_iff,Option.map_eq_some_iff] at hr
  obtain ⟨q,hq,kk,hkk,z,hz,rfl⟩:=hr
  obtain ⟨i,hti,hzi,hzp⟩:=zeroT_some hz
  simp only [AOp.run,R2.run,Option.bind_eq_some_iff,Option.map_eq_some_iff,Prod.mk.injEq] at h
  obtain ⟨p,hp,k,hk,u,hu,rfl,rfl⟩:=h
  obtain ⟨U,h1,h2⟩:=sound_lookup (P:=P) hi (mapT_some hq) hkk hti hzi (VR.of_cells hzp) (aval_ok ht hp) (aval_ok ht hk) hu
  exact Comes1.still hi h1 h2
 case mapUpdate t x k y =>
  simp only [Option.bind_eq_some_iff,Option.map_eq_some_iff] at hr
  obtain ⟨q,hq,kk,hkk,rfl⟩:=hr
  simp only [AOp.run,Option.bind_eq_some_iff,Option.map_eq_some_iff,Prod.mk.injEq] at h
  obtain ⟨p,hp,k,hk,u,hu,v',hv,rfl,rfl⟩:=h
  obtain ⟨w',h1,h2,h3⟩:=sound_mapUpd (P:=P) hi (mapT_some hq) hkk (aval_ok ht hp) (aval_ok ht hk) (aval_ok ht hu) hv
  exact ⟨undef,w',φ,.inr ⟨by simp [execOp,h1],rfl⟩,VR.undef φ,h2,h3⟩
 case insert t x k y =>
  simp only [Option.bind_eq_some_iff,Option.map_eq_some_iff] at hr
  obtain ⟨q,hq,kk,hkk,rfl⟩:=hr
  simp only [AOp.run,Option.bind_eq_some_iff,Option.map_eq_some_iff,Prod.mk.injEq] at h
  obtain ⟨p,hp,k,hk,u,hu,v',hv,rfl,rfl⟩:=h
  obtain ⟨w',h1,h2,h3⟩:=sound_mapUpd (P:=P) hi (mapT_some hq) hkk (aval_ok ht hp) (aval_ok ht hk) (aval_ok ht hu) hv
  exact ⟨undef,w',φ,.inr ⟨by simp [execOp,h1],rfl⟩,VR.undef φ,h2,h3⟩
 case makeMap t x =>
  simp only [Option.map_eq_some_iff] at hr
  obtain ⟨q,hq,rfl⟩:=hr
  simp only [AOp.run,Option.bind_eq_some_iff] at h
  obtain ⟨p,hp,h⟩:=h
  split at h
  ·rename_i hh
   obtain ⟨V,w',φ',h1,h2,h3,h4⟩:=sound_makeM (P:=P) hi t
   have e1:(runMakeM m).1=v:=by rw [Option.some.inj h]
   have e2:(runMakeM m).2=m':=by rw [Option.some.inj h]
   subst e1; subst e2
   refine Comes1.val (s:=Instr.makeMap t (x.map a.eval)) (V:=V) ?_ h2 h3 h4
   have hx:=avalO_ok ht hp
   generalize x.map a.eval=X at hx
   unfold hintOk at hh
   split at hh
   ·cases X with
    | none=>exact h1
    | some _=>exact hx.elim
   ·cases X with
    | none=>exact hx.elim
    | some X =>
     simp only [ORel] at hx
     cases hx
     rw [← h1]
     simp [Instr.makeMap,run_und (mapT_some hq),asInt,asIntOf]
   ·cases hh
  ·cases h
 case range t x =>
  split at hr
  ·rename_i hd
   cases hr
   simp only [AOp.run,E1.run,Option.bind_eq_some_iff] at h
   obtain ⟨p,hp,hu⟩:=h
   obtain ⟨U,w',φ',h1,h2,h3,h4⟩:=sound_rangeS (P:=P) hi hd (aval_ok ht hp) hu
   exact Comes1.val h1 h2 h3 h4
  ·cases hr
 case next x str =>
  cases str
  ·simp only [resO] at hr; cases hr
  ·simp only [resO] at hr
   cases hr
   simp only [AOp.run,E1.run,Option.bind_eq_some_iff] at h
   obtain ⟨p,hp,hu⟩:=h
   obtain ⟨w',h1,h2,h3,h4⟩:=sound_nextS (P:=P) (ty:=ty) hi (aval_ok ht hp) hu
   exact Comes1.val h1 h2 h3 h4
 case typeAssert x xt t ok =>
  split at hr
  ·cases hr
  ·rename_i d hd hni
   simp only [Option.map_eq_some_iff] at hr
   obtain ⟨z,hz,rfl⟩:=hr
   obtain ⟨i,hti,hzi,hzp⟩:=zeroT_some hz
   simp only [AOp.run,P1.run,Option.bind_eq_some_iff,Option.map_eq_some_iff,Prod.mk.injEq] at h
   obtain ⟨p,hp,u,hu,rfl,rfl⟩:=h
   obtain ⟨U,h1,h2⟩:=sound_assert (P:=P) (w:=w) (xt:=xt) hni (fun ms e=>hd ms e) hti hzi (VR.of_cells hzp) (aval_ok ht hp) hu
   exact Comes1.still hi h1 h2
  ·cases hr
 case fieldAddr t x k =>
  simp only [Option.bind_eq_some_iff] at hr
  obtain ⟨fs,hfs,f,hf,s,hs,hr⟩:=hr
  obtain ⟨i,hti,rfl⟩:=sizeT_some hs
  split at hr
  ·rename_i hz
   cases hr
   simp only [AOp.run,Option.bind_eq_some_iff,Option.map_eq_some_iff,Prod.mk.injEq] at h
   obtain ⟨p,hp,u,hu,rfl,rfl⟩:=h
   obtain ⟨U,h1,h2⟩:=sound_fieldAddr (P:=P) (w:=w) (fieldsT_some hfs) hf hti hz (aval_ok ht hp) hu
   exact Comes1.still hi h1 h2
  ·cases hr
 case field t x k =>
  simp only [Option.bind_eq_some_iff,Option.map_eq_some_iff] at hr
  obtain ⟨fs,hfs,f,hf,s,hs,ag,hag,rfl⟩:=hr
  simp only [AOp.run,Option.bind_eq_some_iff,Option.map_eq_some_iff,Prod.mk.injEq] at h
  obtain ⟨p,hp,u,hu,rfl,rfl⟩:=h
  obtain ⟨U,h1,h2⟩:=sound_field (P:=P) (w:=w) (fieldsT_some hfs) hf hs hag (aval_ok ht hp) hu
  exact Comes1.still hi h1 h2
 case indexAddr t x i =>
  split at hr
  ·rename_i e he
   simp only [Option.map_eq_some_iff] at hr
   obtain ⟨s,hs,rfl⟩:=hr
   obtain ⟨i',hti,rfl⟩:=sizeT_some hs
   simp only [AOp.run,Option.bind_eq_some_iff,Option.map_eq_some_iff,Prod.mk.injEq] at h
   obtain ⟨p,hp,q,hq,u,hu,rfl,rfl⟩:=h
   obtain ⟨U,h1,h2⟩:=sound_indexS (P:=P) (w:=w) (elemT_some he) hti (aval_ok ht hp) (aval_ok ht hq) hu
   exact Comes1.still hi h1 h2
  ·simp only [Option.bind_eq_some_iff,Option.map_eq_some_iff] at hr
   obtain ⟨⟨n,e⟩,he,s,hs,rfl⟩:=hr
   obtain ⟨i',hti,rfl⟩:=sizeT_some hs
   simp only [AOp.run,Option.bind_eq_some_iff,Option.map_eq_some_iff,Prod.mk.injEq] at h
   obtain ⟨p,hp,q,hq,u,hu,rfl,rfl⟩:=h
   obtain ⟨U,h1,h2⟩:=sound_indexA (P:=P) (w:=w) (arrT_some he) hti (aval_ok ht hp) (aval_ok ht hq) hu
   exact Comes1.still hi h1 h2
 case index t x i =>
  split at hr
  ·rename_i hd
   cases hr
   simp only [AOp.run,Option.bind_eq_some_iff,Option.map_eq_some_iff,Prod.mk.injEq] at h
   obtain ⟨p,hp,q,hq,u,hu,rfl,rfl⟩:=h
   obtain ⟨h1,h2⟩:=sound_indexStr (P:=P) (w:=w) hd (aval_ok ht hp) (aval_ok ht hq) hu
   exact Comes1.still hi h1 h2
  ·rename_i n e hd
   simp only [Option.bind_eq_some_iff,Option.map_eq_some_iff] at hr
   obtain ⟨s,hs,ag,hag,rfl⟩:=hr
   obtain ⟨i',hti,rfl⟩:=sizeT_some hs
   simp only [AOp.run,Option.bind_eq_some_iff,Option.map_eq_some_iff,Prod.mk.injEq] at h
   obtain ⟨p,hp,q,hq,u,hu,rfl,rfl⟩:=h
   obtain ⟨U,h1,h2⟩:=sound_indexArr (P:=P) (w:=w) hd hti hag (aval_ok ht hp) (aval_ok ht hq) hu
   exact Comes1.still hi h1 h2
  ·cases hr
 case slice t x lo hi' mx =>
  cases mx with
  | some mx =>
   simp only [resO,Option.bind_eq_some_iff,Option.map_eq_some_iff] at hr
   obtain ⟨e,he,s,hs,rfl⟩:=hr
   obtain ⟨i,hti,rfl⟩:=sizeT_some hs
   simp only [AOp.run,Option.bind_eq_some_iff,Option.map_eq_some_iff,Prod.mk.injEq] at h
   obtain ⟨p,hp,l,hl,q,hq,k,hk,u,hu,rfl,rfl⟩:=h
   obtain ⟨U,h1,h2⟩:=sound_slice3 (P:=P) hi (elemT_some he) hti (aval_ok ht hp) (avalO_ok ht hl) (avalO_ok ht hq) (aval_ok ht hk) hu
   exact Comes1.still hi h1 h2
  | none =>
   simp only [resO] at hr
   split at hr
   ·rename_i hd
    cases hr
    simp only [AOp.run,Option.bind_eq_some_iff,Option.map_eq_some_iff,Prod.mk.injEq] at h
    obtain ⟨p,hp,l,hl,q,hq,u,hu,rfl,rfl⟩:=h
    obtain ⟨h1,h2⟩:=sound_sliceStr (P:=P) (w:=w) hd (aval_ok ht hp) (avalO_ok ht hl) (avalO_ok ht hq) hu
    exact Comes1.still hi h1 h2
   ·rename_i e hd
    simp only [Option.map_eq_some_iff] at hr
    obtain ⟨s,hs,rfl⟩:=hr
    obtain ⟨i',hti,rfl⟩:=sizeT_some hs
    simp only [AOp.run,Option.bind_eq_some_iff,Option.map_eq_some_iff,Prod.mk.injEq] at h
    obtain ⟨p,hp,l,hl,q,hq,u,hu,rfl,rfl⟩:=h
    obtain ⟨U,h1,h2⟩:=sound_sliceS (P:=P) hi hd hti (aval_ok ht hp) (avalO_ok ht hl) (avalO_ok ht hq) hu
    exact Comes1.still hi h1 h2
   ·rename_i n e hd
    simp only [Option.map_eq_some_iff] at hr
    obtain ⟨s,hs,rfl⟩:=hr
    obtain ⟨i',hti,rfl⟩:=sizeT_some hs
    simp only [AOp.run,Option.bind_eq_some_iff,Option.map_eq_some_iff,Prod.mk.injEq] at h
    obtain ⟨p,hp,l,hl,q,hq,u,hu,rfl,rfl⟩:=h
    obtain ⟨U,h1,h2⟩:=sound_sliceA (P:=P) hi hd hti (aval_ok ht hp) (avalO_ok ht hl) (avalO_ok ht hq) hu
    exact Comes1.still hi h1 h2
   ·cases hr
 case makeSlice t n c =>
  simp only [Option.bind_eq_some_iff] at hr
  obtain ⟨e,he,i,hti,z,hz,hr⟩:=hr
  obtain ⟨i',hti',hzi,hp⟩:=zeroT_some hz
  rw [hti] at hti'; cases hti'
  split at hr
  ·rename_i hs
   cases hr
   simp only [AOp.run,Option.bind_eq_some_iff] at h
   obtain ⟨p,hp',q,hq,h⟩:=h
   obtain ⟨V,w',φ',h1,h2,h3,h4⟩:=sound_makeS (P:=P) hi (elemT_some he) hti hzi hp hs (aval_ok ht hp') (aval_ok ht hq) h
   exact Comes1.val h1 h2 h3 h4
  ·cases hr
 case makeInterface t x =>
  simp only [Option.bind_eq_some_iff] at hr
  obtain ⟨d,hd,hr⟩:=hr
  split at hr
  ·cases hr
  ·rename_i hnot
   cases hr
   simp only [AOp.run,Option.map_eq_some_iff,Prod.mk.injEq] at h
   obtain ⟨p,hp,rfl,rfl⟩:=h
   refine Comes1.still (V:=.iface t (a.eval x)) hi ?_ (.iface t _ _ (aval_ok ht hp))
   simp only [Instr.makeInterface,Sem.run_bind,run_und hd,Result.andThen_ok]
   cases d<;>first|rfl|exact (hnot _ rfl).elim
 case extract x i =>
  cases hr
  simp only [AOp.run,Option.bind_eq_some_iff,Option.map_eq_some_iff,Prod.mk.injEq] at h
  obtain ⟨p,hp,u,hu,rfl,rfl⟩:=h
  have hv:=aval_ok ht hp
  generalize hx:a.eval x=X at hv
  unfold runExtract at hu
  split at hu
  ·cases hv with
   | tuple xs ys h1 h2 =>
   obtain ⟨U,hU,r⟩:=(VRs.of_array h1 h2).get (i:=i) (x:=u) (by simpa using hu)
   refine Comes1.quiet hi r ?_
   have hU':ys[i]? = some U:=by simpa using hU
   simp [execOp,hx,Instr.extract,hU']
  ·cases hu
 all_goals (first|cases hr|(simp only [resO] at hr; cases hr))
theorem run_ext {P:Program} {w:World} {a:Act} {f:FuncId} {fn:Func} {e:Array Value→Sem Value} {xs:Array Operand} {tys:Array TypeId} {ty:TypeId} {d:Option Tmp} {pos:String} {af:Array Edge} {g:Option (Nat × Bool)} {V:Value} {w':World}
  (hf : P.funcs[f]? = some fn) (hn : ¬ fn.name = "runtime.NumGoroutine") (hb : fn.body.isNone = true) (h1 : Extern.findNext fn = none) (h2 : Extern.find fn = some e) (hev : (e (xs.map a.eval)).run P w = .ok V w') :
  (execOp a.eval ⟨d,.call { callee:=.value (.func f),args:=xs,argTypes:=tys },ty,pos,af,g⟩).run P w=.ok (.value V) w':=by
 have hx:a.eval (.func f)=.func (.func f) #[] #[]:=rfl
 have hb':fn.body=none:=by simpa using hb
 simp [execOp,resolve,Deferred.ofValue,hx,invoke,callFunc,hf,hn,hb',h1,h2,hev]
theorem find_noEscape {fn : Func} (h : fn.name = "internal/abi.NoEscape") (ho : fn.origin = "") : Extern.findNext fn = none ∧ Extern.find fn = some Extern.AbiNoEscape.same := by
 refine ⟨?_,?_⟩
 ·unfold Extern.findNext; simp only [h,ho]; kernel_rfl
 ·unfold Extern.find; simp only [h,ho]; kernel_rfl
theorem find_noZero {fn : Func} (h : fn.name = "internal/bytealg.MakeNoZero") (ho : fn.origin = "") : Extern.findNext fn = none ∧ Extern.find fn = some (Extern.BytealgMakeNoZero.makeNoZero fn.params fn.resultTypes) := by
 refine ⟨?_,?_⟩
 ·unfold Extern.findNext; simp only [h,ho]; kernel_rfl
 ·unfold Extern.find; simp only [h,ho]; kernel_rfl
theorem find_idxByte {fn : Func} (h : fn.name = "internal/bytealg.IndexByteString") (ho : fn.origin = "") : Extern.findNext fn = none ∧ Extern.find fn = some Extern.BytealgIndexByte.indexByte := by
 refine ⟨?_,?_⟩
 ·unfold Extern.findNext; simp only [h,ho]; kernel_rfl
 ·unfold Extern.find; simp only [h,ho]; kernel_rfl
theorem find_cloneM {fn : Func} (h : fn.name = "maps.clone") (ho : fn.origin = "") : Extern.findNext fn = none ∧ Extern.find fn = some Extern.MapsClone.clone := by
 refine ⟨?_,?_⟩
 ·unfold Extern.findNext; simp only [h,ho]; kernel_rfl
 ·unfold Extern.find; simp only [h,ho]; kernel_rfl
theorem extOf_some {P : Program} {f : FuncId} {p : ExtK × Func} (h : extOf P f = some p) : P.funcs[f]? = some p.2 ∧ p.2.body.isNone = true ∧ p.2.origin = "" ∧ extK p.2.name = some p.1 := by
 unfold extOf at h
 split at h
 ·rename_i fn hfn
  split at h
  ·rename_i hb
   simp only [Option.map_eq_some_iff] at h
   obtain ⟨k,hk,rfl⟩:=h
   exact ⟨hfn,hb.1,hb.2,hk⟩
  ·cases h
 ·cases h
theorem extK_name {n : String} {k : ExtK} (h : extK n = some k) : n = (match k with | .noEscape => "internal/abi.NoEscape" | .noZero => "internal/bytealg.MakeNoZero" | .idxByte => "internal/bytealg.IndexByteString" | .cloneM => "maps.clone") := by
 unfold extK at h
 split at h
 ·cases h; assumption
 ·split at h
  ·cases h; assumption
  ·split at h
   ·cases h; assumption
   ·split at h
    ·cases h; assumption
    ·cases h
theorem resExt_sound {P:Program} {f:FuncId} {xs:Array Operand} {tys:Array TypeId} {ao:AOp} (hr:resExt P f xs.toList=some ao) {φ:Ren} {m m':Mem} {w:World} (hi:Inv φ m w) {ts:List Value} {a:Act} (ht:VRs φ ts a.tmps.toList) {v:Value} (h:ao.run ts m=some (v,m'))
  {ty:TypeId} {d:Option Tmp} {pos:String} {af:Array Edge} {g:Option (Nat × Bool)} :
  Comes1 φ m w ((execOp a.eval ⟨d,.call { callee:=.value (.func f),args:=xs,argTypes:=tys },ty,pos,af,g⟩).run P w) v m':=by
 simp only [resExt,Option.bind_eq_some_iff] at hr
 obtain ⟨⟨k,fn⟩,hp,hr⟩:=hr
 obtain ⟨hf,hb,ho,hk⟩:=extOf_some hp
 have hn:=extK_name hk
 simp only at hf hb ho hn
 have hne : ¬ fn.name = "runtime.NumGoroutine" := by
  intro e
  simp only [e] at hk
  have : extK "runtime.NumGoroutine" = none := by decide
  rw [this] at hk; cases hk
 split at hr
 ·rename_i _ _ x hk' hx
  obtain rfl:=hk'
  have e2:xs=#[x]:=by apply Array.toList_inj.1; simpa using hx
  subst e2
  cases hr
  simp only [AOp.run,Option.map_eq_some_iff,Prod.mk.injEq] at h
  obtain ⟨p,hp,rfl,rfl⟩:=h
  obtain ⟨h1,h2⟩:=find_noEscape hn ho
  exact ⟨a.eval x,w,φ,.inl (run_ext hf hne hb h1 h2 (by simpa using Lib.run_noEscape w (a.eval x))),aval_ok ht hp,hi,Frm.refl φ m w⟩
 ·rename_i _ _ x hk' hx
  obtain rfl:=hk'
  have e2:xs=#[x]:=by apply Array.toList_inj.1; simpa using hx
  subst e2
  split at hr
  ·rename_i t hrt
   have e3:fn.resultTypes=#[t]:=by apply Array.toList_inj.1; simpa using hrt
   simp only [Option.map_eq_some_iff] at hr
   obtain ⟨e,he,rfl⟩:=hr
   simp only [AOp.run,E1.run,Option.bind_eq_some_iff] at h
   obtain ⟨p,hp,h⟩:=h
   obtain ⟨h1,h2⟩:=find_noZero hn ho
   rw [e3] at h2
   obtain ⟨U,w',φ',h3,h4,h5,h6⟩:=sound_noZero (P:=P) (ps:=fn.params) hi (elemT_some he) (aval_ok ht hp) h
   exact ⟨U,w',φ',.inl (run_ext hf hne hb h1 h2 (by simpa using h3)),h4,h5,h6⟩
  ·cases hr
 ·rename_i _ _ x y hk' hx
  obtain rfl:=hk'
  have e2:xs=#[x,y]:=by apply Array.toList_inj.1; simpa using hx
  subst e2
  cases hr
  simp only [AOp.run,P2.run,Option.bind_eq_some_iff,Option.map_eq_some_iff,Prod.mk.injEq] at h
  obtain ⟨p,hp,q,hq,u,hu,rfl,rfl⟩:=h
  obtain ⟨h1,h2⟩:=find_idxByte hn ho
  have hx:=aval_ok ht hp
  have hy:=aval_ok ht hq
  unfold runIdxByte at hu
  split at hu
  ·cases hu
   generalize hA:a.eval x=A at hx
   generalize hB:a.eval y=B at hy
   cases hx; cases hy
   rename_i s c
   refine ⟨_,w,φ,.inl (run_ext hf hne hb h1 h2 (?_:_=Result.ok _ _)),.int ..,hi,Frm.refl φ m w⟩
   simp only [List.map_toArray,List.map_cons,List.map_nil,hA,hB]
   exact Lib.run_indexByteString s c w
  ·cases hu
 ·rename_i _ _ x hk' hx
  obtain rfl:=hk'
  have e2:xs=#[x]:=by apply Array.toList_inj.1; simpa using hx
  subst e2
  cases hr
  simp only [AOp.run,E1.run,Option.bind_eq_some_iff] at h
  obtain ⟨p,hp,h⟩:=h
  obtain ⟨h1,h2⟩:=find_cloneM hn ho
  obtain ⟨U,w',φ',h3,h4,h5,h6⟩:=sound_cloneM (P:=P) hi (aval_ok ht hp) h
  exact ⟨U,w',φ',.inl (run_ext hf hne hb h1 h2 (by simpa using h3)),h4,h5,h6⟩
 ·cases hr
theorem notCall_some {a:Option AOp} {o:AOp} (h:notCall a=some o):a=some o∧o.isCall=false:=by
 simp only [notCall,Option.bind_eq_some_iff] at h
 obtain ⟨b,hb,h⟩:=h
 split at h
 ·cases h
 ·rename_i hc; cases h; exact ⟨hb,by simpa using hc⟩
theorem res_isCall {P:Program} {o:Oper} {ao:AOp} (hr:res P o=some ao):ao.isCall=false ∨
  (∃ (x:Operand) (args:Array Operand) (tys:Array TypeId),o.op=.call { callee:=.value x,args,argTypes:=tys }∧((∃ f,x=.func f∧ao=.call f args.toList∧goodFn P f=true)∨ao=.callv x args.toList)):=by
 unfold res at hr
 split at hr
 ·rename_i c hc
  obtain ⟨callee,xs,tys⟩:=c
  unfold resCall at hr
  split at hr
  ·exact .inl (notCall_some hr).2
  ·rename_i f he
   simp only at he; subst he
   split at hr
   ·rename_i hg; cases hr; exact .inr ⟨_,xs,tys,hc,.inl ⟨f,rfl,rfl,hg⟩⟩
   ·exact .inl (notCall_some hr).2
  ·rename_i x hx he
   simp only at he; subst he
   cases hr; exact .inr ⟨x,xs,tys,hc,.inr rfl⟩
  ·cases hr
 ·exact .inl (notCall_some hr).2
theorem res_sound {P:Program} {o:Oper} {ao:AOp} (hr:res P o=some ao) {φ:Ren} {m m':Mem} {w:World} (hi:Inv φ m w) {ts:List Value} {a:Act} (ht:VRs φ ts a.tmps.toList) {v:Value} (h:ao.run ts m=some (v,m')) :
  Comes1 φ m w ((execOp a.eval o).run P w) v m':=by
 unfold res at hr
 split at hr
 ·rename_i c hc
  obtain ⟨dst,op,ty,pos,af,g⟩:=o
  simp only at hc; subst hc
  obtain ⟨callee,xs,tys⟩:=c
  unfold resCall at hr
  split at hr
  ·rename_i b he
   simp only at he; subst he
   exact res_builtin (notCall_some hr).1 hi ht h
  ·rename_i f he
   simp only at he; subst he
   split at hr
   ·cases hr; simp [AOp.run] at h
   ·exact resExt_sound (notCall_some hr).1 hi ht h
  ·cases hr; simp [AOp.run] at h
  ·cases hr
 ·exact resO_sound (notCall_some hr).1 hi ht h
end Go.Fx
namespace Go.Fx
open Go
set_option linter.unusedSimpArgs false
set_option linter.unusedVariables false
structure AOper where
 dst:Option Nat
 op:AOp
 guard:Option (Nat × Bool)
abbrev CallF:=FuncId→List Value→Mem→Option (Value × Mem)
def capsOf:Value→Option (FuncId × List Value × List Value)
 | .func (.func f) first cap=>bif Nat.blt f yBase then some (f,first.toList,cap.toList) else none
 | .func (.yield N) _ _=>some (yBase+N,[],[])
 | _=>none
def stepOp (call:CallF) (ts:List Value) (m:Mem):AOp→Option (Value × Mem)
 | .call f xs=>(avals ts xs).bind fun l=>call f l m
 | .callv x xs=>(aval ts x).bind fun v=>(capsOf v).bind fun p=>(avals ts xs).bind fun l=>call p.1 (p.2.1++(l++p.2.2)) m
 | o=>o.run ts m
def putT (ts:List Value) (dst:Option Nat) (v:Value):List Value :=
 match dst with
 | some d=>ts.set d v
 | none=>ts
def wantedA (ts:List Value) (g:Option (Nat × Bool)):Bool :=
 match g with
 | none=>true
 | some (t,want)=>match ts[t]? with
  | some (.bool b)=>b == want
  | _=>false
def runOps (call:CallF):List AOper→List Value→Mem→Option (List Value × Mem)
 | [],ts,m=>some (ts,m)
 | o::r,ts,m =>
  if wantedA ts o.guard then (stepOp call ts m o.op).bind fun p=>runOps call r (putT ts o.dst p.1) p.2
  else runOps call r (putT ts o.dst undef) m
def resT (P:Program) (o:Oper):AOp:=(res P o).getD .stop
def compOps (P:Program) (ops:Array Oper):List Oper→Option (List AOper)
 | []=>some []
 | o::r=>(compOps P ops r).bind fun l =>
  match o.guard with
  | none=>some (⟨o.dst,resT P o,none⟩::l)
  | some (j,want)=>((ops[j]?).bind (·.dst)).map fun t=>⟨o.dst,resT P o,some (t,want)⟩::l
def rf (ro:Option Nat):Fence:={ Fence.wide with round:=ro }
theorem rf_depth (ro:Option Nat) (k:Nat):(rf ro).depth.isSome=true→1≤k:=fun h=>(by cases h)
theorem rf_calls {ro:Option Nat} {n:Nat} {P:Program} {f:FuncId} {args:Array Value} {w:World} {R:Ending→World→Prop}:CallsIn (rf ro) n P f args w R↔Calls P f args w R :=
 Iff.trans (show CallsIn (rf ro) n P f args w R↔CallsIn Fence.wide n P f args w R from Iff.rfl) callsIn_wide
def Calls1 (P:Program) (φ:Ren) (m:Mem) (w:World) (f:FuncId) (args:Array Value) (v:Value) (m':Mem):Prop :=
 Calls P f args w fun e w'=>∃ V φ',e=.returned V∧VR φ' v V∧Inv φ' m' w'∧Frm φ m w φ' m' w'
def Yield1 (P:Program) (φ:Ren) (m:Mem) (w:World) (N:Nat) (args:Array Value) (v:Value) (m':Mem):Prop :=
 ∃ l b,φ N=some l∧v=.bool b∧YieldAt (rf none) 0 P l.blk args w fun e w'=>e=.returned (.bool b)∧∃ φ',Inv φ' m' w'∧Frm φ m w φ' m' w'
structure CallOk (P:Program) (call:CallF):Prop where
 fn:∀ f args m v m',f<yBase→call f args m=some (v,m')→∀ φ w (ARGS:Array Value),Inv φ m w→VRs φ args ARGS.toList→Calls1 P φ m w f ARGS v m'
 yl:∀ N args m v m',call (yBase+N) args m=some (v,m')→∀ φ w (ARGS:Array Value),Inv φ m w→VRs φ args ARGS.toList→Yield1 P φ m w N ARGS v m'
theorem run_call {P:Program} {w:World} {ρ:Operand→Value} {x:Operand} {f:FuncId} {fst cap:Array Value} {xs:Array Operand} {tys:Array TypeId} {ty:TypeId} {d:Option Tmp} {pos:String} {af:Array Edge} {g:Option (Nat × Bool)}
  (hx:ρ x=.func (.func f) fst cap) (hf:goodFn P f=true) :
  (execOp ρ ⟨d,.call { callee:=.value x,args:=xs,argTypes:=tys },ty,pos,af,g⟩).run P w=.ok (.enter f (fst++xs.map ρ++cap)) w:=by
 unfold goodFn at hf
 split at hf
 ·rename_i fn hfn
  simp only [Bool.and_eq_true,bne_iff_ne,ne_eq] at hf
  obtain ⟨c,hb⟩:=Option.isSome_iff_exists.1 hf.2
  simp [execOp,resolve,Deferred.ofValue,hx,invoke,callFunc,hfn,hf.1.2,hb]
 ·cases hf
theorem goodFn_lt {P:Program} {f:FuncId} (h:goodFn P f=true):f<yBase:=by
 unfold goodFn at h
 split at h
 ·simp only [Bool.and_eq_true] at h
  simpa using h.1.1
 ·cases h
theorem run_yieldcall {P:Program} {w w':World} {ρ:Operand→Value} {x:Operand} {N:Nat} {xs:Array Operand} {tys:Array TypeId} {ty:TypeId} {d:Option Tmp} {pos:String} {af:Array Edge} {g:Option (Nat × Bool)} {r:Next}
  (hx:ρ x=.func (.yield N) #[] #[]) (hy:(Instr.yield N (xs.map ρ)).run P w=.ok r w') :
  (execOp ρ ⟨d,.call { callee:=.value x,args:=xs,argTypes:=tys },ty,pos,af,g⟩).run P w=.ok r w':=by
 simp [execOp,resolve,Deferred.ofValue,hx,invoke,hy]
theorem upon_of_comes {ro:Option Nat} {P:Program} {o:Oper} (hnd:∀ c,o.op≠.defer c) {φ:Ren} {m m':Mem} {w:World} {a:Act} {v:Value} {next:Act→World→Prop} {Q:Exit→Act→World→Prop} (h:Comes1 φ m w ((execOp a.eval o).run P w) v m')
  (hn:∀ V w' φ',VR φ' v V→Inv φ' m' w'→Frm φ m w φ' m' w'→next (a.put o.dst V) w'):o.wpIn (rf ro) 0 P a w next Q:=by
 obtain ⟨V,w',φ',hr,hv,hi,hf⟩:=h
 refine ⟨fun _ _=>trivial,?_⟩
 rw [Oper.semAt_eq _ _ _ hnd]
 rcases hr with hr|⟨hr,rfl⟩
 ·rw [hr]; exact hn V w' φ' hv hi hf
 ·rw [hr]; exact hn undef w' φ' hv hi hf
theorem stepOp_other (call:CallF) (ts:List Value) (m:Mem) {ao:AOp} (h:ao.isCall=false):stepOp call ts m ao=ao.run ts m:=by
 cases ao<;>first|rfl|simp [AOp.isCall] at h
theorem res_defer {P:Program} {o:Oper} {ao:AOp} (h:res P o=some ao):∀ c,o.op≠.defer c:=by
 intro c hc
 unfold res at h
 rw [hc] at h
 simp only [notCall,resO,hc,Option.bind_none] at h
 cases h
theorem sound_step {ro:Option Nat} {P:Program} {call:CallF} (hc:CallOk P call) (hg:∀ f args m r,f<yBase→call f args m=some r→goodFn P f=true) {o:Oper} {ao:AOp} (hr0:resT P o=ao) {φ:Ren} {m m':Mem} {w:World} (hi:Inv φ m w) {ts:List Value} {a:Act}
  (ht:VRs φ ts a.tmps.toList) {v:Value} (h:stepOp call ts m ao=some (v,m')) {next:Act→World→Prop} {Q:Exit→Act→World→Prop}
  (hn:∀ V w' φ',VR φ' v V→Inv φ' m' w'→Frm φ m w φ' m' w'→next (a.put o.dst V) w'):o.wpIn (rf ro) 0 P a w next Q:=by
 have hr:res P o=some ao:=by
  unfold resT at hr0
  cases hres:res P o with
  | none=>rw [hres] at hr0; simp only [Option.getD_none] at hr0; subst hr0; simp [stepOp,AOp.run] at h
  | some x=>rw [hres] at hr0; simp only [Option.getD_some] at hr0; rw [hr0]
 rcases res_isCall hr with hcl|⟨x,args,tys,ho,hcase⟩
 ·rw [stepOp_other call ts m hcl] at h
  exact upon_of_comes (res_defer hr) (res_sound hr hi ht h) hn
 ·obtain ⟨d,op,ty,pos,af,g⟩:=o
  simp only at ho
  subst ho
  have fin:∀ {f:FuncId} {fst cap:Array Value} {fstA capA:List Value} {l:List Value},a.eval x=.func (.func f) fst cap→VRs φ fstA fst.toList→VRs φ capA cap.toList →
    avals ts args.toList=some l→f<yBase→call f (fstA++(l++capA)) m=some (v,m')→Oper.wpIn (rf ro) 0 P ⟨d,.call { callee:=.value x,args,argTypes:=tys },ty,pos,af,g⟩ a w next Q:=by
   intro f fst cap fstA capA l hx hfst hcap hl hfl hcall
   refine ⟨fun _ _=>trivial,?_⟩
   rw [Oper.semAt_eq _ _ _ (fun c hc=>by cases hc)]
   rw [run_call hx (hg _ _ _ _ hfl hcall)]
   rw [Oper.uponIn_enter]
   refine ⟨rf_depth ro _,rf_calls.2 ?_⟩
   have:=hc.fn f _ m v m' hfl hcall φ w (fst++args.map a.eval++cap) hi (by
    have:=hfst.append ((avals_ok ht hl).append hcap)
    simpa using this)
   refine this.mono ?_
   rintro e w' ⟨V,φ',rfl,hv,hi',hf'⟩
   exact hn V w' φ' hv hi' hf'
  rcases hcase with ⟨f,rfl,rfl,hgf⟩|rfl
  ·simp only [stepOp,Option.bind_eq_some_iff] at h
   obtain ⟨l,hl,h⟩:=h
   exact fin (fst:=#[]) (cap:=#[]) (fstA:=[]) (capA:=[]) rfl (VRs.nil φ) (VRs.nil φ) hl (goodFn_lt hgf) (by simpa using h)
  ·simp only [stepOp,Option.bind_eq_some_iff] at h
   obtain ⟨u,hu,⟨f,fstA,cap⟩,hcap,l,hl,h⟩:=h
   have hv:=aval_ok ht hu
   generalize hx:a.eval x=X at hv
   unfold capsOf at hcap
   split at hcap
   ·rename_i f' us vs
    cases hlt:Nat.blt f' yBase with
    | false=>rw [hlt] at hcap; cases hcap
    | true =>
     rw [hlt] at hcap
     simp only [cond_true,Option.some.injEq,Prod.mk.injEq] at hcap
     obtain ⟨rfl,rfl,rfl⟩:=hcap
     cases hv with
     | func _ _ _ _ _ h1 h2 h3 h4=>exact fin hx (VRs.of_array h1 h2) (VRs.of_array h3 h4) hl (by simpa using hlt) h
   ·rename_i N us vs
    cases hcap
    cases hv with
    | yield _ lo hlo =>
     have hcl:=hc.yl N _ m v m' h φ w (args.map a.eval) hi (by simpa using avals_ok ht hl)
     obtain ⟨lo',b,hlo',rfl,fn,tm,ass,bo,hyr,hround⟩:=hcl
     rw [hlo] at hlo'; cases hlo'
     refine ⟨fun _ _=>trivial,?_⟩
     rw [Oper.semAt_eq _ _ _ (fun c hc=>by cases hc)]
     rw [run_yieldcall hx hyr,Oper.uponIn_round]
     refine ⟨rf_depth ro _,?_⟩
     refine RoundIn.mono (show RoundIn (rf ro) 0 P lo.blk fn tm ass bo w _ from hround) ?_
     rintro e w' ⟨rfl,φ',hi',hf'⟩
     exact hn (.bool b) w' φ' (.bool b) hi' hf'
   ·cases hcap
theorem put_VRs {φ:Ren} {ts:List Value} {a:Act} (ht:VRs φ ts a.tmps.toList) (d:Option Nat) {v V:Value} (hv:VR φ v V):VRs φ (putT ts d v) (a.put d V).tmps.toList:=by
 cases d with
 | none=>exact ht
 | some d=>simpa [putT,Act.put] using ht.set hv d
theorem put_defers (a:Act) (d:Option Nat) (v:Value):(a.put d v).defers=a.defers:=by cases d<;>rfl
theorem wanted_ok {φ:Ren} {ts:List Value} {a:Act} (ht:VRs φ ts a.tmps.toList) {ops:Array Oper} {o:Oper} {g:Option (Nat × Bool)}
  (hg:match o.guard with|none=>g=none|some (j,want)=>∃ t,(ops[j]?).bind (·.dst)=some t∧g=some (t,want)):Region.wanted o (yielded ops a.tmps)=wantedA ts g:=by
 unfold Region.wanted
 split at hg
 ·rename_i h0
  rw [h0]; subst hg; rfl
 ·rename_i j want h0
  obtain ⟨t,h1,rfl⟩:=hg
  rw [h0]
  simp only [yielded,h1,Option.bind_some,wantedA]
  cases e:ts[t]? with
  | none =>
   have:a.tmps[t]? = none:=by
    rw [Array.getElem?_eq_none_iff]
    rw [List.getElem?_eq_none_iff] at e
    have:=ht.1; simp at this; omega
   rw [this]; rfl
  | some u =>
   obtain ⟨V,hV,r⟩:=ht.get e
   have hV':a.tmps[t]? = some V:=by simpa using hV
   rw [hV']
   cases r<;>simp
   all_goals (rename_i b; cases b<;>cases want<;>rfl)
def St (φ:Ren) (m:Mem) (w:World) (a:Act) (ts':List Value) (m':Mem) (a':Act) (w':World):Prop :=
 ∃ φ',VRs φ' ts' a'.tmps.toList∧Inv φ' m' w'∧Frm φ m w φ' m' w'∧a'.defers=a.defers
end Go.Fx
namespace Go.Fx
open Go
set_option linter.unusedSimpArgs false
set_option linter.unusedVariables false
mutual
def veq:Value→Value→Bool
 | .bool a,.bool b=>a == b
 | .int k a,.int l b=>decide (k=l)&&a == b
 | .float k a,.float l b=>decide (k=l)&&a == b
 | .complex k a b,.complex l c d=>decide (k=l)&&a == c&&b == d
 | .string a,.string b=>decide (a.data.toList=b.data.toList)
 | .pointer a,.pointer b=>decide (a=b)
 | .slice a n c,.slice b m d=>decide (a=b)&&n == m&&c == d
 | .map a,.map b=>decide (a=b)
 | .chan a,.chan b=>decide (a=b)
 | .func f ⟨xs⟩ ⟨ys⟩,.func g ⟨us⟩ ⟨vs⟩=>decide (f=g)&&veqs xs us&&veqs ys vs
 | .nilFunc,.nilFunc=>true
 | .iface t v,.iface u w=>t == u&&veq v w
 | .nilIface,.nilIface=>true
 | .agg ⟨xs⟩,.agg ⟨ys⟩=>veqs xs ys
 | .tuple ⟨xs⟩,.tuple ⟨ys⟩=>veqs xs ys
 | _,_=>false
def veqs:List Value→List Value→Bool
 | [],[]=>true
 | x::xs,y::ys=>veq x y&&veqs xs ys
 | _,_=>false
end
mutual
theorem veq_eq:∀ (a b:Value),veq a b=true→a=b
 | .bool a,b,h=>by cases b<;>simp [veq] at h; subst h; rfl
 | .int k a,b,h=>by cases b<;>simp [veq] at h; obtain ⟨rfl,rfl⟩:=h; rfl
 | .float k a,b,h=>by cases b<;>simp [veq] at h; obtain ⟨rfl,rfl⟩:=h; rfl
 | .complex k a c,b,h=>by cases b<;>simp [veq] at h; obtain ⟨⟨rfl,rfl⟩,rfl⟩:=h; rfl
 | .string a,b,h=>by
  cases b<;>simp [veq] at h
  rename_i b
  obtain ⟨a⟩:=a; obtain ⟨b⟩:=b
  simp only at h
  subst h; rfl
 | .pointer a,b,h=>by cases b<;>simp [veq] at h; subst h; rfl
 | .slice a n c,b,h=>by cases b<;>simp [veq] at h; obtain ⟨⟨rfl,rfl⟩,rfl⟩:=h; rfl
 | .map a,b,h=>by cases b<;>simp [veq] at h; subst h; rfl
 | .chan a,b,h=>by cases b<;>simp [veq] at h; subst h; rfl
 | .func f ⟨xs⟩ ⟨ys⟩,b,h=>by
  cases b<;>try (simp [veq] at h; done)
  rename_i g us vs
  obtain ⟨us⟩:=us; obtain ⟨vs⟩:=vs
  simp only [veq,Bool.and_eq_true,decide_eq_true_eq] at h
  obtain ⟨⟨rfl,h1⟩,h2⟩:=h
  rw [veqs_eq _ _ h1,veqs_eq _ _ h2]
 | .nilFunc,b,h=>by cases b<;>simp [veq] at h; rfl
 | .iface t v,b,h=>by
  cases b<;>try (simp [veq] at h; done)
  simp only [veq,Bool.and_eq_true,beq_iff_eq] at h
  obtain ⟨rfl,h1⟩:=h
  rw [veq_eq _ _ h1]
 | .nilIface,b,h=>by cases b<;>simp [veq] at h; rfl
 | .agg ⟨xs⟩,b,h=>by
  cases b<;>try (simp [veq] at h; done)
  rename_i ys
  obtain ⟨ys⟩:=ys
  simp only [veq] at h
  rw [veqs_eq _ _ h]
 | .tuple ⟨xs⟩,b,h=>by
  cases b<;>try (simp [veq] at h; done)
  rename_i ys
  obtain ⟨ys⟩:=ys
  simp only [veq] at h
  rw [veqs_eq _ _ h]
theorem veqs_eq:∀ (a b:List Value),veqs a b=true→a=b
 | [],b,h=>by cases b<;>simp [veqs] at h; rfl
 | x::xs,b,h=>by
  cases b<;>simp [veqs] at h
  rw [veq_eq _ _ h.1,veqs_eq _ _ h.2]
end
mutual
theorem veq_refl:∀ (a:Value),veq a a=true
 | .bool a=>by simp [veq]
 | .int k a=>by simp [veq]
 | .float k a=>by simp [veq]
 | .complex k a c=>by simp [veq]
 | .string a=>by simp [veq]
 | .pointer a=>by simp [veq]
 | .slice a n c=>by simp [veq]
 | .map a=>by simp [veq]
 | .chan a=>by simp [veq]
 | .func f ⟨xs⟩ ⟨ys⟩=>by simp [veq,veqs_refl xs,veqs_refl ys]
 | .nilFunc=>by simp [veq]
 | .iface t v=>by simp [veq,veq_refl v]
 | .nilIface=>by simp [veq]
 | .agg ⟨xs⟩=>by simp [veq,veqs_refl xs]
 | .tuple ⟨xs⟩=>by simp [veq,veqs_refl xs]
theorem veqs_refl:∀ (a:List Value),veqs a a=true
 | []=>by simp [veqs]
 | x::xs=>by simp [veqs,veq_refl x,veqs_refl xs]
end
def opT:Operand→List Nat
 | .tmp t=>[t]
 | _=>[]
def opTO:Option Operand→List Nat
 | some x=>opT x
 | none=>[]
def AOp.slots:AOp→List Nat
 | .mov x|.nilck x|.box _ x|.load1 x|.loadN _ x|.un _ x|.conv _ x|.b2s x|.fieldAddr _ x|.field _ _ _ x|.extract _ x|.lenS x|.lenStr x=>opT x
 | .pick c a b=>opT c++opT a++opT b
 | .alloc _ _|.stop=>[]
 | .flo _ o|.floAt _ o=>o.slots
 | .clearS _ x|.mkiface _ x=>opT x
 | .makeS _ _ _ a x=>opT a++opT x
 | .slice3 _ x lo hi mx=>opT x++opTO lo++opTO hi++opT mx
 | .build _ ps|.buildSlice _ _ _ ps=>ps.flatMap fun p=>opT p.2.2
 | .store _ a x|.arith _ a x|.eqD _ _ a x|.eqBool _ a x|.eqNil _ _ a x|.indexS _ a x|.indexA _ _ a x|.indexStr a x|.indexArr _ _ _ a x|.append _ _ _ a x|.copy _ a x=>opT a++opT x
 | .sliceStr x lo hi|.sliceS _ x lo hi|.sliceA _ _ x lo hi=>opT x++opTO lo++opTO hi
 | .min x xs|.max x xs|.callv x xs=>opT x++xs.flatMap opT
 | .call _ xs=>xs.flatMap opT
 | .mkfunc _ fs xs=>fs.flatMap opT++xs.flatMap opT
 | .p1 _ x|.r1 _ x|.e1 _ x=>opT x
 | .p2 _ x y|.r2 _ x y|.e2 _ x y=>opT x++opT y
 | .mapUpd _ x k y=>opT x++opT k++opT y
 | .makeM x=>opTO x
def Agree (l:List Nat) (ts us:List Value):Prop:=∀ t,t∈l→ts[t]? = us[t]?
theorem Agree.left {l k:List Nat} {ts us:List Value} (h:Agree (l++k) ts us):Agree l ts us:=fun t ht=>h t (List.mem_append_left _ ht)
theorem Agree.right {l k:List Nat} {ts us:List Value} (h:Agree (l++k) ts us):Agree k ts us:=fun t ht=>h t (List.mem_append_right _ ht)
theorem aval_agree {ts us:List Value} {x:Operand} (h:Agree (opT x) ts us):aval ts x=aval us x:=by
 cases x with
 | tmp t=>simp only [aval]; rw [h t (by simp [opT])]
 | _=>rfl
theorem avalO_agree {ts us:List Value} {x:Option Operand} (h:Agree (opTO x) ts us):avalO ts x=avalO us x:=by
 cases x with
 | none=>rfl
 | some x=>simp only [avalO]; rw [aval_agree h]
theorem avals_agree {ts us:List Value}:∀ {xs:List Operand},Agree (xs.flatMap opT) ts us→avals ts xs=avals us xs
 | [],_=>rfl
 | x::xs,h=>by
  rw [List.flatMap_cons] at h
  simp only [avals]; rw [aval_agree h.left,avals_agree h.right]
theorem aparts_agree {ts us:List Value}:∀ {ps:List (Nat × Nat × Operand)},Agree (ps.flatMap fun p=>opT p.2.2) ts us→aparts ts ps=aparts us ps
 | [],_=>rfl
 | (o,s,x)::ps,h=>by
  rw [List.flatMap_cons] at h
  simp only [aparts]; rw [aval_agree h.left,aparts_agree h.right]
theorem newBlk_agree {ts us:List Value} {ao:AOp} (h:Agree ao.slots ts us):newBlk ts ao=newBlk us ao:=by
 cases ao<;>try rfl
 ·simp only [AOp.slots] at h; simp only [newBlk]; rw [aval_agree h]
 ·simp only [AOp.slots] at h; simp only [newBlk]; rw [aparts_agree h]
theorem stepOp_agree (call:CallF) {ts us:List Value} (m:Mem) {ao:AOp} (h:Agree ao.slots ts us):stepOp call ts m ao=stepOp call us m ao:=by
 cases ao<;>simp only [AOp.slots] at h<;>simp only [stepOp,AOp.run]
 all_goals first
  | rw [aval_agree h]
  | rw [aval_agree h.left,aval_agree h.right]
  | rw [aval_agree h.left.left,aval_agree h.left.right,aval_agree h.right]
  | rw [aval_agree h.left.left,avalO_agree h.left.right,avalO_agree h.right]
  | rw [aval_agree h.left.left.left,avalO_agree h.left.left.right,avalO_agree h.left.right,aval_agree h.right]
  | rw [aval_agree h.left,avals_agree h.right]
  | rw [avals_agree h]
  | rw [avals_agree h.left,avals_agree h.right]
  | rw [avalO_agree h]
  | rw [aparts_agree h]
  | rw [newBlk_agree h]
  | rfl
inductive Cls where
 | pure|read|eff
 deriving DecidableEq
def AOp.cls:AOp→Cls
 | .alloc _ _|.box _ _|.buildSlice _ _ _ _|.store _ _ _|.append _ _ _ _ _|.copy _ _ _|.clearS _ _|.makeS _ _ _ _ _|.call _ _|.callv _ _|.flo _ _|.floAt _ _|.e1 _ _|.e2 _ _ _|.mapUpd _ _ _ _|.makeM _=>.eff
 | .load1 _|.loadN _ _|.b2s _|.sliceS _ _ _ _|.sliceA _ _ _ _ _|.slice3 _ _ _ _ _|.r1 _ _|.r2 _ _ _=>.read
 | _=>.pure
inductive Req where
 | load1 (v:Value)
 | loadN (n:Nat) (v:Value)
 | b2s (v:Value)
 | sliceS (size:Nat) (v:Value) (lo hi:Option Value)
 | sliceA (n size:Nat) (v:Value) (lo hi:Option Value)
 | slice3 (size:Nat) (v:Value) (lo hi:Option Value) (mx:Value)
 | r1 (k:R1) (v:Value)
 | r2 (k:R2) (v u:Value)
def Req.run (m:Mem):Req→Option Value
 | .load1 v=>runLoad1 v m
 | .loadN n v=>runLoadN n v m
 | .b2s v=>runB2S v m
 | .sliceS size v lo hi=>runSliceS size v lo hi m
 | .sliceA n size v lo hi=>runSliceA n size v lo hi m
 | .slice3 size v lo hi mx=>runSlice3 size v lo hi mx m
 | .r1 k v=>k.run v m
 | .r2 k v u=>k.run v u m
def AOp.req (ts:List Value):AOp→Option Req
 | .load1 x=>(aval ts x).map .load1
 | .loadN n x=>(aval ts x).map (.loadN n)
 | .b2s x=>(aval ts x).map .b2s
 | .sliceS size x lo hi=>(aval ts x).bind fun v=>(avalO ts lo).bind fun l=>(avalO ts hi).map fun h=>.sliceS size v l h
 | .sliceA n size x lo hi=>(aval ts x).bind fun v=>(avalO ts lo).bind fun l=>(avalO ts hi).map fun h=>.sliceA n size v l h
 | .slice3 size x lo hi mx=>(aval ts x).bind fun v=>(avalO ts lo).bind fun l=>(avalO ts hi).bind fun h=>(aval ts mx).map fun k=>.slice3 size v l h k
 | .r1 k x=>(aval ts x).map (.r1 k)
 | .r2 k x y=>(aval ts x).bind fun v=>(aval ts y).map fun u=>.r2 k v u
 | _=>none
theorem run_of_req {ts:List Value} {ao:AOp} {q:Req} {m:Mem} {v:Value} (hq:ao.req ts=some q) (h:q.run m=some v):ao.run ts m=some (v,m):=by
 cases ao<;>simp only [AOp.req] at hq<;>try (cases hq; done)
 ·simp only [Option.map_eq_some_iff] at hq; obtain ⟨p,hp,rfl⟩:=hq; simp only [Req.run] at h; simp [AOp.run,hp,h]
 ·simp only [Option.map_eq_some_iff] at hq; obtain ⟨p,hp,rfl⟩:=hq; simp only [Req.run] at h; simp [AOp.run,hp,h]
 ·simp only [Option.map_eq_some_iff] at hq; obtain ⟨p,hp,rfl⟩:=hq; simp only [Req.run] at h; simp [AOp.run,hp,h]
 ·simp only [Option.bind_eq_some_iff,Option.map_eq_some_iff] at hq; obtain ⟨p,hp,l,hl,r,hr,rfl⟩:=hq; simp only [Req.run] at h; simp [AOp.run,hp,hl,hr,h]
 ·simp only [Option.bind_eq_some_iff,Option.map_eq_some_iff] at hq; obtain ⟨p,hp,l,hl,r,hr,rfl⟩:=hq; simp only [Req.run] at h; simp [AOp.run,hp,hl,hr,h]
 ·simp only [Option.map_eq_some_iff] at hq; obtain ⟨p,hp,rfl⟩:=hq; simp only [Req.run] at h; simp [AOp.run,hp,h]
 ·simp only [Option.bind_eq_some_iff,Option.map_eq_some_iff] at hq; obtain ⟨p,hp,l,hl,rfl⟩:=hq; simp only [Req.run] at h; simp [AOp.run,hp,hl,h]
 ·simp only [Option.bind_eq_some_iff,Option.map_eq_some_iff] at hq; obtain ⟨p,hp,l,hl,r,hr,k,hk,rfl⟩:=hq; simp only [Req.run] at h; simp [AOp.run,hp,hl,hr,hk,h]
theorem req_isCall {ts:List Value} {ao:AOp} {q:Req} (hq:ao.req ts=some q):ao.isCall=false:=by
 cases ao<;>simp only [AOp.req] at hq<;>first|(cases hq; done)|rfl
theorem req_agree {ts us:List Value} {ao:AOp} (h:Agree ao.slots ts us):ao.req ts=ao.req us:=by
 cases ao<;>simp only [AOp.slots] at h<;>simp only [AOp.req]
 ·rw [aval_agree h]
 ·rw [aval_agree h]
 ·rw [aval_agree h]
 ·rw [aval_agree h.left.left,avalO_agree h.left.right,avalO_agree h.right]
 ·rw [aval_agree h.left.left,avalO_agree h.left.right,avalO_agree h.right]
 ·rw [aval_agree h]
 ·rw [aval_agree h.left,aval_agree h.right]
 ·rw [aval_agree h.left.left.left,avalO_agree h.left.left.right,avalO_agree h.left.right,aval_agree h.right]
theorem run_pure {ts:List Value} {ao:AOp} {m m':Mem} {v:Value} (hc:ao.cls=.pure) (h:ao.run ts m=some (v,m')):m'=m∧∀ M,ao.run ts M=some (v,M):=by
  cases ao<;>simp only [AOp.cls] at hc<;>first
    | (cases hc; done)
    | (simp [AOp.run] at h; done)
    | (simp only [AOp.run,Option.bind_eq_some_iff,Option.map_eq_some_iff,Prod.mk.injEq] at h
       first
         | (obtain ⟨p,hp,rfl,rfl⟩:=h; exact ⟨rfl,fun M=>by simp [AOp.run,hp]⟩)
         | (obtain ⟨p,hp,u,hu,rfl,rfl⟩:=h; exact ⟨rfl,fun M=>by simp [AOp.run,hp,hu]⟩)
         | (obtain ⟨p,hp,q,hq,u,hu,rfl,rfl⟩:=h; exact ⟨rfl,fun M=>by simp [AOp.run,hp,hq,hu]⟩)
         | (obtain ⟨p,hp,q,hq,r,hr,u,hu,rfl,rfl⟩:=h; exact ⟨rfl,fun M=>by simp [AOp.run,hp,hq,hr,hu]⟩))
end Go.Fx
