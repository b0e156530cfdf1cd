/- Parts of a proof: TreeFr, TreeFs, TreeFt. Conditions: none. -/
import Derived.Test.YtnngjdfadfblmaaGreatDoorQt23
set_option linter.unusedSimpArgs false
set_option linter.unusedVariables false
namespace Go.Fx.Tryz
open Go Go.Fx
abbrev z64:List Value:=xZ.flat (qq 64)
theorem qfA:([.int .u8 0,.int .u8 0,.int .u8 0,.int .u8 0,.int .u8 0,.int .u8 0,.int .u8 0,.int .u8 0,.int .u8 0,.int .u8 0,.int .u8 0,.int .u8 0,.int .u8 0,.int .u8 0,.int .u8 0,.int .u8 0,.int .u8 0,.int .u8 0,.int .u8 0,.int .u8 0,.int .u8 0,.int .u8 0,.int .u8 0,.int .u8 0,.int .u8 0,.int .u8 0,.int .u8 0,.int .u8 0,.int .u8 0,.int .u8 0,.int .u8 0,.int .u8 0,.int .u8 0,.int .u8 0,.int .u8 0,.int .u8 0,.int .u8 0,.int .u8 0,.int .u8 0,.int .u8 0,.int .u8 0,.int .u8 0,.int .u8 0,.int .u8 0,.int .u8 0,.int .u8 0,.int .u8 0,.int .u8 0,.int .u8 0,.int .u8 0,.int .u8 0,.int .u8 0,.int .u8 0,.int .u8 0,.int .u8 0,.int .u8 0,.int .u8 0,.int .u8 0,.int .u8 0,.int .u8 0,.int .u8 0,.int .u8 0,.int .u8 0,.int .u8 0]:List Value)=z64:=by kernel_rfl
def Ji:Enc Unit:=⟨64,fun _=>z64,fun _=>by kernel_rfl,fun _=>by kernel_rfl⟩
theorem qbL:Ji.size=64:=rfl
theorem qbM (n:Nat):Ji.flat (List.replicate n ())=(List.replicate n z64).flatten:=by simp [Enc.flat,Ji]
theorem slA {m:Mem} {b n off:Nat} {c:List Value} {e:TypeId} (hk:m.get b=some ⟨.cells c e,false,none⟩):xT n 1 (.pointer (some ⟨b,off,none⟩)) none none m=some (.slice (some ⟨b,off,none⟩) n n):=by
 have:m.known b=.exact:=by simp [Mem.known,hk]
 simp [xT,jH,zw,xy,this]
structure Dv (d sb um N:Nat) (m:Mem):Prop where
 hd:∃ a b,m.get d=some ⟨.cells [.slice (some ⟨sb,0,none⟩) N N,.map (some um),a,b] 161,false,none⟩
 hs:m.get sb=some ⟨.cells (Ji.flat (List.replicate N ())) 232,false,none⟩
 hu:m.get um=some ⟨.map [] 0,false,none⟩
 lt:d<m.next∧sb<m.next∧um<m.next
theorem Dv.upd {d sb um N:Nat} {m m':Mem} {fp:List Nat} (h:Dv d sb um N m) (hu:Upd fp m m') (hf:∀ b∈fp,b≠d∧b≠sb∧b≠um):Dv d sb um N m':=by
 obtain ⟨a,b,hd⟩:=h.hd
 have hn:=hu.next
 obtain ⟨l1,l2,l3⟩:=h.lt
 exact ⟨⟨a,b,(hu.same d l1 fun hm=>(hf _ hm).1 rfl).trans hd⟩,(hu.same sb l2 fun hm=>(hf _ hm).2.1 rfl).trans h.hs,(hu.same um l3 fun hm=>(hf _ hm).2.2 rfl).trans h.hu,by omega,by omega,by omega⟩
theorem Dv.qt {d sb um N:Nat} {m m':Mem} (h:Dv d sb um N m) (hu:Upd [] m m'):Dv d sb um N m':=h.upd hu fun b hb=>by cases hb
theorem Dv.tap {d sb um N:Nat} {m:Mem} (h:Dv d sb um N m):TAp Ji 232 m (.slice (some ⟨sb,0,none⟩) N N) (List.replicate N ()) :=
 .inr ⟨sb,N,[],none,by simp,h.lt.2.1,by rw [List.append_nil]; exact h.hs,.inl rfl,by simp,by simp⟩
theorem WL {d sb um N i:Nat} {m:Mem} (h:Dv d sb um N m) (hi:i<N):W (Call S tab 92 [.pointer (some ⟨d,0,none⟩),.int .i64 (i:Int)] m) fun r m'=>r=str (qq 64)∧Upd [] m m':=by
 obtain ⟨a,b,hd⟩:=h.hd
 have e1:((i:Int)<0)=False:=eq_false (by omega)
 have e2:((N:Int)≤(i:Int))=False:=eq_false (by omega)
 have l0:qb (.pointer (some ⟨d,0+0,none⟩)) m=some (.slice (some ⟨sb,0,none⟩) N N):=qu hd rfl
 have l1:qb (.pointer (some ⟨d,0+1,none⟩)) m=some (.map (some um)):=qu hd rfl
 have el:qd (.slice (some ⟨sb,0,none⟩) N N)=some (.int .i64 (N:Int)):=rfl
 have lk:∀ z,zC .int z true (.map (some um)) (.int .i64 (i:Int)) m=some (.tuple #[z,.bool false]):=fun z=>by
  have:m.xL um=some ([],0):=by simp [Mem.xL,h.hu]
  simp only [zC,this,Option.bind_some]; rfl
 rw [C92]
 have u1:Upd [] m (m.add ⟨.cells z64 232,false,none⟩):=Upd.add _ _ _
 have g1:(m.add ⟨.cells z64 232,false,none⟩).get m.next=some ⟨.cells z64 232,false,none⟩:=Mem.qk ..
 have n1:(m.add ⟨.cells z64 232,false,none⟩).next=m.next+1:=rfl
 simp -implicitDefEqProofs only [st0,qc,reduceIte,Qd,e1,nck,fa,l0,el,e2,l1,lk,qfA,xt0,xt1]
 generalize (m.add ⟨.cells z64 232,false,none⟩)=m1 at u1 g1 n1
 have hz:z64.length=64:=by kernel_rfl
 have ha:z64.all (·.oneCell')=true:=by kernel_rfl
 have st:∀ M:Mem,M.get m.next=some ⟨.cells z64 232,false,none⟩→qi 64 (.pointer (some ⟨m.next,0,none⟩)) (.agg z64.toArray) M=some (M.put m.next ⟨.cells z64 232,false,none⟩):=fun M g=>by
  have:=vo (v:=.agg z64.toArray) g hz (by simpa [Value.cells] using hz) (by simpa [Value.cells] using ha)
  simpa [Value.cells] using this
 have h2:Dv d sb um N (m1.put m.next ⟨.cells z64 232,false,none⟩):=(h.qt u1).upd (fp:=[m.next]) (Upd.put _ _ (by simp)) fun b hb=>by
  simp at hb; have:=h.lt; omega
 have g2:(m1.put m.next ⟨.cells z64 232,false,none⟩).get m.next=_:=Mem.qj ..
 have u2:Upd [] m (m1.put m.next ⟨.cells z64 232,false,none⟩):=u1.jL _ (.inr (Nat.le_refl _))
 simp -implicitDefEqProofs only [st0,qc,reduceIte,st m1 g1]
 have n2:(m1.put m.next ⟨.cells z64 232,false,none⟩).next=m1.next:=rfl
 generalize (m1.put m.next ⟨.cells z64 232,false,none⟩)=m2 at h2 g2 u2 n2
 obtain ⟨a2,b2,hd2⟩:=h2.hd
 have l02:qb (.pointer (some ⟨d,0+0,none⟩)) m2=some (.slice (some ⟨sb,0,none⟩) N N):=qu hd2 rfl
 obtain ⟨p,w1,w2,_⟩:=h2.tap.tsl.index .i64 (i:=i) (a:=()) (by simp [hi])
 rw [qbL] at w1 w2
 have w2:qm 64 p m2=some (.agg z64.toArray):=w2
 simp -implicitDefEqProofs only [st0,qc,reduceIte,l02,w1,w2,st m2 g2,slA (Mem.qj m2 m.next _)]
 have tb:TSl xZ (m2.put m.next ⟨.cells z64 232,false,none⟩) (.slice (some ⟨m.next,0,none⟩) 64 64) (qq 64) :=
  TAp.tsl (e:=232) (.inr ⟨m.next,64,[],none,by rw [xS],by show m.next<m2.next; omega,by rw [List.append_nil]; exact Mem.qj ..,.inl rfl,by rw [xS]; rfl,by rw [xS]; omega⟩)
 simp -implicitDefEqProofs only [st0,qc,reduceIte,qdA tb]
 exact ⟨trivial,u2.jL _ (.inr (Nat.le_refl _))⟩
theorem Wq (n j:Nat) (hn:n≤1000) (hj:j≤1000) (m:Mem):Call S tab 90 [.int .i64 (n:Int),.int .i64 (j:Int)] m=some (.int .i64 ((126+4 * n+j:Nat):Int),m):=by
 refine W_eq ?_
 have e1:arith .mul (.int .i64 4) (.int .i64 (n:Int))=some (.int .i64 ((4 * n:Nat):Int)):=by
  have h:IntKind.i64.wrap ((4:Int) * (n:Int))=((4 * n:Nat):Int):=by rw [wrap64 (by omega) (by omega)]; omega
  rw [← h]; rfl
 have e2:arith .add (.int .i64 126) (.int .i64 ((4 * n:Nat):Int))=some (.int .i64 ((126+4 * n:Nat):Int)):=addN (i:=126) (by omega)
 rw [C90]
 simp -implicitDefEqProofs only [st0,qc,reduceIte,e1,e2,addN (i:=126+4 * n) (j:=j) (by omega)]
 exact ⟨trivial,trivial⟩
theorem qiF {lo:Nat} {v:Value} {l:List Bs} (hl:l.length≤1000) (h64:∀ s∈l,s.length=64):∀ (n i:Nat) (m:Mem),l.length - i=n→i≤l.length→RSl lo zi m v l→W (XU v (.func (.func 185) #[] #[]) (.int .i64 (l.length:Int)) (.int .i64 (i:Int)) m) fun r m'=>r=.int .i64 (-1)∧m'=m:=by
 intro n
 induction n with
 | zero =>
  intro i m hd hi h
  obtain rfl:i=l.length:=by omega
  rw [P218_0_eq]
  simp -implicitDefEqProofs only [st0,qc,reduceIte,Int.lt_irrefl]
  exact ⟨trivial,trivial⟩
 | succ n ih =>
  intro i m hd hi h
  have hlt:i<l.length:=by omega
  have e1:((i:Int)<(l.length:Int))=True:=eq_true (by omega)
  obtain ⟨pk,y1,y2⟩:=KT h (ja hlt)
  have e2:((l[i].length:Nat):Int)=64:=by rw [h64 _ (List.getElem_mem hlt)]; rfl
  have e3:decide ((64:Int)=64)=true:=rfl
  rw [P218_0_eq]
  have hc:∀ M,Call S tab 185 [str l[i]] M=some (.bool false,M):=fun M=>by
   refine W_eq ?_
   rw [qjn]
   simp -implicitDefEqProofs only [st0,qc,reduceIte,zy,e2,e3]
   exact ⟨trivial,trivial⟩
  simp -implicitDefEqProofs only [st0,qc,reduceIte,e1,y1,y2 m h,qdw 185 (by rfl),List.nil_append,List.append_nil,hc,qE (i:=i) (by omega)]
  exact ih (i+1) m (by omega) hlt h
set_option maxRecDepth 100000 in
theorem qhA:(⟨(Lib.join [(⟨(qq 64).toArray⟩:ByteArray).data.toList,(⟨(qq 64).toArray⟩:ByteArray).data.toList,(⟨(qq 64).toArray⟩:ByteArray).data.toList,(⟨(qq 64).toArray⟩:ByteArray).data.toList] (⟨#[]⟩:ByteArray).data.toList).toArray⟩:ByteArray)=⟨(qq 256).toArray⟩:=by kernel_rfl
theorem qcm {m:Mem} {v:Value} (h:TAp zi 9 m v [qq 64,qq 64,qq 64,qq 64]):W (Call S tab 137 [v] m) fun r m'=>r=.tuple #[str (qq 256),.int .i64 0]∧m'=m:=by
 have hr:RSl 0 zi m v [qq 64,qq 64,qq 64,qq 64]:=h.rsl fun b _=>Nat.zero_le _
 have hl:=qY hr
 have d4:decide ((4:Int)=4)=true:=rfl
 have hl:qd v=some (.int .i64 4):=hl
 have d1:decide ((0:Int)≤-1)=false:=rfl
 rw [qjF]
 simp -implicitDefEqProofs only [st0,qc,reduceIte,hl,d4,qjo,qjd]
 have key:=qiF (l:=[qq 64,qq 64,qq 64,qq 64]) (by simp) (fun s hs=>by
  simp only [List.mem_cons,List.not_mem_nil,or_false,or_self] at hs; subst hs; exact xS 64) 4 0 m rfl (by simp) hr
 have key:XU v (.func (.func 185) #[] #[]) (.int .i64 4) (.int .i64 0) m=some (.int .i64 (-1),m):=W_eq key
 have hj:Call S tab 186 [v,.string ⟨#[]⟩] m=some (str (qq 256),m):=by
  refine XZ ?_
  show Ye [v,.string ⟨#[]⟩] m=_
  rcases h with ⟨_,h0⟩|⟨b,cap,rest,lo,rfl,hb,hg,hlo,hrs,hc⟩
  ·simp at h0
  ·have hca:=zN hg
   have hst:ZW (((zi.flat [qq 64,qq 64,qq 64,qq 64]++rest).drop 0).take [qq 64,qq 64,qq 64,qq 64].length)=some [⟨(qq 64).toArray⟩,⟨(qq 64).toArray⟩,⟨(qq 64).toArray⟩,⟨(qq 64).toArray⟩]:=rfl
   have hjl:=congrArg (fun s:ByteArray=>s.data.toList) qhA
   have hjl:Lib.join ([(⟨(qq 64).toArray⟩:ByteArray),⟨(qq 64).toArray⟩,⟨(qq 64).toArray⟩,⟨(qq 64).toArray⟩].map (·.data.toList)) (⟨#[]⟩:ByteArray).data.toList=qq 256:=hjl
   simp only [Ye,hca,Option.bind_some,hst,hjl]
   rw [if_pos ⟨rfl,by simp,hc,by simp,by rw [xS]; omega⟩]
 simp -implicitDefEqProofs only [st0,qc,reduceIte,key,d1,hj]
 exact ⟨trivial,trivial⟩
theorem TAp.low {α:Type} {E:Enc α} {e:TypeId} {m:Mem} {v:Value} {l:List α} (h:TAp E e m v l):RSl 0 E m v l:=h.rsl fun b _=>Nat.zero_le _
theorem YR {d sb um N p vb k:Nat} {r:List Value} {T:TypeId} (hN:126+4 * k+4≤N) (hk:k≤200) {m0:Mem} (hne:p<m0.next∧vb<m0.next):∀ (n j:Nat) (m:Mem) (v:Value),4 - j=n→j≤4→Dv d sb um N m→m.get p=some ⟨.cells (.pointer (some ⟨d,0,none⟩)::r) T,false,none⟩→m.get vb=some ⟨.cells [.int .i64 (k:Int)] 3,false,none⟩→TAp zi 9 m v (List.replicate j (qq 64))→(∀ b∈qe v,m0.next≤b)→Upd [] m0 m→(d<m0.next∧sb<m0.next∧um<m0.next) →
  W (qam (.pointer (some ⟨p,0,none⟩)) (.func (.func 89) #[] #[.pointer (some ⟨vb,0,none⟩)]) v (.int .i64 (j:Int)) m) fun r m'=>r=str (qq 256)∧Upd [] m0 m':=by
 intro n
 induction n with
 | zero =>
  intro j m v hd hj hdv gp gv hv hvb hu hlt
  obtain rfl:j=4:=by omega
  have e1:(((4:Nat):Int)<4)=False:=eq_false (by omega)
  rw [P88_0_eq]
  simp -implicitDefEqProofs only [st0,qc,reduceIte,e1]
  rw [P88_1_eq]
  refine qo.2 ((qcm hv).mono fun r m' ⟨r1,r2⟩=>?_)
  subst r1 r2
  simp -implicitDefEqProofs only [st0,qc,reduceIte,xt0,xt1]
  exact ⟨trivial,hu⟩
 | succ n ih =>
  intro j m v hd hj hdv gp gv hv hvb hu hlt
  have hlj:j<4:=by omega
  have e1:((j:Int)<4)=True:=eq_true (by omega)
  have l0:qb (.pointer (some ⟨p,0+0,none⟩)) m=some (.pointer (some ⟨d,0,none⟩)):=qu gp rfl
  have lv:qb (.pointer (some ⟨vb,0,none⟩)) m=some (.int .i64 (k:Int)):=qu gv rfl
  have hc:Call S tab 89 [.int .i64 (j:Int),.pointer (some ⟨vb,0,none⟩)] m=some (.int .i64 ((126+4 * k+j:Nat):Int),m):=by
   refine W_eq ?_
   rw [C89]
   simp -implicitDefEqProofs only [st0,qc,reduceIte,lv,Wq k j (by omega) (by omega)]
   exact ⟨trivial,trivial⟩
  rw [P88_0_eq]
  simp -implicitDefEqProofs only [st0,qc,reduceIte,e1,nck,fa,l0,qgo 89 (by rfl),List.nil_append,List.singleton_append,hc]
  refine qo.2 ((WL hdv (show 126+4 * k+j<N by omega)).mono fun v1 m1 ⟨r1,u1⟩=>?_)
  subst r1
  have hlm:=hu.next
  have gp1:=qA u1 (by omega) gp
  have gv1:=qA u1 (by omega) gv
  simp -implicitDefEqProofs only [st0,qc,reduceIte,JM]
  refine zU (E:=zi) [qq 64] (by decide) (hv.qt u1) (by simp; omega) fun v2 m2 q1 q2 q3=>?_
  have nv:∀ c,c<m0.next→c∉qe v:=fun c hc hm=>by have:=hvb c hm; omega
  have hn1:=u1.next
  have q2':Upd [] m0 m2:=(hu.qD u1).then' q2 fun b hb=>.inr (hvb b hb)
  have gp2:=(q2.same p (by omega) (nv p hne.1)).trans gp1
  have gv2:=(q2.same vb (by omega) (nv vb hne.2)).trans gv1
  have hdv2:Dv d sb um N m2:=(hdv.qt u1).upd q2 fun b hb=>by have:=hvb b hb; omega
  rw [← List.replicate_succ'] at q1
  simp -implicitDefEqProofs only [st0,qc,reduceIte,qE (i:=j) (by omega)]
  refine kz (fun r hr=>?_) (ih (j+1) m2 v2 (by omega) (by omega) hdv2 gp2 gv2 q1 (fun b hb=>(q3 b hb).elim (hvb b) (fun h=>by omega)) q2' hlt)
  simp only [List.mem_cons,List.not_mem_nil,or_false] at hr
  subst hr
  exact okR fun k _ hk=>by
   have:k=0∨k=1:=by omega
   rcases this with rfl|rfl
   ·exact ⟨_,rfl,l0⟩
   ·exact ⟨_,rfl,l0⟩
theorem qcA {d sb um N p vb k:Nat} {r:List Value} {T:TypeId} (hN:126+4 * k+4≤N) (hk:k≤200) {m:Mem} (hne:p<m.next∧vb<m.next) (hdv:Dv d sb um N m) (gp:m.get p=some ⟨.cells (.pointer (some ⟨d,0,none⟩)::r) T,false,none⟩) (gv:m.get vb=some ⟨.cells [.int .i64 (k:Int)] 3,false,none⟩) :
  W (Call S tab 88 [.pointer (some ⟨p,0,none⟩),.func (.func 89) #[] #[.pointer (some ⟨vb,0,none⟩)]] m) fun r m'=>r=str (qq 256)∧Upd [] m m':=by
 rw [C88]
 exact YR hN hk hne 4 0 m _ rfl (by omega) hdv gp gv (TAp.nil _) (fun c hc=>by simp [qe] at hc) (Upd.refl _ _) hdv.lt
end Go.Fx.Tryz
namespace Go.Fx.Tryz
open Go Go.Fx
abbrev pgB (d:Nat) (v:Value):ABlk:=⟨.cells [.pointer (some ⟨d,0,none⟩),v,.bool false,.int .i64 0] 155,false,none⟩
theorem qbd {d sb um N p P:Nat} (hN:126+4 * P≤N) (hP:P≤160) {m0:Mem} (hp:p<m0.next) (hlt:d<m0.next∧sb<m0.next∧um<m0.next) (hpd:p≠d∧p≠sb∧p≠um) {Q:Value→Mem→Prop}
  (hQ:∀ m v,Dv d sb um N m→m.get p=some (pgB d v)→TAp zi 9 m v (List.replicate P (qq 256))→(∀ b∈qe v,m0.next≤b)→Upd [p] m0 m→W (qdO (.pointer (some ⟨d,0,none⟩)) (.pointer (some ⟨p,0,none⟩)) m) Q) :
  ∀ (n i:Nat) (m:Mem) (v:Value),P - i=n→i≤P→Dv d sb um N m→m.get p=some (pgB d v)→TAp zi 9 m v (List.replicate i (qq 256))→(∀ b∈qe v,m0.next≤b)→Upd [p] m0 m →
  W (qat (.pointer (some ⟨d,0,none⟩)) (.pointer (some ⟨p,0,none⟩)) (.int .i64 (P:Int)) (.int .i64 (i:Int)) m) Q:=by
 intro n
 induction n with
 | zero =>
  intro i m v hd hi hdv gp hv hvb hu
  obtain rfl:i=P:=by omega
  rw [P37_0_eq]
  simp -implicitDefEqProofs only [st0,qc,reduceIte,Int.lt_irrefl]
  exact hQ m v hdv gp hv hvb hu
 | succ n ih =>
  intro i m v hd hi hdv gp hv hvb hu
  have hlt':i<P:=by omega
  have e1:((i:Int)<(P:Int))=True:=eq_true (by omega)
  have hlm:=hu.next
  rw [P37_0_eq]
  simp -implicitDefEqProofs only [st0,qc,reduceIte,e1]
  have u1:Upd [] m (m.add ⟨.cells [.int .i64 0] 3,false,none⟩):=Upd.add _ _ _
  have g1:(m.add ⟨.cells [.int .i64 0] 3,false,none⟩).get m.next=some ⟨.cells [.int .i64 0] 3,false,none⟩:=Mem.qk ..
  have n1:(m.add ⟨.cells [.int .i64 0] 3,false,none⟩).next=m.next+1:=rfl
  generalize (m.add ⟨.cells [.int .i64 0] 3,false,none⟩)=m1 at u1 g1 n1
  have e2:qi 1 (.pointer (some ⟨m.next,0,none⟩)) (.int .i64 (i:Int)) m1=some (m1.put m.next ⟨.cells [.int .i64 (i:Int)] 3,false,none⟩):=zr g1 (by simp) rfl rfl
  have g2:(m1.put m.next ⟨.cells [.int .i64 (i:Int)] 3,false,none⟩).get m.next=_:=Mem.qj ..
  have u2:Upd [] m (m1.put m.next ⟨.cells [.int .i64 (i:Int)] 3,false,none⟩):=u1.jL _ (.inr (Nat.le_refl _))
  have n2:(m1.put m.next ⟨.cells [.int .i64 (i:Int)] 3,false,none⟩).next=m1.next:=rfl
  simp -implicitDefEqProofs only [st0,qc,reduceIte,e2]
  generalize (m1.put m.next ⟨.cells [.int .i64 (i:Int)] 3,false,none⟩)=m2 at g2 u2 n2
  have gp2:=qA u2 (by omega) gp
  have hdv2:=hdv.qt u2
  have lp:∀ {M:Mem} {x:Value},M.get p=some (pgB d x)→qb (.pointer (some ⟨p,0+1,none⟩)) M=some x:=fun g=>qu g rfl
  simp -implicitDefEqProofs only [st0,qc,reduceIte,nck,fa,lp gp2]
  refine qo.2 ((qcA (by omega) (by omega) ⟨by omega,by omega⟩ hdv2 gp2 g2).mono fun v3 m3 ⟨r3,u3⟩=>?_)
  subst r3
  have x3:=u3.next
  have u03:Upd [] m m3:=u2.qD u3
  have gp3:=qA u03 (by omega) gp
  simp -implicitDefEqProofs only [st0,qc,reduceIte,JM]
  refine zU (E:=zi) [qq 256] (by decide) (hv.qt u03) (by simp; omega) fun v4 m4 q1 q2 q3=>?_
  have x4:=q2.next
  have nv:∀ c,c<m0.next→c∉qe v:=fun c hc hm=>by have:=hvb c hm; omega
  have gp4:=(q2.same p (by omega) (nv p hp)).trans gp3
  have e5:qi 1 (.pointer (some ⟨p,0+1,none⟩)) v4 m4=some (m4.put p (pgB d v4)):=zr gp4 (by simp) q1.one.1 q1.one.2
  have hdv4:Dv d sb um N m4:=(hdv.qt u03).upd q2 fun b hb=>by have:=hvb b hb; omega
  have u5:Upd [p] m4 (m4.put p (pgB d v4)):=Upd.put _ _ (by simp)
  have hv4b:∀ b∈qe v4,m0.next≤b:=fun b hb=>(q3 b hb).elim (hvb b) (fun h=>by omega)
  rw [← List.replicate_succ'] at q1
  simp -implicitDefEqProofs only [st0,qc,reduceIte,nck,fa,e5,qE (i:=i) (by omega)]
  refine kz (fun r hr=>?_) (ih (i+1) _ v4 (by omega) hlt' (hdv4.upd u5 fun b hb=>by simp at hb; subst hb; exact hpd) (Mem.qj ..) (q1.upd u5 fun b hb hm=>by simp at hm; have:=hv4b b hb; omega) hv4b (((hu.qD u03).then' q2 fun b hb=>.inr (hvb b hb)).trans u5))
  simp only [List.mem_cons,List.not_mem_nil,or_false] at hr
  subst hr
  exact okR fun k _ hk=>by
   have:k=0∨k=1∨k=2:=by omega
   rcases this with rfl|rfl|rfl
   ·exact ⟨_,rfl,lp gp2⟩
   ·exact ⟨_,rfl,lp gp3⟩
   ·exact ⟨_,rfl,lp (by rw [Mem.zT _ _ (by omega)]; exact gp3)⟩
theorem HS (n:Nat) (hn:n≤1000) (m:Mem):Call S tab 39 [.int .i64 (n:Int)] m=some (.int .i64 ((126+4 * n:Nat):Int),m):=by
 refine W_eq ?_
 have:=Wq n 0 hn (by omega) m
 rw [Nat.add_zero] at this
 have:Call S tab 90 [.int .i64 (n:Int),.int .i64 0] m=_:=this
 rw [C39]
 simp -implicitDefEqProofs only [st0,qc,reduceIte,this]
 exact ⟨trivial,trivial⟩
theorem qiA (v w:Value) (hv:v.cells=#[v]) (hw:w.cells=#[w]):qy [.slice none 0 0,.map none,.int .i64 0,.int .i64 0] [(0,1,v),(1,1,w),(3,1,.int .i64 4611686018427387904)]=some [v,w,.int .i64 0,.int .i64 4611686018427387904]:=by
 have h4:(Value.int .i64 4611686018427387904).cells=#[.int .i64 4611686018427387904]:=rfl
 simp [qy,hv,hw,h4,zR,xg]
theorem qeY (n:Nat) (hn:n≤160) (m:Mem):W (Call S tab 38 [.int .i64 ((126+4 * n:Nat):Int)] m) fun r m'=>∃ d sb um,r=.pointer (some ⟨d,0,none⟩)∧Dv d sb um (126+4 * n) m'∧d<m'.next∧Upd [] m m':=by
 have e1:(((0:Int) > ((126+4 * n:Nat):Int)))=False:=eq_false (by omega)
 have e2:(((4096:Int)<((126+4 * n:Nat):Int)))=False:=eq_false (by omega)
 have e3:vd 232 64 z64 (.int .i64 ((126+4 * n:Nat):Int)) (.int .i64 ((126+4 * n:Nat):Int)) m=some (.slice (some ⟨m.next,0,none⟩) (126+4 * n) (126+4 * n),m.add ⟨.cells (List.replicate (126+4 * n) z64).flatten 232,false,none⟩):=by
  simp only [vd]
  rw [if_pos ⟨by omega,by omega,by omega,by omega⟩]
  simp only [Int.toNat_natCast]
 rw [C38]
 simp -implicitDefEqProofs only [st0,qc,reduceIte,e1,e2,qfA,e3]
 rw [← qbM]
 have u1:Upd [] m (m.add ⟨.cells (Ji.flat (List.replicate (126+4 * n) ())) 232,false,none⟩):=Upd.add _ _ _
 have g1:(m.add ⟨.cells (Ji.flat (List.replicate (126+4 * n) ())) 232,false,none⟩).get m.next=some ⟨.cells (Ji.flat (List.replicate (126+4 * n) ())) 232,false,none⟩:=Mem.qk ..
 have n1:(m.add ⟨.cells (Ji.flat (List.replicate (126+4 * n) ())) 232,false,none⟩).next=m.next+1:=rfl
 generalize (m.add ⟨.cells (Ji.flat (List.replicate (126+4 * n) ())) 232,false,none⟩)=m1 at u1 g1 n1
 simp -implicitDefEqProofs only [st0,qc,reduceIte,zI]
 have u2:Upd [] m1 (m1.add ⟨.map [] 0,false,none⟩):=Upd.add _ _ _
 have g2:(m1.add ⟨.map [] 0,false,none⟩).get m1.next=some ⟨.map [] 0,false,none⟩:=Mem.qk ..
 have n2:(m1.add ⟨.map [] 0,false,none⟩).next=m1.next+1:=rfl
 have k2:=qA u2 (by omega) g1
 generalize (m1.add ⟨.map [] 0,false,none⟩)=m2 at u2 g2 n2 k2
 simp -implicitDefEqProofs only [st0,qc,reduceIte,qiA (.slice (some ⟨m.next,0,none⟩) (126+4 * n) (126+4 * n)) (.map (some m1.next)) rfl rfl,qQ]
 have u3:Upd [] m2 (m2.add ⟨.cells [.slice (some ⟨m.next,0,none⟩) (126+4 * n) (126+4 * n),.map (some m1.next),.int .i64 0,.int .i64 4611686018427387904] 161,false,none⟩):=Upd.add _ _ _
 refine ⟨m2.next,m.next,m1.next,rfl,⟨⟨_,_,Mem.qk ..⟩,qA u3 (by omega) k2,qA u3 (by omega) g2,⟨by show m2.next<m2.next+1; omega,by show m.next<m2.next+1; omega,by show m1.next<m2.next+1; omega⟩⟩,by show m2.next<m2.next+1; omega,(u1.qD u2).qD u3⟩
theorem qez (m:Mem):Call S tab 91 [str (qq 64)] m=some (.bool false,m):=by
 refine W_eq ?_
 have e1:arith .neq (str (qq 64)) (.string ⟨#[]⟩)=some (.bool true):=(ZH (qq 64) []).trans (by rfl)
 have e2:zz (str (qq 64)) (.int .i64 0)=some (.int .u8 0):=ZI (l:=qq 64) (i:=0) (b:=0) rfl
 have e3:arith .neq (.int .u8 0) (.int .u8 0)=some (.bool false):=rfl
 rw [C91]
 simp -implicitDefEqProofs only [st0,qc,reduceIte,e1,e2,e3]
 exact ⟨trivial,trivial⟩
theorem qiz (d:Nat):qy [.pointer none,.slice none 0 0,.bool false,.int .i64 0] [(0,1,.pointer (some ⟨d,0,none⟩))]=some [.pointer (some ⟨d,0,none⟩),.slice none 0 0,.bool false,.int .i64 0]:=by kernel_rfl
theorem qcz {d sb um n:Nat} (hn1:1≤n) (hn:n≤160) {m:Mem} (hdv:Dv d sb um (126+4 * n) m):W (Call S tab 37 [.pointer (some ⟨d,0,none⟩),.int .i64 (n:Int)] m) fun r m'=>∃ p v,r=.tuple #[.pointer (some ⟨p,0,none⟩),.int .i64 0]∧m'.get p=some (pgB d v)∧p<m'.next∧TAp zi 9 m' v (List.replicate n (qq 256))∧m.next≤p∧Upd [] m m':=by
 have e1:((n:Int)<1)=False:=eq_false (by omega)
 have e2:((160:Int)<(n:Int))=False:=eq_false (by omega)
 obtain ⟨a,b,hd⟩:=hdv.hd
 have l0:qb (.pointer (some ⟨d,0+0,none⟩)) m=some (.slice (some ⟨sb,0,none⟩) (126+4 * n) (126+4 * n)):=qu hd rfl
 have el:qd (.slice (some ⟨sb,0,none⟩) (126+4 * n) (126+4 * n))=some (.int .i64 ((126+4 * n:Nat):Int)):=rfl
 have hsz:Call S tab 87 [.pointer (some ⟨d,0,none⟩)] m=some (.int .i64 ((126+4 * n:Nat):Int),m):=by
  refine W_eq ?_
  rw [C87]
  simp -implicitDefEqProofs only [st0,qc,reduceIte,Qd,nck,fa,l0,el]
  exact ⟨trivial,trivial⟩
 have e3:(((126+4 * n:Nat):Int)<((126+4 * n:Nat):Int))=False:=eq_false (by omega)
 rw [C37]
 simp -implicitDefEqProofs only [st0,qc,reduceIte,Qd,e1,e2,hsz,HS n (by omega),e3,qiz,qQ]
 have u1:Upd [] m (m.add (pgB d (.slice none 0 0))):=Upd.add _ _ _
 have g1:(m.add (pgB d (.slice none 0 0))).get m.next=some (pgB d (.slice none 0 0)):=Mem.qk ..
 have n1:(m.add (pgB d (.slice none 0 0))).next=m.next+1:=rfl
 generalize (m.add (pgB d (.slice none 0 0)))=m1 at u1 g1 n1
 obtain ⟨t1,t2,t3⟩:=hdv.lt
 refine qbd (N:=126+4 * n) (m0:=m1) (Nat.le_refl _) hn (by omega) ⟨by omega,by omega,by omega⟩ ⟨by omega,by omega,by omega⟩ (fun m2 v hdv2 gp hv hvb u2=>?_) _ 0 m1 _ rfl (Nat.zero_le _) (hdv.qt u1) g1 (TAp.nil _) (fun c hc=>by simp [qe] at hc) (Upd.refl _ _)
 have x2:=u2.next
 rw [P37_1_eq]
 have hd2:=WL hdv2 (i:=0) (by omega)
 refine qo.2 (hd2.mono fun v3 m3 ⟨r3,u3⟩=>?_)
 subst r3
 have x3:=u3.next
 simp -implicitDefEqProofs only [st0,qc,reduceIte,qez]
 exact ⟨m.next,v,rfl,qA u3 (by omega) gp,by omega,hv.qt u3,Nat.le_refl _,(u1.then' u2 fun b hb=>.inr (by simp at hb; omega)).qD u3⟩
end Go.Fx.Tryz
namespace Go.Fx.Tryz
open Go Go.Fx
abbrev caB (p cm:Nat) (a b:Value) (sz ms:Nat):ABlk:=⟨.cells [.pointer (some ⟨p,0,none⟩),.int .i64 8,a,b,.int .i64 0,.string ⟨#[]⟩,.int .i64 (sz:Int),.map (some cm),.int .i64 0,.int .i64 (ms:Int)] 172,false,none⟩
theorem qiB (p cm:Nat):qy [.pointer none,.int .i64 0,.pointer none,.pointer none,.int .i64 0,.string ⟨#[]⟩,.int .i64 0,.map none,.int .i64 0,.int .i64 0] [(0,1,.pointer (some ⟨p,0,none⟩)),(1,1,.int .i64 8),(7,1,.map (some cm))] =
  some [.pointer (some ⟨p,0,none⟩),.int .i64 8,.pointer none,.pointer none,.int .i64 0,.string ⟨#[]⟩,.int .i64 0,.map (some cm),.int .i64 0,.int .i64 0]:=by kernel_rfl
theorem qfa (p:Nat) (m:Mem):W (Call S tab 41 [.pointer (some ⟨p,0,none⟩),.int .i64 8] m) fun r m'=>∃ c cm,r=.pointer (some ⟨c,0,none⟩)∧m'.get c=some (caB p cm (.pointer (some ⟨c,0+2+0,none⟩)) (.pointer (some ⟨c,0+2+0,none⟩)) 0 0)∧m'.get cm=some ⟨.map [] 0,false,none⟩∧c<m'.next∧cm<m'.next∧c≠cm∧m.next≤c∧m.next≤cm∧Upd [] m m':=by
 have e1:((0:Int) > 8)=False:=eq_false (by omega)
 have e2:((64:Int)<8)=False:=eq_false (by omega)
 rw [C41]
 simp -implicitDefEqProofs only [st0,qc,reduceIte,Qd,e1,e2,zI,qiB,qQ]
 have u1:Upd [] m (m.add ⟨.map [] 0,false,none⟩):=Upd.add _ _ _
 have g1:(m.add ⟨.map [] 0,false,none⟩).get m.next=some ⟨.map [] 0,false,none⟩:=Mem.qk ..
 have n1:(m.add ⟨.map [] 0,false,none⟩).next=m.next+1:=rfl
 generalize (m.add ⟨.map [] 0,false,none⟩)=m1 at u1 g1 n1
 have u2:Upd [] m1 (m1.add (caB p m.next (.pointer none) (.pointer none) 0 0)):=Upd.add _ _ _
 have g2:(m1.add (caB p m.next (.pointer none) (.pointer none) 0 0)).get m1.next=some (caB p m.next (.pointer none) (.pointer none) 0 0):=Mem.qk ..
 have n2:(m1.add (caB p m.next (.pointer none) (.pointer none) 0 0)).next=m1.next+1:=rfl
 have k2:=qA u2 (by omega) g1
 have eb:(⟨.cells [.pointer (some ⟨p,0,none⟩),.int .i64 8,.pointer none,.pointer none,.int .i64 0,.string ⟨#[]⟩,.int .i64 0,.map (some m.next),.int .i64 0,.int .i64 0] 172,false,none⟩:ABlk)=caB p m.next (.pointer none) (.pointer none) 0 0:=rfl
 rw [eb]
 generalize (m1.add (caB p m.next (.pointer none) (.pointer none) 0 0))=m2 at u2 g2 n2 k2
 have s1:qi 1 (.pointer (some ⟨m1.next,0+2+0+0,none⟩)) (.pointer (some ⟨m1.next,0+2+0,none⟩)) m2=some (m2.put m1.next (caB p m.next (.pointer (some ⟨m1.next,0+2+0,none⟩)) (.pointer none) 0 0)):=zr g2 (by simp) rfl rfl
 have g3:(m2.put m1.next (caB p m.next (.pointer (some ⟨m1.next,0+2+0,none⟩)) (.pointer none) 0 0)).get m1.next=_:=Mem.qj ..
 have k3:(m2.put m1.next (caB p m.next (.pointer (some ⟨m1.next,0+2+0,none⟩)) (.pointer none) 0 0)).get m.next=_:=(Mem.qn m2 _ (by omega)).trans k2
 have s2:qi 1 (.pointer (some ⟨m1.next,0+2+0+1,none⟩)) (.pointer (some ⟨m1.next,0+2+0,none⟩)) (m2.put m1.next (caB p m.next (.pointer (some ⟨m1.next,0+2+0,none⟩)) (.pointer none) 0 0))=some ((m2.put m1.next (caB p m.next (.pointer (some ⟨m1.next,0+2+0,none⟩)) (.pointer none) 0 0)).put m1.next (caB p m.next (.pointer (some ⟨m1.next,0+2+0,none⟩)) (.pointer (some ⟨m1.next,0+2+0,none⟩)) 0 0)):=zr g3 (by simp) rfl rfl
 simp -implicitDefEqProofs only [st0,qc,reduceIte,nck,fa,C95,s1,s2]
 refine ⟨m1.next,m.next,rfl,Mem.qj ..,(Mem.qn _ _ (by omega)).trans k3,by show m1.next<m2.next; omega,by show m.next<m2.next; omega,by omega,by omega,by omega,((u1.qD u2).jL _ (.inr (by omega))).jL _ (.inr (by omega))⟩
theorem qgR:qy [.int .i64 0,.string ⟨#[]⟩] [(0,1,.int .i64 0),(1,1,str (qq 256))]=some [.int .i64 0,str (qq 256)]:=by
 simp only [qy]; rfl
theorem qgQ (s:Bs):qy [.pointer none,.pointer none,.int .i64 0,.string ⟨#[]⟩] [(2,2,.agg [.int .i64 0,str s].toArray)]=some [.pointer none,.pointer none,.int .i64 0,str s]:=by kernel_rfl
set_option maxRecDepth 4000 in
theorem qdu {c cm p d n:Nat} {v:Value} {m:Mem} (gc:m.get c=some (caB p cm (.pointer (some ⟨c,0+2+0,none⟩)) (.pointer (some ⟨c,0+2+0,none⟩)) 0 0)) (gm:m.get cm=some ⟨.map [] 0,false,none⟩) (gp:m.get p=some (pgB d v)) (hv:TAp zi 9 m v (List.replicate n (qq 256))) (hn:1≤n) (hlt:c<m.next∧cm<m.next∧p<m.next) (hne:c≠cm∧c≠p∧cm≠p) :
  W (Call S tab 94 [.pointer (some ⟨c,0,none⟩),.int .i64 0] m) fun r m'=>r=.tuple #[str (qq 256),.int .i64 0]∧(∃ rs,m'.get c=some ⟨.cells (.pointer (some ⟨p,0,none⟩)::rs) 172,false,none⟩)∧Upd [c,cm] m m':=by
 obtain ⟨lc,lm,lp⟩:=hlt
 obtain ⟨ne1,ne2,ne3⟩:=hne
 have hr:RSl 0 zi m v (List.replicate n (qq 256)):=hv.rsl fun b _=>Nat.zero_le _
 have hget:(List.replicate n (qq 256))[0]? = some (qq 256):=by rw [List.getElem?_replicate,if_pos (by omega)]
 obtain ⟨pk,y1,y2⟩:=KT hr hget
 have y1:ql 1 v (.int .i64 0)=some pk:=y1
 have y2:=y2 m hr
 have hl:=qY hr
 rw [List.length_replicate] at hl
 have e1:((n:Int)≤0)=False:=eq_false (by omega)
 have lpg:qb (.pointer (some ⟨p,0+1,none⟩)) m=some v:=qu gp rfl
 have hread:Call S tab 148 [.pointer (some ⟨p,0,none⟩),.int .i64 0] m=some (.tuple #[str (qq 256),.int .i64 0],m):=by
  refine W_eq ?_
  have e0:((0:Int)<0)=False:=eq_false (by omega)
  rw [qjD]
  simp -implicitDefEqProofs only [st0,qc,reduceIte,Qd,e0,nck,fa,lpg,hl,e1,y1,y2]
  exact ⟨trivial,trivial⟩
 have d0:decide ((0:Int)=0)=true:=rfl
 have l0:qb (.pointer (some ⟨c,0+0,none⟩)) m=some (.pointer (some ⟨p,0,none⟩)):=qu gc rfl
 have l7:∀ {M:Mem} {a b:Value} {s t:Nat},M.get c=some (caB p cm a b s t)→qb (.pointer (some ⟨c,0+7,none⟩)) M=some (.map (some cm)):=fun g=>qu g rfl
 have l9:qb (.pointer (some ⟨c,0+9,none⟩)) m=some (.int .i64 0):=qu gc rfl
 have lk:zC .int (.pointer none) true (.map (some cm)) (.int .i64 0) m=some (.tuple #[.pointer none,.bool false]):=by
  have:m.xL cm=some ([],0):=by simp [Mem.xL,gm]
  simp only [zC,this,Option.bind_some]; rfl
 have e01:arith .add (.int .i64 0) (.int .i64 1)=some (.int .i64 1):=rfl
 have s9:qi 1 (.pointer (some ⟨c,0+9,none⟩)) (.int .i64 1) m=some (m.put c (caB p cm (.pointer (some ⟨c,0+2+0,none⟩)) (.pointer (some ⟨c,0+2+0,none⟩)) 0 1)):=zr gc (by simp) rfl rfl
 rw [C94]
 simp -implicitDefEqProofs only [st0,qc,reduceIte,Qd,nck,fa,l7 gc,lk,xt0,xt1,l0,hread,d0,l9,e01,s9,qgR,qgQ,qQ]
 have u1:Upd [c,cm] m (m.put c (caB p cm (.pointer (some ⟨c,0+2+0,none⟩)) (.pointer (some ⟨c,0+2+0,none⟩)) 0 1)):=Upd.put _ _ (by simp)
 have g1:(m.put c (caB p cm (.pointer (some ⟨c,0+2+0,none⟩)) (.pointer (some ⟨c,0+2+0,none⟩)) 0 1)).get c=_:=Mem.qj ..
 have k1:(m.put c (caB p cm (.pointer (some ⟨c,0+2+0,none⟩)) (.pointer (some ⟨c,0+2+0,none⟩)) 0 1)).get cm=_:=(Mem.qn m _ (fun e=>ne1 e.symm)).trans gm
 have n1:(m.put c (caB p cm (.pointer (some ⟨c,0+2+0,none⟩)) (.pointer (some ⟨c,0+2+0,none⟩)) 0 1)).next=m.next:=rfl
 generalize (m.put c (caB p cm (.pointer (some ⟨c,0+2+0,none⟩)) (.pointer (some ⟨c,0+2+0,none⟩)) 0 1))=m1 at u1 g1 k1 n1
 have eb:∀ a b:Value,(⟨.cells [a,b,.int .i64 0,str (qq 256)] 168,false,none⟩:ABlk)=⟨.cells [a,b,.int .i64 0,str (qq 256)] 168,false,none⟩:=fun _ _=>rfl
 have u2:Upd [] m1 (m1.add ⟨.cells [.pointer none,.pointer none,.int .i64 0,str (qq 256)] 168,false,none⟩):=Upd.add _ _ _
 have j2:(m1.add ⟨.cells [.pointer none,.pointer none,.int .i64 0,str (qq 256)] 168,false,none⟩).get m1.next=some ⟨.cells [.pointer none,.pointer none,.int .i64 0,str (qq 256)] 168,false,none⟩:=Mem.qk ..
 have n2:(m1.add ⟨.cells [.pointer none,.pointer none,.int .i64 0,str (qq 256)] 168,false,none⟩).next=m1.next+1:=rfl
 have g2:=qA u2 (by omega) g1
 have k2:=qA u2 (by omega) k1
 generalize (m1.add ⟨.cells [.pointer none,.pointer none,.int .i64 0,str (qq 256)] 168,false,none⟩)=m2 at u2 j2 n2 g2 k2
 have lkc:m1.next≠c:=by omega
 have lkm:m1.next≠cm:=by omega
 have hl1:qb (.pointer (some ⟨c,0+2+0+1,none⟩)) m2=some (.pointer (some ⟨c,0+2+0,none⟩)):=qu g2 rfl
 have t3:qi 1 (.pointer (some ⟨m1.next,0+0,none⟩)) (.pointer (some ⟨c,0+2+0,none⟩)) m2=some (m2.put m1.next ⟨.cells [.pointer (some ⟨c,0+2+0,none⟩),.pointer none,.int .i64 0,str (qq 256)] 168,false,none⟩):=zr j2 (by simp) rfl rfl
 rw [qjE]
 simp -implicitDefEqProofs only [st0,qc,reduceIte,nck,fa,qjm,hl1,t3]
 have j3:(m2.put m1.next ⟨.cells [.pointer (some ⟨c,0+2+0,none⟩),.pointer none,.int .i64 0,str (qq 256)] 168,false,none⟩).get m1.next=_:=Mem.qj ..
 have g3:(m2.put m1.next ⟨.cells [.pointer (some ⟨c,0+2+0,none⟩),.pointer none,.int .i64 0,str (qq 256)] 168,false,none⟩).get c=_:=(Mem.qn m2 _ (fun e=>lkc e.symm)).trans g2
 have k3:(m2.put m1.next ⟨.cells [.pointer (some ⟨c,0+2+0,none⟩),.pointer none,.int .i64 0,str (qq 256)] 168,false,none⟩).get cm=_:=(Mem.qn m2 _ (fun e=>lkm e.symm)).trans k2
 have u3:Upd [] m1 (m2.put m1.next ⟨.cells [.pointer (some ⟨c,0+2+0,none⟩),.pointer none,.int .i64 0,str (qq 256)] 168,false,none⟩):=u2.jL _ (.inr (Nat.le_refl _))
 generalize (m2.put m1.next ⟨.cells [.pointer (some ⟨c,0+2+0,none⟩),.pointer none,.int .i64 0,str (qq 256)] 168,false,none⟩)=m3 at j3 g3 k3 u3
 have t4:qi 1 (.pointer (some ⟨m1.next,0+1,none⟩)) (.pointer (some ⟨c,0+2+0,none⟩)) m3=some (m3.put m1.next ⟨.cells [.pointer (some ⟨c,0+2+0,none⟩),.pointer (some ⟨c,0+2+0,none⟩),.int .i64 0,str (qq 256)] 168,false,none⟩):=zr j3 (by simp) rfl rfl
 simp -implicitDefEqProofs only [st0,qc,reduceIte,t4]
 have j4:(m3.put m1.next ⟨.cells [.pointer (some ⟨c,0+2+0,none⟩),.pointer (some ⟨c,0+2+0,none⟩),.int .i64 0,str (qq 256)] 168,false,none⟩).get m1.next=_:=Mem.qj ..
 have g4:(m3.put m1.next ⟨.cells [.pointer (some ⟨c,0+2+0,none⟩),.pointer (some ⟨c,0+2+0,none⟩),.int .i64 0,str (qq 256)] 168,false,none⟩).get c=_:=(Mem.qn m3 _ (fun e=>lkc e.symm)).trans g3
 have k4:(m3.put m1.next ⟨.cells [.pointer (some ⟨c,0+2+0,none⟩),.pointer (some ⟨c,0+2+0,none⟩),.int .i64 0,str (qq 256)] 168,false,none⟩).get cm=_:=(Mem.qn m3 _ (fun e=>lkm e.symm)).trans k3
 have u4:Upd [] m1 (m3.put m1.next ⟨.cells [.pointer (some ⟨c,0+2+0,none⟩),.pointer (some ⟨c,0+2+0,none⟩),.int .i64 0,str (qq 256)] 168,false,none⟩):=u3.jL _ (.inr (Nat.le_refl _))
 generalize (m3.put m1.next ⟨.cells [.pointer (some ⟨c,0+2+0,none⟩),.pointer (some ⟨c,0+2+0,none⟩),.int .i64 0,str (qq 256)] 168,false,none⟩)=m4 at j4 g4 k4 u4
 have lj0:qb (.pointer (some ⟨m1.next,0+0,none⟩)) m4=some (.pointer (some ⟨c,0+2+0,none⟩)):=qu j4 rfl
 have lj1:qb (.pointer (some ⟨m1.next,0+1,none⟩)) m4=some (.pointer (some ⟨c,0+2+0,none⟩)):=qu j4 rfl
 have t5:qi 1 (.pointer (some ⟨c,0+2+0+1,none⟩)) (.pointer (some ⟨m1.next,0,none⟩)) m4=some (m4.put c (caB p cm (.pointer (some ⟨c,0+2+0,none⟩)) (.pointer (some ⟨m1.next,0,none⟩)) 0 1)):=zr g4 (by simp) rfl rfl
 simp -implicitDefEqProofs only [st0,qc,reduceIte,nck,fa,lj0,lj1,t5]
 have g5:(m4.put c (caB p cm (.pointer (some ⟨c,0+2+0,none⟩)) (.pointer (some ⟨m1.next,0,none⟩)) 0 1)).get c=_:=Mem.qj ..
 have k5:(m4.put c (caB p cm (.pointer (some ⟨c,0+2+0,none⟩)) (.pointer (some ⟨m1.next,0,none⟩)) 0 1)).get cm=_:=(Mem.qn m4 _ (fun e=>ne1 e.symm)).trans k4
 have j5:(m4.put c (caB p cm (.pointer (some ⟨c,0+2+0,none⟩)) (.pointer (some ⟨m1.next,0,none⟩)) 0 1)).get m1.next=_:=(Mem.qn m4 _ lkc).trans j4
 have u5:Upd [c,cm] m (m4.put c (caB p cm (.pointer (some ⟨c,0+2+0,none⟩)) (.pointer (some ⟨m1.next,0,none⟩)) 0 1)):=(u1.qD u4).jL _ (.inl (by simp))
 generalize (m4.put c (caB p cm (.pointer (some ⟨c,0+2+0,none⟩)) (.pointer (some ⟨m1.next,0,none⟩)) 0 1))=m5 at g5 k5 j5 u5
 have t6:qi 1 (.pointer (some ⟨c,0+2+0+0,none⟩)) (.pointer (some ⟨m1.next,0,none⟩)) m5=some (m5.put c (caB p cm (.pointer (some ⟨m1.next,0,none⟩)) (.pointer (some ⟨m1.next,0,none⟩)) 0 1)):=zr g5 (by simp) rfl rfl
 simp -implicitDefEqProofs only [st0,qc,reduceIte,nck,fa,t6]
 have g6:(m5.put c (caB p cm (.pointer (some ⟨m1.next,0,none⟩)) (.pointer (some ⟨m1.next,0,none⟩)) 0 1)).get c=_:=Mem.qj ..
 have k6:(m5.put c (caB p cm (.pointer (some ⟨m1.next,0,none⟩)) (.pointer (some ⟨m1.next,0,none⟩)) 0 1)).get cm=_:=(Mem.qn m5 _ (fun e=>ne1 e.symm)).trans k5
 have j6:(m5.put c (caB p cm (.pointer (some ⟨m1.next,0,none⟩)) (.pointer (some ⟨m1.next,0,none⟩)) 0 1)).get m1.next=_:=(Mem.qn m5 _ lkc).trans j5
 have u6:Upd [c,cm] m (m5.put c (caB p cm (.pointer (some ⟨m1.next,0,none⟩)) (.pointer (some ⟨m1.next,0,none⟩)) 0 1)):=u5.jL _ (.inl (by simp))
 generalize (m5.put c (caB p cm (.pointer (some ⟨m1.next,0,none⟩)) (.pointer (some ⟨m1.next,0,none⟩)) 0 1))=m6 at g6 k6 j6 u6
 have l4:qb (.pointer (some ⟨c,0+2+4,none⟩)) m6=some (.int .i64 0):=qu g6 rfl
 have t7:qi 1 (.pointer (some ⟨c,0+2+4,none⟩)) (.int .i64 1) m6=some (m6.put c (caB p cm (.pointer (some ⟨m1.next,0,none⟩)) (.pointer (some ⟨m1.next,0,none⟩)) 1 1)):=zr g6 (by simp) rfl rfl
 simp -implicitDefEqProofs only [st0,qc,reduceIte,nck,fa,l4,e01,t7]
 have g7:(m6.put c (caB p cm (.pointer (some ⟨m1.next,0,none⟩)) (.pointer (some ⟨m1.next,0,none⟩)) 1 1)).get c=_:=Mem.qj ..
 have k7:(m6.put c (caB p cm (.pointer (some ⟨m1.next,0,none⟩)) (.pointer (some ⟨m1.next,0,none⟩)) 1 1)).get cm=_:=(Mem.qn m6 _ (fun e=>ne1 e.symm)).trans k6
 have j7:(m6.put c (caB p cm (.pointer (some ⟨m1.next,0,none⟩)) (.pointer (some ⟨m1.next,0,none⟩)) 1 1)).get m1.next=_:=(Mem.qn m6 _ lkc).trans j6
 have u7:Upd [c,cm] m (m6.put c (caB p cm (.pointer (some ⟨m1.next,0,none⟩)) (.pointer (some ⟨m1.next,0,none⟩)) 1 1)):=u6.jL _ (.inl (by simp))
 generalize (m6.put c (caB p cm (.pointer (some ⟨m1.next,0,none⟩)) (.pointer (some ⟨m1.next,0,none⟩)) 1 1))=m7 at g7 k7 j7 u7
 have ln:qb (.pointer (some ⟨m1.next,0+2+0,none⟩)) m7=some (.int .i64 0):=qu j7 rfl
 have hmu:xc .int (.map (some cm)) (.int .i64 0) (.pointer (some ⟨m1.next,0,none⟩)) m7=some (m7.put cm ⟨.map [{ key:=.int .i64 0,val:=.pointer (some ⟨m1.next,0,none⟩),born:=0 }] 1,false,none⟩):=by
  have:m7.vg cm=some ([],0,none):=by simp [Mem.vg,k7]
  simp only [xc,this,Option.bind_some,XE,if_true]; rfl
 have g8:(m7.put cm ⟨.map [{ key:=.int .i64 0,val:=.pointer (some ⟨m1.next,0,none⟩),born:=0 }] 1,false,none⟩).get c=_:=(Mem.qn m7 _ ne1).trans g7
 have l8:qb (.pointer (some ⟨c,0+2+4,none⟩)) (m7.put cm ⟨.map [{ key:=.int .i64 0,val:=.pointer (some ⟨m1.next,0,none⟩),born:=0 }] 1,false,none⟩)=some (.int .i64 1):=qu g8 rfl
 have l81:qb (.pointer (some ⟨c,0+1,none⟩)) (m7.put cm ⟨.map [{ key:=.int .i64 0,val:=.pointer (some ⟨m1.next,0,none⟩),born:=0 }] 1,false,none⟩)=some (.int .i64 8):=qu g8 rfl
 have e18:((8:Int)<1)=False:=eq_false (by omega)
 simp -implicitDefEqProofs only [st0,qc,reduceIte,nck,fa,l7 g7,ln,hmu,l8,l81,e18]
 exact ⟨trivial,⟨_,g8⟩,u7.jL _ (.inl (by simp))⟩
theorem qgO (s:Bs) (b:Nat):qy [.int .u8 0,.int .u8 0,.int .u8 0,.int .u8 0,.int .u8 0,.int .u8 0,.int .u8 0,.int .u8 0,.int .u8 0,.int .u8 0,.int .u8 0,.int .u8 0,.int .u8 0,.int .u8 0,.int .u8 0,.int .u8 0,.int .u8 0,.int .u8 0,.int .u8 0,.int .u8 0,.string ⟨#[]⟩,.map none] [(20,1,str s),(21,1,.map (some b))]=some [.int .u8 0,.int .u8 0,.int .u8 0,.int .u8 0,.int .u8 0,.int .u8 0,.int .u8 0,.int .u8 0,.int .u8 0,.int .u8 0,.int .u8 0,.int .u8 0,.int .u8 0,.int .u8 0,.int .u8 0,.int .u8 0,.int .u8 0,.int .u8 0,.int .u8 0,.int .u8 0,str s,.map (some b)]:=by kernel_rfl
theorem qgN (c:Nat) (s:Bs) (b:Nat):qy [.pointer none,.int .u8 0,.int .u8 0,.int .u8 0,.int .u8 0,.int .u8 0,.int .u8 0,.int .u8 0,.int .u8 0,.int .u8 0,.int .u8 0,.int .u8 0,.int .u8 0,.int .u8 0,.int .u8 0,.int .u8 0,.int .u8 0,.int .u8 0,.int .u8 0,.int .u8 0,.int .u8 0,.string ⟨#[]⟩,.map none,.slice none 0 0,.bool false] [(0,1,.pointer (some ⟨c,0,none⟩)),(1,22,.agg [.int .u8 0,.int .u8 0,.int .u8 0,.int .u8 0,.int .u8 0,.int .u8 0,.int .u8 0,.int .u8 0,.int .u8 0,.int .u8 0,.int .u8 0,.int .u8 0,.int .u8 0,.int .u8 0,.int .u8 0,.int .u8 0,.int .u8 0,.int .u8 0,.int .u8 0,.int .u8 0,str s,.map (some b)].toArray)] =
  some [.pointer (some ⟨c,0,none⟩),.int .u8 0,.int .u8 0,.int .u8 0,.int .u8 0,.int .u8 0,.int .u8 0,.int .u8 0,.int .u8 0,.int .u8 0,.int .u8 0,.int .u8 0,.int .u8 0,.int .u8 0,.int .u8 0,.int .u8 0,.int .u8 0,.int .u8 0,.int .u8 0,.int .u8 0,.int .u8 0,str s,.map (some b),.slice none 0 0,.bool false]:=by kernel_rfl
abbrev kO (w pm c p P:Nat):Wo:=⟨w,pm,c,p,P,qq 20,qq 236,.slice none 0 0,[]⟩
theorem YX (w pm c p P:Nat):[.pointer (some ⟨c,0,none⟩),.int .u8 0,.int .u8 0,.int .u8 0,.int .u8 0,.int .u8 0,.int .u8 0,.int .u8 0,.int .u8 0,.int .u8 0,.int .u8 0,.int .u8 0,.int .u8 0,.int .u8 0,.int .u8 0,.int .u8 0,.int .u8 0,.int .u8 0,.int .u8 0,.int .u8 0,.int .u8 0,str (qq 236),.map (some pm),.slice none 0 0,.bool false]=(kO w pm c p P).cells:=by kernel_rfl
set_option maxRecDepth 4000 in
theorem qdy {c cm p d n:Nat} {v:Value} {m:Mem} (gc:m.get c=some (caB p cm (.pointer (some ⟨c,0+2+0,none⟩)) (.pointer (some ⟨c,0+2+0,none⟩)) 0 0)) (gm:m.get cm=some ⟨.map [] 0,false,none⟩) (gp:m.get p=some (pgB d v)) (hv:TAp zi 9 m v (List.replicate n (qq 256))) (hn:1≤n) (hn2:n≤160) (hlt:c<m.next∧cm<m.next∧p<m.next) (hne:c≠cm∧c≠p∧cm≠p) :
  W (Call S tab 40 [.pointer (some ⟨c,0,none⟩)] m) fun r m'=>∃ w pm,r=.tuple #[.pointer (some ⟨w,0,none⟩),.int .i64 0]∧WI (kO w pm c p n) [] m'∧m.next≤w∧m.next≤pm∧Upd [c,cm] m m':=by
 have d0:decide ((0:Int)=0)=true:=rfl
 have hs:zH (str (qq 256)) (some (.int .i64 20)) none=some (str (qq 236)):=wv (l:=qq 256) (a:=20) (by rw [xS]; omega) .i64
 rw [C40]
 simp -implicitDefEqProofs only [st0,qc,reduceIte,Qd]
 refine qo.2 ((qdu gc gm gp hv hn hlt hne).mono fun r1 m1 ⟨r1e,⟨rs,gc1⟩,u1⟩=>?_)
 subst r1e
 have x1:=u1.next
 obtain ⟨lc,lm,lp⟩:=hlt
 obtain ⟨ne1,ne2,ne3⟩:=hne
 have gp1:m1.get p=_:=(u1.same p lp (by simp; omega)).trans gp
 simp -implicitDefEqProofs only [st0,qc,reduceIte,xt0,xt1,d0,hs,zI,qgO,qgN,qQ,YX m1.next m1.next c p n]
 have u2:Upd [] m1 (m1.add ⟨.map [] 0,false,none⟩):=Upd.add _ _ _
 have g2:(m1.add ⟨.map [] 0,false,none⟩).get m1.next=some ⟨.map [] 0,false,none⟩:=Mem.qk ..
 have n2:(m1.add ⟨.map [] 0,false,none⟩).next=m1.next+1:=rfl
 have gc2:=qA u2 (by omega) gc1
 have gp2:=qA u2 (by omega) gp1
 generalize (m1.add ⟨.map [] 0,false,none⟩)=m2 at u2 g2 n2 gc2 gp2
 have u3:Upd [] m2 (m2.add ⟨.cells (kO m1.next m1.next c p n).cells 107,false,none⟩):=Upd.add _ _ _
 have g3:(m2.add ⟨.cells (kO m1.next m1.next c p n).cells 107,false,none⟩).get m2.next=some ⟨.cells (kO m1.next m1.next c p n).cells 107,false,none⟩:=Mem.qk ..
 have n3:(m2.add ⟨.cells (kO m1.next m1.next c p n).cells 107,false,none⟩).next=m2.next+1:=rfl
 have k3:=qA u3 (by omega) g2
 have gc3:=qA u3 (by omega) gc2
 have gp3:=qA u3 (by omega) gp2
 generalize (m2.add ⟨.cells (kO m1.next m1.next c p n).cells 107,false,none⟩)=m3 at u3 g3 n3 k3 gc3 gp3
 have hcp:kM 1 (.slice (some ⟨m2.next,0+1+0,none⟩) 20 20) 256 (xZ.flat (qq 256)) m3=some (.int .i64 20,m3.put m2.next ⟨.cells (kO m1.next m1.next c p n).cells 107,false,none⟩):=by
  have how:m3.jt m2.next=some ((kO m1.next m1.next c p n).cells,107,none):=by simp [Mem.jt,g3]
  have hlen:(kO m1.next m1.next c p n).cells.length=25:=Wo.len (xS 20)
  have hfl:(xZ.flat (qq 256)).length=256:=by rw [Enc.zf,xS]; rfl
  have hmin:Nat.min 256 20=20:=rfl
  have hset:qP (kO m1.next m1.next c p n).cells (0+1+0) ((xZ.flat (qq 256)).take (20 * 1))=(kO m1.next m1.next c p n).cells:=by kernel_rfl
  simp only [kM,hmin,how,Option.bind_some]
  rw [if_neg (by omega),if_pos ⟨by rw [hlen]; omega,by omega,by rw [hfl],Enc.vN ..⟩,hset]
  rfl
 simp -implicitDefEqProofs only [st0,qc,reduceIte,nck,fa,slA g3,HH,xS,hcp]
 have u4:Upd [m2.next] m3 (m3.put m2.next ⟨.cells (kO m1.next m1.next c p n).cells 107,false,none⟩):=Upd.put _ _ (by simp)
 have g4:(m3.put m2.next ⟨.cells (kO m1.next m1.next c p n).cells 107,false,none⟩).get m2.next=some ⟨.cells (kO m2.next m1.next c p n).cells 107,false,none⟩:=Mem.qj ..
 have n4:(m3.put m2.next ⟨.cells (kO m1.next m1.next c p n).cells 107,false,none⟩).next=m3.next:=rfl
 have k4:=(u4.same m1.next (by omega) (by simp; omega)).trans k3
 have gc4:=(u4.same c (by omega) (by simp; omega)).trans gc3
 have gp4:=(u4.same p (by omega) (by simp; omega)).trans gp3
 have hbit:∀ k,xQ (qq 20) k=false:=fun k=>by
  unfold xQ
  rw [List.getD_eq_getElem?_getD,qq,List.getElem?_replicate]
  split<;>simp
 have hvf:∃ a cap,v=.slice a n cap:=by
  rcases hv with ⟨_,h0⟩|⟨b,cap,rest,lo,hv,_⟩
  ·have:=congrArg List.length h0; simp at this; omega
  ·exact ⟨_,cap,by rw [hv,List.length_replicate]⟩
 obtain ⟨a,cap,rfl⟩:=hvf
 refine ⟨m2.next,m1.next,rfl,⟨⟨g4,xS 20,⟨0,none,k4⟩,⟨rs,_,_,_,gc4⟩,⟨_,a,cap,_,_,_,_,gp4⟩,hn2,by show m2.next<_; omega,by show m1.next<_; omega,by show c<_; omega,by show p<_; omega,⟨by show m2.next≠m1.next; omega,by show m2.next≠c; omega,by show m2.next≠p; omega,by show m1.next≠c; omega,by show m1.next≠p; omega⟩⟩,TAp.nil _,fun b hb=>by simp [qe] at hb,fun k=>?_⟩,by omega,by omega,((u1.qD u2).qD u3).then' u4 fun b hb=>.inr (by simp at hb; omega)⟩
 simp [Wo.s,Wo.has,hbit]
theorem Wy {n:Nat} (hn1:1≤n) (hn:n≤160) (m:Mem):W (Call S tab 16 [.int .i64 (n:Int)] m) fun r m'=>∃ w pm c p,r=.pointer (some ⟨w,0,none⟩)∧WI (kO w pm c p n) [] m'∧(m.next≤w∧m.next≤pm∧m.next≤c∧m.next≤p)∧Upd [] m m':=by
 have d0:decide ((0:Int)=0)=true:=rfl
 rw [C16]
 simp -implicitDefEqProofs only [st0,qc,reduceIte,HS n (by omega)]
 refine qo.2 ((qeY n hn m).mono fun r1 m1 ⟨d,sb,um,r1e,hdv,hd1,u1⟩=>?_)
 subst r1e
 have x1:=u1.next
 refine qo.2 ((qcz hn1 hn hdv).mono fun r2 m2 ⟨p,v,r2e,gp,lp,hv,hp1,u2⟩=>?_)
 subst r2e
 have x2:=u2.next
 simp -implicitDefEqProofs only [st0,qc,reduceIte,xt0,xt1,d0]
 refine qo.2 ((qfa p m2).mono fun r3 m3 ⟨c,cm,r3e,gc,gm,lc,lm,hcm,hc1,hc2,u3⟩=>?_)
 subst r3e
 have x3:=u3.next
 have gp3:=qA u3 lp gp
 refine qo.2 ((qdy gc gm gp3 (hv.qt u3) hn1 hn ⟨lc,lm,by omega⟩ ⟨hcm,by omega,by omega⟩).mono fun r4 m4 ⟨w,pm,r4e,hwi,hw1,hw2,u4⟩=>?_)
 subst r4e
 simp -implicitDefEqProofs only [st0,qc,reduceIte,xt0,xt1,d0]
 exact ⟨w,pm,c,p,rfl,hwi,⟨by omega,by omega,by omega,by omega⟩,((u1.qD u2).qD u3).then' u4 fun b hb=>.inr (by simp at hb; omega)⟩
end Go.Fx.Tryz
