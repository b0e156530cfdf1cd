/- Parts of a proof: TreeLa, TreeLb, TreeLc, TreeLo, TreeLp. Conditions: none. -/
import Derived.Test.YtnngjdfadfblmaaGreatDoorQd25
set_option linter.unusedSimpArgs false
set_option linter.unusedVariables false
namespace Go.Fx.Tryz
open Go Go.Fx
theorem qdw (w:Nat):qz [.pointer none,.int .i64 0,.slice none 0 0] [(0,1,.pointer (some ⟨w,0,none⟩))]=some [.pointer (some ⟨w,0,none⟩),.int .i64 0,.slice none 0 0]:=by kernel_rfl
theorem qjc (k:Nat):xV (qs 20) k=false:=by
 unfold xV
 rw [List.getD_eq_getElem?_getD,qs,List.getElem?_replicate]
 split<;>simp
set_option maxRecDepth 4000 in
theorem wJ (m:Mem):W (Call S tab 11 [] m) fun r m'=>r=.bool true∧Upd [] m m':=by
 have d0:decide ((0:Int)=0)=true:=rfl
 rw [C11]
 refine qn.2 ((XX (n:=4) (by omega) (by omega) m).mono fun r1 m1 ⟨w,pm,c,p,r1e,wi1,hfr,u1⟩=>?_)
 subst r1e
 have s97:(Value.string ⟨#[97]⟩)=str [97]:=rfl
 have s98:(Value.string ⟨#[98]⟩)=str [98]:=rfl
 have s49:(Value.string ⟨#[49]⟩)=str [49]:=rfl
 have s50:(Value.string ⟨#[50]⟩)=str [50]:=rfl
 simp -implicitDefEqProofs only [st0,qc,reduceIte,yT,s97,s98,s49,s50]
 have nf:∀ {b:Nat},b∈(vt w pm c p 4).xM→m.next≤b:=fun hb=>by
  simp only [Wo.xM,List.mem_cons,qg,List.not_mem_nil,or_false] at hb
  rcases hb with rfl|rfl
  ·exact hfr.1
  ·exact hfr.2.1
 have k1:Kv [97] [49]:=by decide
 have k2:Kv [98] [50]:=by decide
 refine qn.2 ((Kw wi1 (by simp) (root:=0) (.inl ⟨rfl,rfl,rfl⟩) List.nodup_nil [97] [49]).mono fun r2 m2 ⟨o2,ns2,wi2,nx2,hl2,hc⟩=>?_)
 rcases hc with ⟨h1,_⟩|⟨_,h2,_⟩|⟨_,root2,U2,rfl,t2,st2,nd2⟩
 ·exact absurd k1 h1
 ·rcases h2 with ⟨_,h2⟩|⟨h2,_⟩
  ·have:=h2 1 (by omega) (by show 1<4; omega)
   rw [show (vt w pm c p 4).u=qs 20 from rfl,qjc] at this; cases this
  ·exact absurd rfl h2
 have e2:xT [] [97] [49]=[([97],[49])]:=rfl
 rw [e2] at t2
 have ew2:o2.w=w:=nx2.w
 simp -implicitDefEqProofs only [st0,qc,reduceIte,xt0,xt1]
 have q3:=Kw wi2 (by simp at hl2; omega) t2 nd2 [98] [50]
 rw [ew2] at q3
 refine qn.2 (q3.mono fun r3 m3 ⟨o3,ns3,wi3,nx3,hl3,hc⟩=>?_)
 have e3:xT [([97],[49])] [98] [50]=[([97],[49]),([98],[50])]:=by kernel_rfl
 rw [e3] at hc
 have hr2:root2≠0:=by
  rcases t2 with ⟨_,h,_⟩|⟨g,h⟩
  ·cases h
  ·have:=vL h; omega
 rcases hc with ⟨h1,_⟩|⟨_,h2,_⟩|⟨_,root3,U3,rfl,t3,st3,nd3⟩
 ·exact absurd k2 h1
 ·rcases h2 with ⟨h2,_⟩|⟨_,h2⟩
  ·exact absurd h2 hr2
  ·simp at h2
 have ew3:o3.w=w:=nx3.w.trans ew2
 simp -implicitDefEqProofs only [st0,qc,reduceIte,xt0,xt1]
 have q4:=yJ wi3 (by simp at hl2; omega) t3 nd3 [97]
 rw [ew3] at q4
 refine qn.2 (q4.mono fun r4 m4 ⟨o4,ns4,wi4,nx4,hl4,hc⟩=>?_)
 have e4:zm [([97],[49]),([98],[50])] [97]=true:=by kernel_rfl
 have e4':xw [([97],[49]),([98],[50])] [97]=[([98],[50])]:=by kernel_rfl
 rw [e4,e4'] at hc
 rcases hc with ⟨h1,_⟩|⟨_,h2,_⟩|⟨_,root4,U4,rfl,t4,st4,nd4⟩
 ·cases h1
 ·simp at h2
 have ew4:o4.w=w:=nx4.w.trans ew3
 simp -implicitDefEqProofs only [st0,qc,reduceIte,(ex3 _ _ _).1,(ex3 _ _ _).2.1,(ex3 _ _ _).2.2]
 have q5:=Hl wi4.wr t4 nd4 [98]
 rw [ew4] at q5
 have e5:zm [([98],[50])] [98]=true:=by kernel_rfl
 have e5':QN [([98],[50])] [98]=[50]:=by kernel_rfl
 rw [e5,e5'] at q5
 refine qn.2 (q5.mono fun r5 m5 ⟨r5e,u5⟩=>?_)
 subst r5e
 simp -implicitDefEqProofs only [st0,qc,reduceIte,(ex3 _ _ _).1,(ex3 _ _ _).2.1,(ex3 _ _ _).2.2]
 have q6:=Xu (wi4.qt u5).wr t4 nd4
 rw [ew4] at q6
 refine qn.2 (q6.mono fun r6 m6 ⟨dep,r6e,u6,hdep⟩=>?_)
 subst r6e
 have hdu:dep=1∧U4.length=1:=by
  rcases hdep with ⟨_,h,_⟩|⟨h1,h2,h3,h4,h5⟩
  ·cases h
  ·simp at h3 h4
   refine ⟨?_,by omega⟩
   rcases Nat.lt_or_ge dep 2 with h|h
   ·omega
   ·have:2 ^ 1≤2 ^ (dep - 1):=Nat.pow_le_pow_right (by omega) (by omega)
    omega
 obtain ⟨rfl,hU⟩:=hdu
 rw [hU]
 have es:arith .eql (str [50]) (str [50])=some (.bool true):=(kr [50] [50]).trans (by simp)
 have d1:decide ((((1:Nat):Int))=1)=true:=rfl
 simp -implicitDefEqProofs only [st0,qc,reduceIte,(ex3 _ _ _).1,(ex3 _ _ _).2.1,(ex3 _ _ _).2.2,d0,d1,es]
 have nx:=(nx2.trans nx3).trans nx4
 exact ⟨trivial,((u1.then' nx.upd fun b hb=>.inr (nf hb)).qE u5).qE u6⟩
structure Opp where
 key:Bs
 val:Bs
 gone:Bool
def vU:Enc Opp:=⟨3,fun o=>[str o.key,str o.val,.bool o.gone],fun _=>rfl,fun _=>rfl⟩
theorem qcb:vU.size=3:=rfl
theorem vi (n:Int) (m:Mem):∃ P:Nat,1≤P∧P≤160∧Call S tab 13 [.int .i64 n] m=some (.int .i64 (P:Int),m):=by
 have h0:0≤n % (2 ^ 64:Int)∧n % (2 ^ 64:Int)<2 ^ 64:=⟨Int.emod_nonneg _ (by decide),Int.emod_lt_of_pos _ (by decide)⟩
 have e1:zs .u64 (.int .i64 n)=some (.int .u64 (n % (2 ^ 64:Int))):=rfl
 generalize n % (2 ^ 64:Int)=x at h0 e1
 have e2:arith .rem (.int .u64 x) (.int .u64 160)=some (.int .u64 (x % 160)):=by
  have h:x.tmod 160=x % 160:=by rw [Int.tmod_eq_emod_of_nonneg h0.1]
  have z:¬ ((160:Int)=0):=by omega
  simp only [arith,iop,if_true,if_neg z,h]
 have e3:zs .i64 (.int .u64 (x % 160))=some (.int .i64 (x % 160)):=QE .u64 (by omega) (by omega)
 have e4:arith .add (.int .i64 1) (.int .i64 (x % 160))=some (.int .i64 (1+x % 160)):=Vl (by omega) (by omega)
 refine ⟨1+(x % 160).toNat,by omega,by omega,W_eq ?_⟩
 rw [C13]
 have e5:((1+(x % 160).toNat:Nat):Int)=1+x % 160:=by omega
 simp -implicitDefEqProofs only [st0,qc,reduceIte,e1,e2,e3,e4,e5]
 exact ⟨trivial,trivial⟩
theorem wS {m0:Mem} {s:Value} {ops:List Opp} (h:TSl vU m0 s ops):∃ s',(∀ m,Call S tab 14 [s] m=some (s',m))∧TSl vU m0 s' (ops.take 250)∧qg s'=qg s:=by
 by_cases hc:(250:Int)<(ops.length:Int)
 ·obtain ⟨s',h1,h2,h3⟩:=h.VV (k:=250) (by omega)
  refine ⟨s',fun m=>W_eq ?_,h2,h3⟩
  rw [C14]
  have hl:=h.len
  have h1:qA 3 s none (some (.int .i64 250)) m=some s':=h1 m
  have e1:((250:Int)<(ops.length:Int))=True:=eq_true hc
  simp -implicitDefEqProofs only [st0,qc,reduceIte,hl,e1,h1]
  exact ⟨trivial,trivial⟩
 ·obtain ⟨s',h1,h2,h3⟩:=h.VV (k:=ops.length) (Nat.le_refl _)
  rw [List.take_of_length_le (Nat.le_refl _)] at h2
  refine ⟨s',fun m=>W_eq ?_,by rw [List.take_of_length_le (by omega)]; exact h2,h3⟩
  rw [C14]
  have hl:=h.len
  have h1:qA 3 s none (some (.int .i64 (ops.length:Int))) m=some s':=h1 m
  have e1:((250:Int)<(ops.length:Int))=False:=eq_false hc
  simp -implicitDefEqProofs only [st0,qc,reduceIte,hl,e1,h1]
  exact ⟨trivial,trivial⟩
def Own (o:Wo) (U:List Nat):Prop:=∀ k,o.s k≠none→k∈U
theorem Own.step {o o':Wo} {U U':List Nat} (h:Own o U) (hs:Stp o.s o'.s U U'):Own o' U':=fun k hk=>by
 by_cases h1:k∈U'
 ·exact h1
 ·by_cases h2:k∈U
  ·exact absurd (hs.gone k h2 h1) hk
  ·rw [hs.out k h2 h1] at hk; exact absurd (h k hk) h2
theorem Own.used {o:Wo} {U:List Nat} (h:Own o U) (hf:Fu o) (hnd:U.Nodup) (hu:∀ q∈U,o.s q≠none):o.used=1+U.length :=
 qev hnd fun k=>⟨fun hk=>h k (by
  have:=hf k
  rw [hk] at this
  intro e; rw [e] at this; cases this),fun hk=>Fu.some (hu k hk)⟩
structure Lw (m0:Mem) (pb:Nat) (o:Wo) (ns:List St) (root:Nat) (v:Value) (l:List Pr) (U:List Nat) (m:Mem):Prop where
 q:PQ pb o ns root v l U m
 pb0:m0.next≤pb
 ft:∀ b∈o.xM,m0.next≤b
 v0:∀ b∈qg v,m0.next≤b
 up:Upd [] m0 m
theorem StQ.lw {m0:Mem} {pb:Nat} {o:Wo} {ns:List St} {root:Nat} {v:Value} {l:List Pr} {U:List Nat} {m:Mem} (h:Lw m0 pb o ns root v l U m) {r:Value} {m':Mem} (hq:StQ pb o ns v U m r m') :
  r=.bool true∧∃ o' ns' root' v' l' U',Lw m0 pb o' ns' root' v' l' U' m'∧ns'.length≤ns.length+1∧Gs pb o o' m m'∧Stp o.s o'.s U U':=by
 obtain ⟨e,o',ns',root',v',l',U',a1,a2,a3,a4,a5⟩:=hq
 have hn:=h.up.next
 refine ⟨e,o',ns',root',v',l',U',⟨a1,h.pb0,fun b hb=>(a3.grow b hb).elim (h.ft b) (fun h=>by omega),fun b hb=>(a5 b hb).elim (h.v0 b) (fun h=>by omega),h.up.then' a3.upd fun b hb=>.inr ?_⟩,a2,a3,a4⟩
 rcases List.mem_cons.1 hb with rfl|hb
 ·exact h.pb0
 ·exact h.ft b hb
theorem Lw.fresh {m0 m1:Mem} {w pm c p P:Nat} (wi:WI (vt w pm c p P) [] m1) (hfr:m0.next≤w∧m0.next≤pm∧m0.next≤c∧m0.next≤p) (u1:Upd [] m0 m1):Lw m0 m1.next (vt w pm c p P) [] 0 (.slice none 0 0) [] [] (m1.add (plB (.pointer (some ⟨w,0,none⟩)) 0 (.slice none 0 0))):=by
 have u2:Upd [] m1 (m1.add (plB (.pointer (some ⟨w,0,none⟩)) 0 (.slice none 0 0))):=Upd.add _ _ _
 have lc:=wi.wr.lc; have lp:=wi.wr.lp
 have lc:c<m1.next:=lc
 have lp:p<m1.next:=lp
 refine ⟨⟨wi.qt u2,⟨Mem.qk ..,TAp.nil _,by show m1.next<m1.next+1; omega,by simp [qg]⟩,.inl ⟨rfl,rfl,rfl⟩,List.nodup_nil,⟨fun hm=>by have:=wi.lt _ hm; omega,by show m1.next≠c; omega,by show m1.next≠p; omega⟩,fun b hb=>by simp [qg] at hb⟩,u1.next,fun b hb=>?_,fun b hb=>by simp [qg] at hb,u1.qE u2⟩
 simp only [Wo.xM,List.mem_cons,qg,List.not_mem_nil,or_false] at hb
 rcases hb with rfl|rfl
 ·exact hfr.1
 ·exact hfr.2.1
theorem qhO (w pm c p P:Nat):Own (vt w pm c p P) []:=fun k hk=>by
 apply absurd _ hk
 unfold Wo.s Wo.has
 simp [qjc]
theorem qhQ {m:Mem} {s:Value} {ops:List Opp} (h:TSl vU m s ops) {i:Nat} (hi:i<ops.length):∃ p,ql 3 s (.int .i64 (i:Int))=some p∧∀ M,TSl vU M s ops→qm 3 p M=some (opV ops[i].key ops[i].val ops[i].gone):=by
 obtain ⟨b,off,h1,h2⟩:=h.at .i64 (xS hi)
 rw [qcb] at h1 h2
 exact ⟨_,h1,fun M hM=>(h2 M hM).1⟩
theorem WD {m0:Mem} {s:Value} {ops:List Opp} (h:TSl vU m0 s ops) (hs:∀ b∈qg s,b<m0.next) (hl:ops.length≤250) {pb:Nat}:∀ (n i:Nat) (o:Wo) (ns:List St) (root:Nat) (v:Value) (l:List Pr) (U:List Nat) (m:Mem),ops.length - i=n→i≤ops.length→Lw m0 pb o ns root v l U m→ns.length≤i→Own o U→1≤o.P →
  W (qaP s (.pointer (some ⟨pb,0,none⟩)) (.int .i64 (i:Int)) m) fun r m'=>r=.tuple #[.pointer (some ⟨pb,0,none⟩),.bool true]∧∃ o' ns' root' v' l' U',Lw m0 pb o' ns' root' v' l' U' m'∧ns'.length≤250∧Own o' U'∧1≤o'.P:=by
 intro n
 induction n with
 | zero =>
  intro i o ns root v l U m hd hi hq hns ho hoP
  obtain rfl:i=ops.length:=by omega
  have hsm:TSl vU m s ops:=h.upd hq.up fun b hb=>⟨hs b hb,by simp⟩
  have hl':=hsm.len
  rw [P12_0_eq]
  simp -implicitDefEqProofs only [st0,qc,reduceIte,hl',Int.lt_irrefl]
  exact ⟨trivial,o,ns,root,v,l,U,hq,by omega,ho,hoP⟩
 | succ n ih =>
  intro i o ns root v l U m hd hi hq hns ho hoP
  have hlt:i<ops.length:=by omega
  have hsm:TSl vU m s ops:=h.upd hq.up fun b hb=>⟨hs b hb,by simp⟩
  have hl':=hsm.len
  have e1:((i:Int)<(ops.length:Int))=True:=eq_true (by omega)
  obtain ⟨p,y1,y2⟩:=qhQ hsm hlt
  rw [P12_0_eq]
  simp -implicitDefEqProofs only [st0,qc,reduceIte,hl',e1,y1,y2 m hsm]
  refine qn.2 ((step_ok hq.q (by omega) ops[i].key ops[i].val ops[i].gone).mono fun r m' hst=>?_)
  obtain ⟨rfl,o',ns',root',v',l',U',a1,a2,a3,a4⟩:=StQ.lw hq hst
  simp -implicitDefEqProofs only [st0,qc,reduceIte,qD (i:=i) (by omega)]
  exact ih (i+1) o' ns' root' v' l' U' m' (by omega) hlt a1 (by omega) (ho.step a4) (by rw [a3.P]; exact hoP)
theorem yg {m0:Mem} {s:Value} {ops:List Opp} (h:TSl vU m0 s ops) (hs:∀ b∈qg s,b<m0.next) (hl:ops.length≤250) {P:Nat} (hP1:1≤P) (hP:P≤160) :
  W (Call S tab 12 [.int .i64 (P:Int),s] m0) fun r m'=>∃ pb,r=.tuple #[.pointer (some ⟨pb,0,none⟩),.bool true]∧∃ o' ns' root' v' l' U',Lw m0 pb o' ns' root' v' l' U' m'∧ns'.length≤250∧Own o' U'∧1≤o'.P:=by
 rw [C12]
 refine qn.2 ((XX hP1 hP m0).mono fun r1 m1 ⟨w,pm,c,p,r1e,wi1,hfr,u1⟩=>?_)
 subst r1e
 have hw:=Lw.fresh wi1 hfr u1
 have eblk:(⟨.cells [.pointer (some ⟨w,0,none⟩),.int .i64 0,.slice none 0 0] 36,false,none⟩:ABlk)=plB (.pointer (some ⟨w,0,none⟩)) 0 (.slice none 0 0):=rfl
 have lw:qb (.pointer (some ⟨m1.next,0+0,none⟩)) (m1.add (plB (.pointer (some ⟨w,0,none⟩)) 0 (.slice none 0 0)))=some (.pointer (some ⟨w,0,none⟩)):=qu hw.q.pl.g rfl
 simp -implicitDefEqProofs only [st0,qc,reduceIte,qdw,qR,nck,fa]
 rw [eblk]
 simp -implicitDefEqProofs only [st0,qc,reduceIte,lw,yT]
 exact (WD h hs hl _ 0 _ _ _ _ _ _ _ rfl (Nat.zero_le _) hw (by simp) (qhO w pm c p P) hP1).mono fun r m' ⟨a,b⟩=>⟨_,a,b⟩
end Go.Fx.Tryz
namespace Go.Fx.Tryz
open Go Go.Fx
theorem qgX:(Value.string ⟨#[]⟩)=str []:=rfl
theorem xE {pb root:Nat} {a v:Value} {M:Mem} (g:M.get pb=some (plB a root v)):qb (.pointer (some ⟨pb,0+0,none⟩)) M=some a∧qb (.pointer (some ⟨pb,0+1,none⟩)) M=some (.int .i64 (root:Int))∧qb (.pointer (some ⟨pb,0+2+0,none⟩)) M=some v:=⟨qu g rfl,qu g rfl,qu g rfl⟩
theorem JM (l:List Pr):zj l [] []=l:=by
 unfold zj
 refine filter_all fun x hx=>?_
 have:ltB x.1 []=false:=(Zc x.1).1
 simp [inF,this]
theorem qbp (l:List Pr) (hr:qH (l.map (·.1))=true) (k:Bs) (hk:k≠[]):zj l [] k++zj l k []=l:=by
 obtain ⟨A,B,C,rfl,a,b,c⟩:=yd k l hr
 have n0:∀ x:Bs,ltB x []=false:=fun x=>(Zc x).1
 have h1:zj A [] k=A:=filter_all fun x hx=>by simp [inF,n0,a x hx]
 have h2:zj A k []=[]:=jr fun x hx=>by simp [inF,a x hx]
 have h3:zj C [] k=[]:=jr fun x hx=>by simp [inF,n0,zL (b x hx),hk]
 have h4:zj C k []=C:=filter_all fun x hx=>by simp [inF,zL (b x hx)]
 have h5:zj B [] k=[]∧zj B k []=B:=by
  rcases c with rfl|⟨v,rfl⟩
  ·exact ⟨rfl,rfl⟩
  ·exact ⟨jr fun x hx=>by simp at hx; subst hx; simp [inF,n0,ko,hk],filter_all fun x hx=>by simp at hx; subst hx; simp [inF,ko]⟩
 simp only [yf,h1,h2,h3,h4,h5.1,h5.2,List.append_nil,List.nil_append]
theorem PL.qt {pb root:Nat} {a v:Value} {l:List Pr} {m m':Mem} (h:PL pb a root v l m) (hu:Upd [] m m'):PL pb a root v l m':=h.zE hu (by simp) (fun _ _=>by simp)
theorem TSl.up {α:Type} {E:Enc α} {m m':Mem} {v:Value} {l:List α} (h:TSl E m v l) (hu:Upd [] m m') (hb:∀ b∈qg v,b<m.next):TSl E m' v l:=h.upd hu fun b hb'=>⟨hb b hb',by simp⟩
theorem qjb:∀ b:Bool,xL false (.bool b) (.bool b)=some (.bool true):=fun b=>by cases b<;>rfl
theorem playsLaw {m:Mem} {s:Value} {ops:List Opp} (n:Int) (h:TSl vU m s ops) (hs:∀ b∈qg s,b<m.next) (key:Bs):W (Call S tab 5 [.int .i64 n,s,str key] m) fun r _=>r=.bool true:=by
 have d0:decide ((0:Int)=0)=true:=rfl
 rw [C5]
 refine qn.2 ((wJ m).mono fun r1 m1 ⟨r1e,u1⟩=>?_)
 subst r1e
 obtain ⟨P,hP1,hP2,hpg⟩:=vi n m1
 have h1:=TSl.up h u1 hs
 obtain ⟨s',he1,he2,he3⟩:=wS h1
 have hs1:∀ b∈qg s',b<m1.next:=fun b hb=>by have:=hs b (by rw [← he3]; exact hb); have:=u1.next; omega
 simp -implicitDefEqProofs only [st0,qc,reduceIte,hpg,he1]
 refine qn.2 ((yg he2 hs1 (by rw [List.length_take]; omega) hP1 hP2).mono fun r2 m2 ⟨pb,r2e,o,ns,root,v,l,U,hq,hns,ho,_⟩=>?_)
 subst r2e
 have pq:=hq.q
 have hrow:=pq.tr.row
 have hfew:=pq.tr.few pq.wi.wr.hP pq.nd
 obtain ⟨l0,l1,l2⟩:=xE pq.pl.g
 simp -implicitDefEqProofs only [st0,qc,reduceIte,xt0,xt1,nck,fa,l0,l1]
 refine qn.2 ((Hl pq.wi.wr pq.tr pq.nd key).mono fun r3 m3 ⟨r3e,u3⟩=>?_)
 subst r3e
 have pl3:=pq.pl.qt u3
 have wi3:=pq.wi.qt u3
 obtain ⟨k0,k1,k2⟩:=xE pl3.g
 simp -implicitDefEqProofs only [st0,qc,reduceIte,(ex3 _ _ _).1,(ex3 _ _ _).2.1,(ex3 _ _ _).2.2,nck,fa,qeI (key:=key) hrow hfew pl3.g pl3.rs,xt0,xt1,k0,k1,qgX]
 refine qn.2 ((Qf wi3.wr pq.tr pq.nd [] []).mono fun r4 m4 ⟨w,r4e,tw,wb,u4⟩=>?_)
 subst r4e
 rw [JM] at tw
 have pl4:=pl3.qt u4
 obtain ⟨j0,j1,j2⟩:=xE pl4.g
 have hsame:=KS (lo:=0) (by omega) (tw.rsl fun b _=>Nat.zero_le _) pl4.rs
 have hev:arith .eql (str (QN l key)) (str (QN l key))=some (.bool true):=(kr _ _).trans (by simp)
 simp -implicitDefEqProofs only [st0,qc,reduceIte,xt0,xt1,hev,qjb,d0,nck,fa,j2,hsame]
theorem deepLaw {m:Mem} {s:Value} {ops:List Opp} (n:Int) (h:TSl vU m s ops) (hs:∀ b∈qg s,b<m.next):W (Call S tab 3 [.int .i64 n,s] m) fun r _=>r=.bool true:=by
 have d0:decide ((0:Int)=0)=true:=rfl
 rw [C3]
 refine qn.2 ((wJ m).mono fun r1 m1 ⟨r1e,u1⟩=>?_)
 subst r1e
 obtain ⟨P,hP1,hP2,hpg⟩:=vi n m1
 have h1:=TSl.up h u1 hs
 obtain ⟨s',he1,he2,he3⟩:=wS h1
 have hs1:∀ b∈qg s',b<m1.next:=fun b hb=>by have:=hs b (by rw [← he3]; exact hb); have:=u1.next; omega
 simp -implicitDefEqProofs only [st0,qc,reduceIte,hpg,he1]
 refine qn.2 ((yg he2 hs1 (by rw [List.length_take]; omega) hP1 hP2).mono fun r2 m2 ⟨pb,r2e,o,ns,root,v,l,U,hq,hns,ho,_⟩=>?_)
 subst r2e
 have pq:=hq.q
 have hfew:=pq.tr.few pq.wi.wr.hP pq.nd
 obtain ⟨l0,l1,l2⟩:=xE pq.pl.g
 simp -implicitDefEqProofs only [st0,qc,reduceIte,xt0,xt1,nck,fa,l0,l1]
 refine qn.2 ((Xu pq.wi.wr pq.tr pq.nd).mono fun r3 m3 ⟨dep,r3e,u3,hdep⟩=>?_)
 subst r3e
 have pl3:=pq.pl.qt u3
 obtain ⟨k0,k1,k2⟩:=xE pl3.g
 have hlen:=qS pl3.rs
 have e1:xL true (.bool true) (.bool true)=some (.bool false):=rfl
 have e2:xL true (.bool false) (.bool false)=some (.bool false):=rfl
 rcases hdep with ⟨rfl,rfl,rfl⟩|⟨c1,c2,c3,c4,c5⟩
 ·have f1:((1:Int) > (([]:List Pr).length:Int))=True:=eq_true (by simp)
  have f2:arith .mul (.int .i64 2) (.int .i64 1)=some (.int .i64 2):=rfl
  have f3:((2:Int)<(([]:List Nat).length:Int))=False:=eq_false (by simp)
  have f4:decide ((([]:List Pr).length:Int)=0)=true:=rfl
  have f5:decide (((0:Nat):Int)=0)=true:=rfl
  simp -implicitDefEqProofs only [st0,qc,reduceIte,(ex3 _ _ _).1,(ex3 _ _ _).2.1,(ex3 _ _ _).2.2,nck,fa,k2,hlen,f5,f4,e1,f1,f2,f3]
 ·have hl0:1≤l.length:=by have:=Nat.two_pow_pos (dep - 1); omega
  have f5:decide ((dep:Int)=0)=false:=decide_eq_false (by omega)
  have f4:decide ((l.length:Int)=0)=false:=decide_eq_false (by omega)
  have f1:((1:Int) > (l.length:Int))=False:=eq_false (by omega)
  have f2:arith .mul (.int .i64 2) (.int .i64 (l.length:Int))=some (.int .i64 ((2 * l.length:Nat):Int)):=by
   have h:IntKind.i64.wrap ((2:Int) * (l.length:Int))=((2 * l.length:Nat):Int):=by rw [wrap64 (by omega) (by omega)]; omega
   rw [← h]; rfl
  have f3:(((2 * l.length:Nat):Int)<(U.length:Int))=False:=eq_false (by omega)
  have f6:((dep:Int)≤20)=True:=eq_true (by omega)
  have f7:arith .sub (.int .i64 (dep:Int)) (.int .i64 1)=some (.int .i64 ((dep - 1:Nat):Int)):=by rw [zP (by omega) (by omega)]; congr 2; omega
  have f8:zs .u64 (.int .i64 ((dep - 1:Nat):Int))=some (.int .u64 ((dep - 1:Nat):Int)):=Je .i64 (by omega) (by omega)
  have f9:arith .shl (.int .i64 1) (.int .u64 ((dep - 1:Nat):Int))=some (.int .i64 ((2 ^ (dep - 1):Nat):Int)):=by
   have:dep - 1=0∨dep - 1=1∨dep - 1=2∨dep - 1=3∨dep - 1=4∨dep - 1=5∨dep - 1=6∨dep - 1=7:=by omega
   rcases this with h|h|h|h|h|h|h|h<;>rw [h]<;>rfl
  have f10:(((2 ^ (dep - 1):Nat):Int)≤(l.length:Int))=True:=eq_true (by omega)
  simp -implicitDefEqProofs only [st0,qc,reduceIte,(ex3 _ _ _).1,(ex3 _ _ _).2.1,(ex3 _ _ _).2.2,nck,fa,k2,hlen,f5,f4,e2,f1,f2,f3,f6,f7,f8,f9,f10]
theorem YJ {m0:Mem} {s:Value} {ops:List Opp} (h:TSl vU m0 s ops) (hs:∀ b∈qg s,b<m0.next) (hl:ops.length≤250) {pb:Nat}:∀ (n i:Nat) (o:Wo) (ns:List St) (root:Nat) (v:Value) (l:List Pr) (U:List Nat) (m:Mem),ops.length - i=n→i≤ops.length→Lw m0 pb o ns root v l U m→ns.length≤i→Own o U→1≤o.P →
  W (qfE s (.pointer (some ⟨pb,0,none⟩)) (.int .i64 (i:Int)) m) fun r _=>r=.bool true:=by
 intro n
 induction n with
 | zero =>
  intro i o ns root v l U m hd hi hq hns ho hP
  obtain rfl:i=ops.length:=by omega
  have hsm:TSl vU m s ops:=h.upd hq.up fun b hb=>⟨hs b hb,by simp⟩
  have hl':=hsm.len
  rw [P4_0_eq]
  simp -implicitDefEqProofs only [st0,qc,reduceIte,hl',Int.lt_irrefl]
 | succ n ih =>
  intro i o ns root v l U m hd hi hq hns ho hP
  have hlt:i<ops.length:=by omega
  have hsm:TSl vU m s ops:=h.upd hq.up fun b hb=>⟨hs b hb,by simp⟩
  have hl':=hsm.len
  have e1:((i:Int)<(ops.length:Int))=True:=eq_true (by omega)
  obtain ⟨p,y1,y2⟩:=qhQ hsm hlt
  rw [P4_0_eq]
  simp -implicitDefEqProofs only [st0,qc,reduceIte,hl',e1,y1,y2 m hsm]
  refine qn.2 ((step_ok hq.q (by omega) ops[i].key ops[i].val ops[i].gone).mono fun r m' hst=>?_)
  obtain ⟨rfl,o',ns',root',v',l',U',a1,a2,a3,a4⟩:=StQ.lw hq hst
  obtain ⟨l0,l1,l2⟩:=xE a1.q.pl.g
  have ho':=ho.step a4
  have hP':1≤o'.P:=by rw [a3.P]; exact hP
  simp -implicitDefEqProofs only [st0,qc,reduceIte,nck,fa,l0,l1]
  refine qn.2 ((Xu a1.q.wi.wr a1.q.tr a1.q.nd).mono fun r3 m3 ⟨dep,r3e,u3,hdep⟩=>?_)
  subst r3e
  have a13:Lw m0 pb o' ns' root' v' l' U' m3:=⟨⟨a1.q.wi.qt u3,a1.q.pl.qt u3,a1.q.tr,a1.q.nd,a1.q.pn,a1.q.vn⟩,a1.pb0,a1.ft,a1.v0,a1.up.qE u3⟩
  obtain ⟨k0,k1,k2⟩:=xE a13.q.pl.g
  have hused:=Ku a13.q.wi.wr hP'
  rw [ho'.used a1.q.wi.fu a1.q.nd a1.q.tr.used] at hused
  have hlow:U'.length≤200:=by
   rcases a1.q.tr with ⟨_,_,h⟩|⟨g,h⟩
   ·rw [h]; simp
   ·have:=(wu a1.q.wi.wr.hP h a1.q.nd).2; omega
  have e2:arith .add (.int .i64 1) (.int .i64 (U'.length:Int))=some (.int .i64 ((1+U'.length:Nat):Int)):=addN (i:=1) (by omega)
  have e3:decide (((1+U'.length:Nat):Int)=((1+U'.length:Nat):Int))=true:=decide_eq_true rfl
  simp -implicitDefEqProofs only [st0,qc,reduceIte,(ex3 _ _ _).1,(ex3 _ _ _).2.1,(ex3 _ _ _).2.2,nck,fa,k0,hused,e2,e3,qD (i:=i) (by omega)]
  exact ih (i+1) o' ns' root' v' l' U' m3 (by omega) hlt a13 (by omega) ho' hP'
theorem soundLaw {m:Mem} {s:Value} {ops:List Opp} (n:Int) (h:TSl vU m s ops) (hs:∀ b∈qg s,b<m.next):W (Call S tab 4 [.int .i64 n,s] m) fun r _=>r=.bool true:=by
 rw [C4]
 refine qn.2 ((wJ m).mono fun r1 m1 ⟨r1e,u1⟩=>?_)
 subst r1e
 obtain ⟨P,hP1,hP2,hpg⟩:=vi n m1
 have h1:=TSl.up h u1 hs
 obtain ⟨s',he1,he2,he3⟩:=wS h1
 have hs1:∀ b∈qg s',b<m1.next:=fun b hb=>by have:=hs b (by rw [← he3]; exact hb); have:=u1.next; omega
 simp -implicitDefEqProofs only [st0,qc,reduceIte,hpg,he1]
 refine qn.2 ((XX hP1 hP2 m1).mono fun r2 m2 ⟨w,pm,c,p,r2e,wi2,hfr,u2⟩=>?_)
 subst r2e
 have hw:=Lw.fresh wi2 hfr u2
 have eblk:(⟨.cells [.pointer (some ⟨w,0,none⟩),.int .i64 0,.slice none 0 0] 36,false,none⟩:ABlk)=plB (.pointer (some ⟨w,0,none⟩)) 0 (.slice none 0 0):=rfl
 simp -implicitDefEqProofs only [st0,qc,reduceIte,qdw,qR]
 rw [eblk]
 exact YJ he2 hs1 (by rw [List.length_take]; omega) _ 0 _ _ _ _ _ _ _ rfl (Nat.zero_le _) hw (by simp) (qhO w pm c p P) hP1
end Go.Fx.Tryz
namespace Go.Fx.Tryz
open Go Go.Fx
theorem ix3 (b:Nat):zB 3 1 (.pointer (some ⟨b,0,none⟩)) (.int .i64 0)=some (.pointer (some ⟨b,0+0,none⟩))∧zB 3 1 (.pointer (some ⟨b,0,none⟩)) (.int .i64 1)=some (.pointer (some ⟨b,0+1,none⟩))∧zB 3 1 (.pointer (some ⟨b,0,none⟩)) (.int .i64 2)=some (.pointer (some ⟨b,0+2,none⟩)):=⟨qdh (n:=0) (by omega),qdh (n:=1) (by omega),qdh (n:=2) (by omega)⟩
set_option maxRecDepth 4000 in
theorem scansLaw {m:Mem} {s:Value} {ops:List Opp} (n:Int) (h:TSl vU m s ops) (hs:∀ b∈qg s,b<m.next) (a0 a1 a2:Bs):W (Call S tab 6 [.int .i64 n,s,.agg #[str a0,str a1,str a2]] m) fun r _=>r=.bool true:=by
 have d0:decide ((0:Int)=0)=true:=rfl
 rw [C6]
 have u0:Upd [] m (m.add ⟨.cells [str a0,str a1,str a2] 53,false,none⟩):=Upd.add _ _ _
 have g0:(m.add ⟨.cells [str a0,str a1,str a2] 53,false,none⟩).get m.next=some ⟨.cells [str a0,str a1,str a2] 53,false,none⟩:=Mem.qk ..
 have n0:(m.add ⟨.cells [str a0,str a1,str a2] 53,false,none⟩).next=m.next+1:=rfl
 simp -implicitDefEqProofs only [st0,qc,reduceIte,qR]
 have h0:=TSl.up h u0 hs
 generalize (m.add ⟨.cells [str a0,str a1,str a2] 53,false,none⟩)=m0 at u0 g0 n0 h0
 refine qn.2 ((wJ m0).mono fun r1 m1 ⟨r1e,u1⟩=>?_)
 subst r1e
 obtain ⟨P,hP1,hP2,hpg⟩:=vi n m1
 have hs0:∀ b∈qg s,b<m0.next:=fun b hb=>by have:=hs b hb; omega
 have h1:=TSl.up h0 u1 hs0
 obtain ⟨s',he1,he2,he3⟩:=wS h1
 have hs1:∀ b∈qg s',b<m1.next:=fun b hb=>by have:=hs0 b (by rw [← he3]; exact hb); have:=u1.next; omega
 have g1:=qx u1 (by omega) g0
 simp -implicitDefEqProofs only [st0,qc,reduceIte,hpg,he1]
 refine qn.2 ((yg he2 hs1 (by rw [List.length_take]; omega) hP1 hP2).mono fun r2 m2 ⟨pb,r2e,o,ns,root,v,l,U,hq,hns,ho,_⟩=>?_)
 subst r2e
 have x1:=u1.next
 have g2:=qx hq.up (by omega) g1
 have x2:=hq.up.next
 have pq:=hq.q
 have hrow:=pq.tr.row
 have hfew:=pq.tr.few pq.wi.wr.hP pq.nd
 obtain ⟨l0,l1,l2⟩:=xE pq.pl.g
 have la:∀ {M:Mem},M.get m.next=some ⟨.cells [str a0,str a1,str a2] 53,false,none⟩→qb (.pointer (some ⟨m.next,0+0,none⟩)) M=some (str a0)∧qb (.pointer (some ⟨m.next,0+1,none⟩)) M=some (str a1)∧qb (.pointer (some ⟨m.next,0+2,none⟩)) M=some (str a2):=fun g=>⟨qu g rfl,qu g rfl,qu g rfl⟩
 obtain ⟨z0,z1,z2⟩:=la g2
 obtain ⟨i0,i1,i2⟩:=ix3 m.next
 simp -implicitDefEqProofs only [st0,qc,reduceIte,xt0,xt1,nck,fa,l0,l1,i0,i1,z0,z1]
 refine qn.2 ((Qf pq.wi.wr pq.tr pq.nd a0 a1).mono fun r3 m3 ⟨w,r3e,tw,wb,u3⟩=>?_)
 subst r3e
 have x3:=u3.next
 have pl3:=pq.pl.qt u3
 have wi3:=pq.wi.qt u3
 have g3:=qx u3 (by omega) g2
 obtain ⟨y0,y1,y2⟩:=la g3
 simp -implicitDefEqProofs only [st0,qc,reduceIte,xt0,xt1,d0,nck,fa,i0,i1,y0,y1]
 refine qn.2 (qn.2 ((qcG (s:=a0) (t:=a1) hrow hfew pl3).mono fun r4 m4 ⟨tv,vb,u4⟩=>?_))
 have pl4:=pl3.qt u4
 have wi4:=wi3.qt u4
 have x4:=u4.next
 have g4:=qx u4 (by omega) g3
 obtain ⟨w0,w1,w2⟩:=la g4
 have hrl:(zj l a0 a1).length≤200000:=Nat.le_trans (List.length_filter_le ..) (by omega)
 have hsame:=KS (lo:=0) hrl ((tw.qt u4).rsl fun b _=>Nat.zero_le _) (tv.rsl fun b _=>Nat.zero_le _)
 have eq0:arith .eql (str a2) (.string ⟨#[]⟩)=some (.bool (decide (a2=[]))):=kr a2 []
 obtain ⟨j0,j1,j2⟩:=xE pl4.g
 by_cases ha2:a2=[]
 ·have d2:decide (a2=[])=true:=decide_eq_true ha2
  simp -implicitDefEqProofs only [st0,qc,reduceIte,hsame,i2,w2,eq0,d2]
 ·have d2:decide (a2=[])=false:=decide_eq_false ha2
  simp -implicitDefEqProofs only [st0,qc,reduceIte,hsame,i2,w2,eq0,d2,nck,fa,j0,j1,qgX]
  refine qn.2 ((Qf wi4.wr pq.tr pq.nd [] a2).mono fun r5 m5 ⟨p5,r5e,t5,b5,u5⟩=>?_)
  subst r5e
  have x5:=u5.next
  have pl5:=pl4.qt u5
  have wi5:=wi4.qt u5
  have g5:=qx u5 (by omega) g4
  obtain ⟨c0,c1,c2⟩:=la g5
  obtain ⟨q0,q1,q2⟩:=xE pl5.g
  simp -implicitDefEqProofs only [st0,qc,reduceIte,xt0,xt1,nck,fa,q0,q1,i2,c2]
  refine qn.2 ((Qf wi5.wr pq.tr pq.nd a2 []).mono fun r6 m6 ⟨p6,r6e,t6,b6,u6⟩=>?_)
  subst r6e
  have x6:=u6.next
  have pl6:=pl5.qt u6
  have hlen1:(zj l [] a2).length≤100000:=Nat.le_trans (List.length_filter_le ..) (by omega)
  have hlen2:(zj l a2 []).length≤100000:=Nat.le_trans (List.length_filter_le ..) (by omega)
  simp -implicitDefEqProofs only [st0,qc,reduceIte,xt0,xt1,d0]
  refine qn.2 (jA (E:=qI) (l:=[]) (zj l [] a2) (by decide) (TAp.nil m6) (t5.qt u6).tsl.src (by simp only [List.length_nil]; omega) fun v7 m7 r1 r2 r3=>xx.2 ?_)
  rw [List.nil_append] at r1
  have r2:Upd [] m6 m7:=r2
  have r3:∀ b∈qg v7,m6.next≤b:=fun b hb=>(r3 b hb).elim (fun h=>by simp [qg] at h) id
  have x7:=r2.next
  have pl7:=pl6.qt r2
  simp -implicitDefEqProofs only [st0,qc,reduceIte]
  refine qn.2 (jA (E:=qI) (zj l a2 []) (by decide) r1 (t6.qt r2).tsl.src (by omega) fun v8 m8 k1 k2 k3=>xx.2 ?_)
  rw [qbp l hrow.1 a2 ha2] at k1
  have hvlt:=pl7.tv.lt
  have hpl6lt:=pl6.lt
  have pl8:=pl7.zE k2 (fun hm=>by have:=r3 _ hm; omega) (fun b hb hm=>by have:=r3 b hm; have:=pl6.tv.lt b hb; omega)
  obtain ⟨f0,f1,f2⟩:=xE pl8.g
  have hsame8:=KS (lo:=0) (by omega) (k1.rsl fun b _=>Nat.zero_le _) pl8.rs
  simp -implicitDefEqProofs only [st0,qc,reduceIte,nck,fa,qhd,qcH,f2,Option.map_some,hsame8,List.nil_append]
  refine kh (fun r hr=>?_) (xx.2 rfl)
  simp only [List.mem_cons,List.not_mem_nil,or_false] at hr
  subst hr
  exact okR fun k _ hk=>by
   have:k=0∨k=1∨k=2:=by omega
   rcases this with rfl|rfl|rfl
   ·exact ⟨_,rfl,(xE pl6.g).2.2⟩
   ·exact ⟨_,rfl,(xE pl7.g).2.2⟩
   ·exact ⟨_,rfl,f2⟩
theorem qdl {p:Pr} {r:List Pr} (hr:qH ((p::r).map (·.1))=true):zm (p::r) p.1=true∧xw (p::r) p.1=r:=by
 have hc:∀ x∈r,ltB x.1 p.1=false∧x.1≠p.1:=fun x hx=>by
  have:=(qK hr).2 x.1 (List.mem_map_of_mem hx)
  exact ⟨zL this,(Zb this).symm⟩
 have h1:=vF (a:=[]) (b:=[p]) (c:=r) (key:=p.1) (by simp) hc
 have h2:=ZZ (a:=[]) (b:=[p]) (c:=r) (key:=p.1) (by simp) hc
 obtain ⟨k,v⟩:=p
 refine ⟨by simpa [yh] using h1,?_⟩
 have:xw [(k,v)] k=[]:=by simp [xw,yh,yi]
 rw [this] at h2
 simpa using h2
theorem TrR.empty {o:Wo} {root:Nat} {U:List Nat} (h:TrR o.s root [] U):root=0∧U=[]:=by
 rcases h with ⟨h1,_,h3⟩|⟨g,h⟩
 ·exact ⟨h1,h3⟩
 ·have:=(Ji o.s g root [] none [] U h).1
  have:=Nat.two_pow_pos g
  simp at *
set_option maxRecDepth 4000 in
theorem Hq {pb:Nat} {v w:Value} {L:List Pr} (hL:L.length≤100000) (hr:rowP L) {m0:Mem} (hw:∀ b∈qg w,m0.next≤b) (hpb:pb<m0.next):∀ (n i:Nat) (o:Wo) (ns:List St) (root:Nat) (U:List Nat) (m:Mem),L.length - i=n→i≤L.length→WI o ns m→m.get pb=some (plB (.pointer (some ⟨o.w,0,none⟩)) root v)→TrR o.s root (L.drop i) U→U.Nodup→(pb∉o.xM∧pb≠o.c∧pb≠o.p)→RSl 0 qI m w L→(∀ b∈qg w,b∉o.xM)→Own o U→ns.length+(L.length - i)≤90000→1≤o.P→m0.next≤m.next →
  W (qfD (.pointer (some ⟨pb,0,none⟩)) w (.int .i64 0) (.int .i64 (i:Int)) m) fun r _=>r=.bool true:=by
 have d0:decide ((0:Int)=0)=true:=rfl
 have d8:decide ((8:Int)=8)=true:=rfl
 have d08:decide ((0:Int)=8)=false:=rfl
 intro n
 induction n with
 | zero =>
  intro i o ns root U m hd hi wi g tr nd pn rw' wn ho hns hP hm0
  obtain rfl:i=L.length:=by omega
  rw [List.drop_length] at tr
  obtain ⟨rfl,rfl⟩:=tr.empty
  obtain ⟨l0,l1,l2⟩:=xE g
  have hused:=Ku wi.wr hP
  rw [ho.used wi.fu nd (fun q hq=>by cases hq)] at hused
  have d1:decide (((0:Nat):Int)=0)=true:=rfl
  have d2:decide ((((1+([]:List Nat).length):Nat):Int)=1)=true:=rfl
  rw [P8_0_eq]
  simp -implicitDefEqProofs only [st0,qc,reduceIte,qS rw',Int.lt_irrefl]
  rw [P8_1_eq]
  simp -implicitDefEqProofs only [st0,qc,reduceIte,d0,nck,fa,l0,l1,d1,hused,d2]
 | succ n ih =>
  intro i o ns root U m hd hi wi g tr nd pn rw' wn ho hns hP hm0
  have hlt:i<L.length:=by omega
  have e1:((i:Int)<(L.length:Int))=True:=eq_true (by omega)
  obtain ⟨b,off,y1,y2⟩:=qbJ rw' (xS hlt)
  obtain ⟨l0,l1,l2⟩:=xE g
  have hdrop:=List.drop_eq_getElem_cons hlt
  have hrd:qH ((L[i]::L.drop (i+1)).map (·.1))=true:=by
   rw [← hdrop,List.map_drop]; exact xD _ _ hr.1
  obtain ⟨c1,c2⟩:=qdl hrd
  rw [P8_0_eq]
  simp -implicitDefEqProofs only [st0,qc,reduceIte,qS rw',e1,d0,nck,fa,l0,l1,y1,(y2 m rw').1]
  refine qn.2 ((yJ wi (by omega) tr nd L[i].1).mono fun r2 m2 ⟨o',ns',wi2,nx,hl2,hc⟩=>?_)
  rw [hdrop,c1,c2] at hc
  have hplt:pb<m.next:=by omega
  have g2:=(nx.upd.same pb hplt pn.1).trans g
  have rw2:=rw'.zE nx.upd wn
  rcases hc with ⟨f1,_⟩|⟨_,f2,rfl,f4⟩|⟨_,root',U',rfl,f2,f3,f4⟩
  ·cases f1
  ·simp -implicitDefEqProofs only [st0,qc,reduceIte,(ex3 _ _ _).1,(ex3 _ _ _).2.1,(ex3 _ _ _).2.2,d8]
  ·have st1:qi 1 (.pointer (some ⟨pb,0+1,none⟩)) (.int .i64 (root':Int)) m2=some (m2.put pb (plB (.pointer (some ⟨o.w,0,none⟩)) root' v)):=zt g2 (by simp) rfl rfl
   have u3:Upd [pb] m2 (m2.put pb (plB (.pointer (some ⟨o.w,0,none⟩)) root' v)):=Upd.put _ _ (by simp)
   have x2:=nx.upd.next
   have pn2:pb∉o'.xM∧pb≠o'.c∧pb≠o'.p:=⟨fun hm=>(nx.grow _ hm).elim pn.1 (fun h=>by omega),by rw [nx.c]; exact pn.2.1,by rw [nx.p]; exact pn.2.2⟩
   simp -implicitDefEqProofs only [st0,qc,reduceIte,(ex3 _ _ _).1,(ex3 _ _ _).2.1,(ex3 _ _ _).2.2,d08,d0,nck,fa,st1,qD (i:=i) (by omega)]
   refine ih (i+1) o' ns' root' U' _ (by omega) hlt (wi2.upd u3 fun b hb=>by simp at hb; subst hb; exact pn2) (by rw [nx.w]; exact Mem.qj ..) f2 f4 pn2 (rw2.zE u3 fun b hb hm=>by simp at hm; subst hm; have:=hw _ hb; omega) (fun b hb hm=>(nx.grow b hm).elim (wn b hb) (fun h=>by have:=(rw'.2 b hb).2; omega)) (ho.step f3) (by omega) (by rw [nx.P]; exact hP) (Nat.le_trans hm0 x2)
theorem dropsLaw {m:Mem} {s:Value} {ops:List Opp} (n:Int) (h:TSl vU m s ops) (hs:∀ b∈qg s,b<m.next) (each:Bool):W (Call S tab 8 [.int .i64 n,s,.bool each] m) fun r _=>r=.bool true:=by
 have d0:decide ((0:Int)=0)=true:=rfl
 rw [C8]
 refine qn.2 ((wJ m).mono fun r1 m1 ⟨r1e,u1⟩=>?_)
 subst r1e
 obtain ⟨P,hP1,hP2,hpg⟩:=vi n m1
 have h1:=TSl.up h u1 hs
 obtain ⟨s',he1,he2,he3⟩:=wS h1
 have hs1:∀ b∈qg s',b<m1.next:=fun b hb=>by have:=hs b (by rw [← he3]; exact hb); have:=u1.next; omega
 simp -implicitDefEqProofs only [st0,qc,reduceIte,hpg,he1]
 refine qn.2 ((yg he2 hs1 (by rw [List.length_take]; omega) hP1 hP2).mono fun r2 m2 ⟨pb,r2e,o,ns,root,v,l,U,hq,hns,ho,hoP⟩=>?_)
 subst r2e
 have pq:=hq.q
 have hrow:=pq.tr.row
 have hlow:U.length≤159∧l.length≤30000:=by
  rcases pq.tr with ⟨_,h1,h2⟩|⟨g,h⟩
  ·rw [h1,h2]; simp
  ·have:=(wu pq.wi.wr.hP h pq.nd).2
   have:=Xb o.s g root [] none l U h
   omega
 obtain ⟨l0,l1,l2⟩:=xE pq.pl.g
 cases each with
 | false =>
  simp -implicitDefEqProofs only [st0,qc,reduceIte,xt0,xt1,nck,fa,l0,l1]
  refine qn.2 ((qfr pq.wi (by omega) pq.tr pq.nd).mono fun r3 m3 ⟨o',ns',wi3,nx,hl3,r3e,hst⟩=>?_)
  subst r3e
  have g3:=(nx.upd.same pb pq.pl.lt pq.pn.1).trans pq.pl.g
  obtain ⟨k0,k1,k2⟩:=xE g3
  have hP':1≤o'.P:=by rw [nx.P]; exact hoP
  have hused:=Ku wi3.wr hP'
  rw [(ho.step hst).used wi3.fu List.nodup_nil (fun q hq=>by cases hq),nx.w] at hused
  have d2:decide ((((1+([]:List Nat).length):Nat):Int)=1)=true:=rfl
  simp -implicitDefEqProofs only [st0,qc,reduceIte,d0,nck,fa,k0,hused,d2]
 | true =>
  simp -implicitDefEqProofs only [st0,qc,reduceIte,xt0,xt1,nck,fa,l0,l1,qgX]
  refine qn.2 ((Qf pq.wi.wr pq.tr pq.nd [] []).mono fun r3 m3 ⟨w,r3e,tw,wb,u3⟩=>?_)
  subst r3e
  rw [JM] at tw
  simp -implicitDefEqProofs only [st0,qc,reduceIte,xt0,xt1]
  have hx3:=u3.next
  exact Hq (by omega) hrow wb pq.pl.lt _ 0 o ns root U m3 rfl (Nat.zero_le _) (pq.wi.qt u3) (pq.pl.qt u3).g pq.tr pq.nd pq.pn (tw.rsl fun b _=>Nat.zero_le _) (fun b hb hm=>by have:=wb b hb; have:=pq.wi.lt b hm; omega) ho (by omega) hoP hx3
end Go.Fx.Tryz
namespace Go.Fx.Tryz
open Go Go.Fx
set_option maxRecDepth 100000 in
theorem qhP {B:Nat} {m:Mem} {cs:List Value} (h:WTB Proofs.Tryz.prog B m 3 42 cs):∃ o:Opp,cs=vU.cells o∧True:=by
 obtain ⟨p1,r1,rfl,h1,p2,r2,rfl,h2,p3,r3,rfl,h3,rfl⟩:=WT.qeA (ts:=[9,9,4]) (by kernel_rfl) h
 obtain ⟨s1,rfl,_⟩:=WT.string (by kernel_rfl) h1
 obtain ⟨s2,rfl,_⟩:=WT.string (by kernel_rfl) h2
 obtain ⟨b,rfl⟩:=WT.bool (by kernel_rfl) h3
 exact ⟨⟨s1.data.toList,s2.data.toList,b⟩,by rw [str_eta s1,str_eta s2]; rfl,trivial⟩
set_option maxRecDepth 100000 in
theorem ops_of {B:Nat} {m:Mem} {v:Value} (h:WTB Proofs.Tryz.prog B m 4 22 v.cells.toList) (hna:aggT Proofs.Tryz.prog 22=some false→∀ xs,v≠.agg xs) :
  ∃ L:List Opp,TSl vU m v L∧(∀ b∈qg v,b<m.next):=by
 obtain ⟨l,h1,h2,h3,h4⟩:=WT.qgW vU (e:=42) (p:=fun _=>True) (by kernel_rfl) (by kernel_rfl) (by decide) (by kernel_rfl) (fun cs h=>qhP h) h (hna (by kernel_rfl))
 exact ⟨l,h1,h3⟩
end Go.Fx.Tryz
namespace Go.Fx.Tryz
open Go
theorem qhx {v:Value} {l:List Value} (h:v.cells.toList=l) (hl:l.length≠1):v=.agg l.toArray:=by
 cases v with
 | agg xs=>simp only [Value.cells] at h; rw [← h]
 | _=>simp only [Value.cells] at h; rw [← h] at hl; exact absurd rfl hl
set_option maxRecDepth 100000 in
theorem three_of {B:Nat} {m:Mem} {v:Value} (h:WTB Proofs.Tryz.prog B m 4 53 v.cells.toList):∃ a0 a1 a2:Bs,v=.agg #[str a0,str a1,str a2]:=by
 unfold WTB at h
 rw [show Proofs.Tryz.prog.underlying 53=some (.array 3 9) from by kernel_rfl] at h
 obtain ⟨h1,h2⟩:=h
 rw [show Proofs.Tryz.prog.cellsOf 9=1 from by kernel_rfl] at h1 h2
 match e:v.cells.toList,h1 with
 | [x,y,z],_ =>
  rw [e] at h2
  obtain ⟨s0,q0,_⟩:=WT.string (by kernel_rfl) (h2 0 (by omega))
  obtain ⟨s1,q1,_⟩:=WT.string (by kernel_rfl) (h2 1 (by omega))
  obtain ⟨s2,q2,_⟩:=WT.string (by kernel_rfl) (h2 2 (by omega))
  obtain rfl:x=.string s0:=by simpa using q0
  obtain rfl:y=.string s1:=by simpa using q1
  obtain rfl:z=.string s2:=by simpa using q2
  exact ⟨s0.data.toList,s1.data.toList,s2.data.toList,by rw [qhx e (by simp),str_eta s0,str_eta s1,str_eta s2]⟩
end Go.Fx.Tryz
