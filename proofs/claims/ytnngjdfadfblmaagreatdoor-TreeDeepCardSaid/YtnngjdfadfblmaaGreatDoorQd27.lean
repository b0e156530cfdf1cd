/- Parts of a proof: TreeLa, TreeLb, TreeLo. Conditions: none. -/
import Derived.Test.YtnngjdfadfblmaaGreatDoorQd26
namespace Go.Fx.Tryz
open Go Go.Fx
set_option linter.unusedSimpArgs false
set_option linter.unusedVariables false
theorem fillPy (w:Nat):afill [.pointer none,.int .i64 0,.slice none 0 0] [(0,1,.pointer (some ⟨w,0,none⟩))]=some [.pointer (some ⟨w,0,none⟩),.int .i64 0,.slice none 0 0]:=by kernel_rfl
theorem bit0 (k:Nat):bitU (zerosB 20) k=false:=by
 unfold bitU
 rw [List.getD_eq_getElem?_getD,zerosB,List.getElem?_replicate]
 split<;>simp
set_option maxRecDepth 4000 in
theorem lives_ok (m:Mem):W (Call S tab 11 [] m) fun r m'=>r=.bool true∧Upd [] m m':=by
 have d0:decide ((0:Int)=0)=true:=rfl
 rw [C11]
 refine W_bind.2 ((fresh_ok (n:=4) (by omega) (by omega) m).mono fun r1 m1 ⟨w,pm,c,p,r1e,wi1,hfr,u1⟩=>?_)
 subst r1e
 have s97:(Value.string ⟨#[97]⟩)=str [97]:=rfl
 have s98:(Value.string ⟨#[98]⟩)=str [98]:=rfl
 have s49:(Value.string ⟨#[49]⟩)=str [49]:=rfl
 have s50:(Value.string ⟨#[50]⟩)=str [50]:=rfl
 simp -implicitDefEqProofs only [st0,newVal,reduceIte,nnil,s97,s98,s49,s50]
 have nf:∀ {b:Nat},b∈(newW w pm c p 4).foot→m.next≤b:=fun hb=>by
  simp only [Wo.foot,List.mem_cons,blkOf,List.not_mem_nil,or_false] at hb
  rcases hb with rfl|rfl
  ·exact hfr.1
  ·exact hfr.2.1
 have k1:Kv [97] [49]:=by decide
 have k2:Kv [98] [50]:=by decide
 refine W_bind.2 ((tput_ok wi1 (by simp) (root:=0) (.inl ⟨rfl,rfl,rfl⟩) List.nodup_nil [97] [49]).mono fun r2 m2 ⟨o2,ns2,wi2,nx2,hl2,hc⟩=>?_)
 rcases hc with ⟨h1,_⟩|⟨_,h2,_⟩|⟨_,root2,U2,rfl,t2,st2,nd2⟩
 ·exact absurd k1 h1
 ·rcases h2 with ⟨_,h2⟩|⟨h2,_⟩
  ·have:=h2 1 (by omega) (by show 1<4; omega)
   rw [show (newW w pm c p 4).u=zerosB 20 from rfl,bit0] at this; cases this
  ·exact absurd rfl h2
 have e2:putN [] [97] [49]=[([97],[49])]:=rfl
 rw [e2] at t2
 have ew2:o2.w=w:=nx2.w
 simp -implicitDefEqProofs only [st0,newVal,reduceIte,xt0,xt1]
 have q3:=tput_ok wi2 (by simp at hl2; omega) t2 nd2 [98] [50]
 rw [ew2] at q3
 refine W_bind.2 (q3.mono fun r3 m3 ⟨o3,ns3,wi3,nx3,hl3,hc⟩=>?_)
 have e3:putN [([97],[49])] [98] [50]=[([97],[49]),([98],[50])]:=by kernel_rfl
 rw [e3] at hc
 have hr2:root2≠0:=by
  rcases t2 with ⟨_,h,_⟩|⟨g,h⟩
  ·cases h
  ·have:=root_pos h; omega
 rcases hc with ⟨h1,_⟩|⟨_,h2,_⟩|⟨_,root3,U3,rfl,t3,st3,nd3⟩
 ·exact absurd k2 h1
 ·rcases h2 with ⟨h2,_⟩|⟨_,h2⟩
  ·exact absurd h2 hr2
  ·simp at h2
 have ew3:o3.w=w:=nx3.w.trans ew2
 simp -implicitDefEqProofs only [st0,newVal,reduceIte,xt0,xt1]
 have q4:=tdelete_ok wi3 (by simp at hl2; omega) t3 nd3 [97]
 rw [ew3] at q4
 refine W_bind.2 (q4.mono fun r4 m4 ⟨o4,ns4,wi4,nx4,hl4,hc⟩=>?_)
 have e4:thereN [([97],[49]),([98],[50])] [97]=true:=by kernel_rfl
 have e4':cutN [([97],[49]),([98],[50])] [97]=[([98],[50])]:=by kernel_rfl
 rw [e4,e4'] at hc
 rcases hc with ⟨h1,_⟩|⟨_,h2,_⟩|⟨_,root4,U4,rfl,t4,st4,nd4⟩
 ·cases h1
 ·simp at h2
 have ew4:o4.w=w:=nx4.w.trans ew3
 simp -implicitDefEqProofs only [st0,newVal,reduceIte,(ex3 _ _ _).1,(ex3 _ _ _).2.1,(ex3 _ _ _).2.2]
 have q5:=get_ok wi4.wr t4 nd4 [98]
 rw [ew4] at q5
 have e5:thereN [([98],[50])] [98]=true:=by kernel_rfl
 have e5':valN [([98],[50])] [98]=[50]:=by kernel_rfl
 rw [e5,e5'] at q5
 refine W_bind.2 (q5.mono fun r5 m5 ⟨r5e,u5⟩=>?_)
 subst r5e
 simp -implicitDefEqProofs only [st0,newVal,reduceIte,(ex3 _ _ _).1,(ex3 _ _ _).2.1,(ex3 _ _ _).2.2]
 have q6:=sound_ok (wi4.upd0 u5).wr t4 nd4
 rw [ew4] at q6
 refine W_bind.2 (q6.mono fun r6 m6 ⟨dep,r6e,u6,hdep⟩=>?_)
 subst r6e
 have hdu:dep=1∧U4.length=1:=by
  rcases hdep with ⟨_,h,_⟩|⟨h1,h2,h3,h4,h5⟩
  ·cases h
  ·simp at h3 h4
   refine ⟨?_,by omega⟩
   rcases Nat.lt_or_ge dep 2 with h|h
   ·omega
   ·have:2 ^ 1≤2 ^ (dep - 1):=Nat.pow_le_pow_right (by omega) (by omega)
    omega
 obtain ⟨rfl,hU⟩:=hdu
 rw [hU]
 have es:arith .eql (str [50]) (str [50])=some (.bool true):=(eql_str [50] [50]).trans (by simp)
 have d1:decide ((((1:Nat):Int))=1)=true:=rfl
 simp -implicitDefEqProofs only [st0,newVal,reduceIte,(ex3 _ _ _).1,(ex3 _ _ _).2.1,(ex3 _ _ _).2.2,d0,d1,es]
 have nx:=(nx2.trans nx3).trans nx4
 exact ⟨trivial,((u1.then' nx.upd fun b hb=>.inr (nf hb)).then0 u5).then0 u6⟩
structure Opp where
 key:Bs
 val:Bs
 gone:Bool
def encO:Enc Opp:=⟨3,fun o=>[str o.key,str o.val,.bool o.gone],fun _=>rfl,fun _=>rfl⟩
theorem encO_size:encO.size=3:=rfl
theorem pages_ok10 (n:Int) (m:Mem):∃ P:Nat,1≤P∧P≤160∧Call S tab 13 [.int .i64 n] m=some (.int .i64 (P:Int),m):=by
 have h0:0≤n % (2 ^ 64:Int)∧n % (2 ^ 64:Int)<2 ^ 64:=⟨Int.emod_nonneg _ (by decide),Int.emod_lt_of_pos _ (by decide)⟩
 have e1:runConv .u64 (.int .i64 n)=some (.int .u64 (n % (2 ^ 64:Int))):=rfl
 generalize n % (2 ^ 64:Int)=x at h0 e1
 have e2:arith .rem (.int .u64 x) (.int .u64 160)=some (.int .u64 (x % 160)):=by
  have h:x.tmod 160=x % 160:=by rw [Int.tmod_eq_emod_of_nonneg h0.1]
  have z:¬ ((160:Int)=0):=by omega
  simp only [arith,iop,if_true,if_neg z,h]
 have e3:runConv .i64 (.int .u64 (x % 160))=some (.int .i64 (x % 160)):=conv_i64 .u64 (by omega) (by omega)
 have e4:arith .add (.int .i64 1) (.int .i64 (x % 160))=some (.int .i64 (1+x % 160)):=i64_add (by omega) (by omega)
 refine ⟨1+(x % 160).toNat,by omega,by omega,W_eq ?_⟩
 rw [C13]
 have e5:((1+(x % 160).toNat:Nat):Int)=1+x % 160:=by omega
 simp -implicitDefEqProofs only [st0,newVal,reduceIte,e1,e2,e3,e4,e5]
 exact ⟨trivial,trivial⟩
theorem early_ok {m0:Mem} {s:Value} {ops:List Opp} (h:TSl encO m0 s ops):∃ s',(∀ m,Call S tab 14 [s] m=some (s',m))∧TSl encO m0 s' (ops.take 250)∧blkOf s'=blkOf s:=by
 by_cases hc:(250:Int)<(ops.length:Int)
 ·obtain ⟨s',h1,h2,h3⟩:=h.upto' (k:=250) (by omega)
  refine ⟨s',fun m=>W_eq ?_,h2,h3⟩
  rw [C14]
  have hl:=h.len
  have h1:runSliceS 3 s none (some (.int .i64 250)) m=some s':=h1 m
  have e1:((250:Int)<(ops.length:Int))=True:=eq_true hc
  simp -implicitDefEqProofs only [st0,newVal,reduceIte,hl,e1,h1]
  exact ⟨trivial,trivial⟩
 ·obtain ⟨s',h1,h2,h3⟩:=h.upto' (k:=ops.length) (Nat.le_refl _)
  rw [List.take_of_length_le (Nat.le_refl _)] at h2
  refine ⟨s',fun m=>W_eq ?_,by rw [List.take_of_length_le (by omega)]; exact h2,h3⟩
  rw [C14]
  have hl:=h.len
  have h1:runSliceS 3 s none (some (.int .i64 (ops.length:Int))) m=some s':=h1 m
  have e1:((250:Int)<(ops.length:Int))=False:=eq_false hc
  simp -implicitDefEqProofs only [st0,newVal,reduceIte,hl,e1,h1]
  exact ⟨trivial,trivial⟩
def Own (o:Wo) (U:List Nat):Prop:=∀ k,o.s k≠none→k∈U
theorem Own.step {o o':Wo} {U U':List Nat} (h:Own o U) (hs:Stp o.s o'.s U U'):Own o' U':=fun k hk=>by
 by_cases h1:k∈U'
 ·exact h1
 ·by_cases h2:k∈U
  ·exact absurd (hs.gone k h2 h1) hk
  ·rw [hs.out k h2 h1] at hk; exact absurd (h k hk) h2
theorem Own.used {o:Wo} {U:List Nat} (h:Own o U) (hf:Fu o) (hnd:U.Nodup) (hu:∀ q∈U,o.s q≠none):o.used=1+U.length :=
 used_is hnd fun k=>⟨fun hk=>h k (by
  have:=hf k
  rw [hk] at this
  intro e; rw [e] at this; cases this),fun hk=>Fu.some (hu k hk)⟩
structure Lw (m0:Mem) (pb:Nat) (o:Wo) (ns:List St) (root:Nat) (v:Value) (l:List Pr) (U:List Nat) (m:Mem):Prop where
 q:PQ pb o ns root v l U m
 pb0:m0.next≤pb
 ft:∀ b∈o.foot,m0.next≤b
 v0:∀ b∈blkOf v,m0.next≤b
 up:Upd [] m0 m
theorem StQ.lw {m0:Mem} {pb:Nat} {o:Wo} {ns:List St} {root:Nat} {v:Value} {l:List Pr} {U:List Nat} {m:Mem} (h:Lw m0 pb o ns root v l U m) {r:Value} {m':Mem} (hq:StQ pb o ns v U m r m') :
  r=.bool true∧∃ o' ns' root' v' l' U',Lw m0 pb o' ns' root' v' l' U' m'∧ns'.length≤ns.length+1∧Gs pb o o' m m'∧Stp o.s o'.s U U':=by
 obtain ⟨e,o',ns',root',v',l',U',a1,a2,a3,a4,a5⟩:=hq
 have hn:=h.up.next
 refine ⟨e,o',ns',root',v',l',U',⟨a1,h.pb0,fun b hb=>(a3.grow b hb).elim (h.ft b) (fun h=>by omega),fun b hb=>(a5 b hb).elim (h.v0 b) (fun h=>by omega),h.up.then' a3.upd fun b hb=>.inr ?_⟩,a2,a3,a4⟩
 rcases List.mem_cons.1 hb with rfl|hb
 ·exact h.pb0
 ·exact h.ft b hb
theorem Lw.fresh {m0 m1:Mem} {w pm c p P:Nat} (wi:WI (newW w pm c p P) [] m1) (hfr:m0.next≤w∧m0.next≤pm∧m0.next≤c∧m0.next≤p) (u1:Upd [] m0 m1):Lw m0 m1.next (newW w pm c p P) [] 0 (.slice none 0 0) [] [] (m1.add (plB (.pointer (some ⟨w,0,none⟩)) 0 (.slice none 0 0))):=by
 have u2:Upd [] m1 (m1.add (plB (.pointer (some ⟨w,0,none⟩)) 0 (.slice none 0 0))):=Upd.add _ _ _
 have lc:=wi.wr.lc; have lp:=wi.wr.lp
 have lc:c<m1.next:=lc
 have lp:p<m1.next:=lp
 refine ⟨⟨wi.upd0 u2,⟨Mem.get_add_self ..,TAp.nil _,by show m1.next<m1.next+1; omega,by simp [blkOf]⟩,.inl ⟨rfl,rfl,rfl⟩,List.nodup_nil,⟨fun hm=>by have:=wi.lt _ hm; omega,by show m1.next≠c; omega,by show m1.next≠p; omega⟩,fun b hb=>by simp [blkOf] at hb⟩,u1.next,fun b hb=>?_,fun b hb=>by simp [blkOf] at hb,u1.then0 u2⟩
 simp only [Wo.foot,List.mem_cons,blkOf,List.not_mem_nil,or_false] at hb
 rcases hb with rfl|rfl
 ·exact hfr.1
 ·exact hfr.2.1
theorem own0 (w pm c p P:Nat):Own (newW w pm c p P) []:=fun k hk=>by
 apply absurd _ hk
 unfold Wo.s Wo.has
 simp [bit0]
theorem opAt {m:Mem} {s:Value} {ops:List Opp} (h:TSl encO m s ops) {i:Nat} (hi:i<ops.length):∃ p,runIndexS 3 s (.int .i64 (i:Int))=some p∧∀ M,TSl encO M s ops→runLoadN 3 p M=some (opV ops[i].key ops[i].val ops[i].gone):=by
 obtain ⟨b,off,h1,h2⟩:=h.at .i64 (getI hi)
 rw [encO_size] at h1 h2
 exact ⟨_,h1,fun M hM=>(h2 M hM).1⟩
theorem played_loop {m0:Mem} {s:Value} {ops:List Opp} (h:TSl encO m0 s ops) (hs:∀ b∈blkOf s,b<m0.next) (hl:ops.length≤250) {pb:Nat}:∀ (n i:Nat) (o:Wo) (ns:List St) (root:Nat) (v:Value) (l:List Pr) (U:List Nat) (m:Mem),ops.length - i=n→i≤ops.length→Lw m0 pb o ns root v l U m→ns.length≤i→Own o U→1≤o.P →
  W (P12_0 s (.pointer (some ⟨pb,0,none⟩)) (.int .i64 (i:Int)) m) fun r m'=>r=.tuple #[.pointer (some ⟨pb,0,none⟩),.bool true]∧∃ o' ns' root' v' l' U',Lw m0 pb o' ns' root' v' l' U' m'∧ns'.length≤250∧Own o' U'∧1≤o'.P:=by
 intro n
 induction n with
 | zero =>
  intro i o ns root v l U m hd hi hq hns ho hoP
  obtain rfl:i=ops.length:=by omega
  have hsm:TSl encO m s ops:=h.upd hq.up fun b hb=>⟨hs b hb,by simp⟩
  have hl':=hsm.len
  rw [P12_0_eq]
  simp -implicitDefEqProofs only [st0,newVal,reduceIte,hl',Int.lt_irrefl]
  exact ⟨trivial,o,ns,root,v,l,U,hq,by omega,ho,hoP⟩
 | succ n ih =>
  intro i o ns root v l U m hd hi hq hns ho hoP
  have hlt:i<ops.length:=by omega
  have hsm:TSl encO m s ops:=h.upd hq.up fun b hb=>⟨hs b hb,by simp⟩
  have hl':=hsm.len
  have e1:((i:Int)<(ops.length:Int))=True:=eq_true (by omega)
  obtain ⟨p,y1,y2⟩:=opAt hsm hlt
  rw [P12_0_eq]
  simp -implicitDefEqProofs only [st0,newVal,reduceIte,hl',e1,y1,y2 m hsm]
  refine W_bind.2 ((step_ok hq.q (by omega) ops[i].key ops[i].val ops[i].gone).mono fun r m' hst=>?_)
  obtain ⟨rfl,o',ns',root',v',l',U',a1,a2,a3,a4⟩:=StQ.lw hq hst
  simp -implicitDefEqProofs only [st0,newVal,reduceIte,i64_succ (i:=i) (by omega)]
  exact ih (i+1) o' ns' root' v' l' U' m' (by omega) hlt a1 (by omega) (ho.step a4) (by rw [a3.P]; exact hoP)
theorem played_ok {m0:Mem} {s:Value} {ops:List Opp} (h:TSl encO m0 s ops) (hs:∀ b∈blkOf s,b<m0.next) (hl:ops.length≤250) {P:Nat} (hP1:1≤P) (hP:P≤160) :
  W (Call S tab 12 [.int .i64 (P:Int),s] m0) fun r m'=>∃ pb,r=.tuple #[.pointer (some ⟨pb,0,none⟩),.bool true]∧∃ o' ns' root' v' l' U',Lw m0 pb o' ns' root' v' l' U' m'∧ns'.length≤250∧Own o' U'∧1≤o'.P:=by
 rw [C12]
 refine W_bind.2 ((fresh_ok hP1 hP m0).mono fun r1 m1 ⟨w,pm,c,p,r1e,wi1,hfr,u1⟩=>?_)
 subst r1e
 have hw:=Lw.fresh wi1 hfr u1
 have eblk:(⟨.cells [.pointer (some ⟨w,0,none⟩),.int .i64 0,.slice none 0 0] 36,false,none⟩:ABlk)=plB (.pointer (some ⟨w,0,none⟩)) 0 (.slice none 0 0):=rfl
 have lw:runLoad1 (.pointer (some ⟨m1.next,0+0,none⟩)) (m1.add (plB (.pointer (some ⟨w,0,none⟩)) 0 (.slice none 0 0)))=some (.pointer (some ⟨w,0,none⟩)):=load_at hw.q.pl.g rfl
 simp -implicitDefEqProofs only [st0,newVal,reduceIte,fillPy,cells_agg,nck,fa]
 rw [eblk]
 simp -implicitDefEqProofs only [st0,newVal,reduceIte,lw,nnil]
 exact (played_loop h hs hl _ 0 _ _ _ _ _ _ _ rfl (Nat.zero_le _) hw (by simp) (own0 w pm c p P) hP1).mono fun r m' ⟨a,b⟩=>⟨_,a,b⟩
end Go.Fx.Tryz
namespace Go.Fx.Tryz
open Go Go.Fx
set_option linter.unusedSimpArgs false
set_option linter.unusedVariables false
theorem play_ld {pb root:Nat} {a v:Value} {M:Mem} (g:M.get pb=some (plB a root v)):runLoad1 (.pointer (some ⟨pb,0+0,none⟩)) M=some a∧runLoad1 (.pointer (some ⟨pb,0+1,none⟩)) M=some (.int .i64 (root:Int))∧runLoad1 (.pointer (some ⟨pb,0+2+0,none⟩)) M=some v:=⟨load_at g rfl,load_at g rfl,load_at g rfl⟩
theorem PL.upd0 {pb root:Nat} {a v:Value} {l:List Pr} {m m':Mem} (h:PL pb a root v l m) (hu:Upd [] m m'):PL pb a root v l m':=h.keep hu (by simp) (fun _ _=>by simp)
theorem TSl.up {α:Type} {E:Enc α} {m m':Mem} {v:Value} {l:List α} (h:TSl E m v l) (hu:Upd [] m m') (hb:∀ b∈blkOf v,b<m.next):TSl E m' v l:=h.upd hu fun b hb'=>⟨hb b hb',by simp⟩
theorem deepLaw {m:Mem} {s:Value} {ops:List Opp} (n:Int) (h:TSl encO m s ops) (hs:∀ b∈blkOf s,b<m.next):W (Call S tab 3 [.int .i64 n,s] m) fun r _=>r=.bool true:=by
 have d0:decide ((0:Int)=0)=true:=rfl
 rw [C3]
 refine W_bind.2 ((lives_ok m).mono fun r1 m1 ⟨r1e,u1⟩=>?_)
 subst r1e
 obtain ⟨P,hP1,hP2,hpg⟩:=pages_ok10 n m1
 have h1:=TSl.up h u1 hs
 obtain ⟨s',he1,he2,he3⟩:=early_ok h1
 have hs1:∀ b∈blkOf s',b<m1.next:=fun b hb=>by have:=hs b (by rw [← he3]; exact hb); have:=u1.next; omega
 simp -implicitDefEqProofs only [st0,newVal,reduceIte,hpg,he1]
 refine W_bind.2 ((played_ok he2 hs1 (by rw [List.length_take]; omega) hP1 hP2).mono fun r2 m2 ⟨pb,r2e,o,ns,root,v,l,U,hq,hns,ho,_⟩=>?_)
 subst r2e
 have pq:=hq.q
 have hfew:=pq.tr.few pq.wi.wr.hP pq.nd
 obtain ⟨l0,l1,l2⟩:=play_ld pq.pl.g
 simp -implicitDefEqProofs only [st0,newVal,reduceIte,xt0,xt1,nck,fa,l0,l1]
 refine W_bind.2 ((sound_ok pq.wi.wr pq.tr pq.nd).mono fun r3 m3 ⟨dep,r3e,u3,hdep⟩=>?_)
 subst r3e
 have pl3:=pq.pl.upd0 u3
 obtain ⟨k0,k1,k2⟩:=play_ld pl3.g
 have hlen:=lenSl pl3.rs
 have e1:runEqBool true (.bool true) (.bool true)=some (.bool false):=rfl
 have e2:runEqBool true (.bool false) (.bool false)=some (.bool false):=rfl
 rcases hdep with ⟨rfl,rfl,rfl⟩|⟨c1,c2,c3,c4,c5⟩
 ·have f1:((1:Int) > (([]:List Pr).length:Int))=True:=eq_true (by simp)
  have f2:arith .mul (.int .i64 2) (.int .i64 1)=some (.int .i64 2):=rfl
  have f3:((2:Int)<(([]:List Nat).length:Int))=False:=eq_false (by simp)
  have f4:decide ((([]:List Pr).length:Int)=0)=true:=rfl
  have f5:decide (((0:Nat):Int)=0)=true:=rfl
  simp -implicitDefEqProofs only [st0,newVal,reduceIte,(ex3 _ _ _).1,(ex3 _ _ _).2.1,(ex3 _ _ _).2.2,nck,fa,k2,hlen,f5,f4,e1,f1,f2,f3]
 ·have hl0:1≤l.length:=by have:=Nat.two_pow_pos (dep - 1); omega
  have f5:decide ((dep:Int)=0)=false:=decide_eq_false (by omega)
  have f4:decide ((l.length:Int)=0)=false:=decide_eq_false (by omega)
  have f1:((1:Int) > (l.length:Int))=False:=eq_false (by omega)
  have f2:arith .mul (.int .i64 2) (.int .i64 (l.length:Int))=some (.int .i64 ((2 * l.length:Nat):Int)):=by
   have h:IntKind.i64.wrap ((2:Int) * (l.length:Int))=((2 * l.length:Nat):Int):=by rw [wrap64 (by omega) (by omega)]; omega
   rw [← h]; rfl
  have f3:(((2 * l.length:Nat):Int)<(U.length:Int))=False:=eq_false (by omega)
  have f6:((dep:Int)≤20)=True:=eq_true (by omega)
  have f7:arith .sub (.int .i64 (dep:Int)) (.int .i64 1)=some (.int .i64 ((dep - 1:Nat):Int)):=by rw [i64_sub (by omega) (by omega)]; congr 2; omega
  have f8:runConv .u64 (.int .i64 ((dep - 1:Nat):Int))=some (.int .u64 ((dep - 1:Nat):Int)):=conv_u64 .i64 (by omega) (by omega)
  have f9:arith .shl (.int .i64 1) (.int .u64 ((dep - 1:Nat):Int))=some (.int .i64 ((2 ^ (dep - 1):Nat):Int)):=by
   have:dep - 1=0∨dep - 1=1∨dep - 1=2∨dep - 1=3∨dep - 1=4∨dep - 1=5∨dep - 1=6∨dep - 1=7:=by omega
   rcases this with h|h|h|h|h|h|h|h<;>rw [h]<;>rfl
  have f10:(((2 ^ (dep - 1):Nat):Int)≤(l.length:Int))=True:=eq_true (by omega)
  simp -implicitDefEqProofs only [st0,newVal,reduceIte,(ex3 _ _ _).1,(ex3 _ _ _).2.1,(ex3 _ _ _).2.2,nck,fa,k2,hlen,f5,f4,e2,f1,f2,f3,f6,f7,f8,f9,f10]
end Go.Fx.Tryz
namespace Go.Fx.Tryz
open Go Go.Fx
set_option linter.unusedSimpArgs false
set_option linter.unusedVariables false
set_option maxRecDepth 100000 in
theorem op_of {B:Nat} {m:Mem} {cs:List Value} (h:WTB Proofs.Tryz.prog B m 3 42 cs):∃ o:Opp,cs=encO.cells o∧True:=by
 obtain ⟨p1,r1,rfl,h1,p2,r2,rfl,h2,p3,r3,rfl,h3,rfl⟩:=WT.structT (ts:=[9,9,4]) (by kernel_rfl) h
 obtain ⟨s1,rfl,_⟩:=WT.string (by kernel_rfl) h1
 obtain ⟨s2,rfl,_⟩:=WT.string (by kernel_rfl) h2
 obtain ⟨b,rfl⟩:=WT.bool (by kernel_rfl) h3
 exact ⟨⟨s1.data.toList,s2.data.toList,b⟩,by rw [str_eta s1,str_eta s2]; rfl,trivial⟩
set_option maxRecDepth 100000 in
theorem ops_of {B:Nat} {m:Mem} {v:Value} (h:WTB Proofs.Tryz.prog B m 4 22 v.cells.toList) (hna:aggT Proofs.Tryz.prog 22=some false→∀ xs,v≠.agg xs) :
  ∃ L:List Opp,TSl encO m v L∧(∀ b∈blkOf v,b<m.next):=by
 obtain ⟨l,h1,h2,h3,h4⟩:=WT.tslice encO (e:=42) (p:=fun _=>True) (by kernel_rfl) (by kernel_rfl) (by decide) (by kernel_rfl) (fun cs h=>op_of h) h (hna (by kernel_rfl))
 exact ⟨l,h1,h3⟩
end Go.Fx.Tryz
