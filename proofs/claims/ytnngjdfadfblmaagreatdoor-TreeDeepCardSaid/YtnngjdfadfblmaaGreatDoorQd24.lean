/- Parts of a proof: TreePu, TreeGe, TreeDr, TreeSc, TreeLk. Conditions: none. -/
import Derived.Test.YtnngjdfadfblmaaGreatDoorQd23
namespace Go.Fx.Tryz
open Go Go.Fx
set_option linter.unusedSimpArgs false
set_option linter.unusedVariables false
section
variable {x:Wx} {m:Mem}
theorem xtake2 (h:XR x m) (he:x.err=0) (hfree:∃ n,1≤n∧n<x.o.P∧bitU x.o.u n=false):W (Call S tab 73 [x.v] m) fun r m' =>
  ∃ (n c:Nat),1≤n∧n<x.o.P∧bitU x.o.u n=false∧r=.int .i64 (n:Int)∧XR { x with o:={ x.o with u:=turnU x.o.u n,L:=upL x.o.L n (zerosB 256) c } } m'∧Upd [x.o.w,x.o.pm,x.xb] m m':=by
 have e1:=xok h
 rw [decide_eq_true he] at e1
 have d0:decide ((0:Int)=0)=true:=rfl
 rw [C73]
 simp -implicitDefEqProofs only [st0,newVal,reduceIte,e1,nck,fa,(xld h).1]
 have hq:W (Call S tab 26 [.pointer (some ⟨x.o.w,0,none⟩)] m) fun r m'=>∃ (n c:Nat),1≤n∧n<x.o.P∧bitU x.o.u n=false∧r=.tuple #[.int .i64 (n:Int),.int .i64 0]∧WR { x.o with u:=turnU x.o.u n,L:=upL x.o.L n (zerosB 256) c } m'∧Upd [x.o.w,x.o.pm] m m':=by
  rw [C26]
  simp -implicitDefEqProofs only [st0,newVal,reduceIte,may_ok h.wr,d0]
  refine take_loop h.wr (fun hall=>?_) (fun n m' c h1 h2 h3 h4 h5=>⟨n,c,h1,h2,h3,rfl,h4,h5⟩) _ 1 rfl (by omega) (by omega)
  obtain ⟨n,a,b,c⟩:=hfree
  rw [hall n a b] at c; cases c
 refine W_bind.2 (hq.mono fun r m1 hc=>?_)
 obtain ⟨n,c,n1,n2,n3,rfl,r1,u1⟩:=hc
 have h1:=h.work r1 ⟨rfl,rfl,rfl,rfl⟩ u1 (fun b hb=>by simpa using hb)
 obtain ⟨e2,h2,u2⟩:=h1.noted he
 have e2':Call S tab 97 [x.v,.int .i64 0] m1=_:=e2
 simp -implicitDefEqProofs only [st0,newVal,reduceIte,xt0,xt1,e2']
 refine ⟨n,c,n1,n2,n3,rfl,h2,(u1.mono (fun b hb _=>?_)).trans (u2.mono (fun b hb _=>?_))⟩
 ·simp at hb ⊢; omega
 ·simp at hb; simp [hb]
end
def Kv (key val:Bs):Prop:=(key≠[]∧key.length≤32)∧val.length≤40
def Tight (o:Wo) (root:Nat) (l:List Pr):Prop:=(root=0∧∀ n,1≤n→n<o.P→bitU o.u n=true)∨(root≠0∧4≤l.length)
theorem in_all (key:Bs):inR [] none key:=⟨by cases key<;>simp [ltB],fun h e=>by cases e⟩
theorem root_pos {o:Wo} {h root:Nat} {lo:Bs} {hi:Option Bs} {l:List Pr} {U:List Nat} (ht:Tr o.s h root lo hi l U):1≤root:=by
 obtain ⟨n,S',hp,_⟩:=Tr_iff.1 ht
 exact (has_lt hp.here.1).1
theorem fillL:afill [.bool false,.slice none 0 0,.slice none 0 0,.slice none 0 0] [(0,1,.bool true)]=some [.bool true,.slice none 0 0,.slice none 0 0,.slice none 0 0]:=rfl
theorem _root_.Go.Fx.Upd.boxes {m m':Mem} {fp:List Nat} (hu:Upd fp m m') {b:Nat} {x:ABlk} (hg:m.get b=some x) (hb:b<m.next) (hn:b∉fp):m'.get b=some x:=(hu.same b hb hn).trans hg
set_option maxRecDepth 4000 in
theorem put_body {x:Wx} {m:Mem} {key val:Bs} (hkv:Kv key val) {root b1 b2 b3:Nat} {l:List Pr} {U:List Nat} (hx:XR x m) (he:x.err=0) (hrd:x.rd=0) (hf:Fu x.o) (ht:TrR x.o.s root l U) (hnd:U.Nodup) {t1 t2 t3:TypeId}
  (g1:m.get b1=some ⟨.cells [.int .i64 (root:Int)] t1,false,none⟩) (g2:m.get b2=some ⟨.cells [str key] t2,false,none⟩) (g3:m.get b3=some ⟨.cells [str val] t3,false,none⟩) (hb:(b1<m.next∧b2<m.next∧b3<m.next)∧(b2∉x.fp∧b3∉x.fp)) :
  W (Call S tab 71 [x.v,.pointer (some ⟨b1,0,none⟩),.pointer (some ⟨b2,0,none⟩),.pointer (some ⟨b3,0,none⟩)] m) fun r m'=>∃ x',XR x' m'∧Kin x x'∧Upd x.fp m m'∧((x'.err=8∧Tight x.o root (putN l key val)) ∨
   (x'.err=0∧Fu x'.o∧∃ (root':Nat) (U':List Nat),r=.int .i64 (root':Int)∧TrR x'.o.s root' (putN l key val) U'∧Stp x.o.s x'.o.s U U'∧U'.Nodup)):=by
 have hP:=hx.wr.hP
 have hu20:=hx.wr.hu
 have l1:runLoad1 (.pointer (some ⟨b1,0,none⟩)) m=some (.int .i64 (root:Int)):=load_at g1 rfl
 have l2:runLoad1 (.pointer (some ⟨b2,0,none⟩)) m=some (str key):=load_at g2 rfl
 have l3:runLoad1 (.pointer (some ⟨b3,0,none⟩)) m=some (str val):=load_at g3 rfl
 rw [C71]
 rcases ht with ⟨rfl,rfl,rfl⟩|⟨h,ht⟩
 ·have e0:(((0:Nat):Int)=0)=True:=eq_true rfl
  simp -implicitDefEqProofs only [st0,newVal,reduceIte,l1,e0]
  have tn:∀ M:Mem,TN M.next M (nodeV true (.slice none 0 0) (.slice none 0 0) (.slice none 0 0)) (Nd.lf []):=fun M=>⟨_,_,_,rfl,RSl.nil _ _ _,RSl.nil _ _ _,RSl.nil _ _ _⟩
  have fit0:(Nd.lf []).Fit:=⟨by simp [Nd.lf],by simp [Nd.lf],by simp [Nd.lf],by simp [Nd.lf],by simp [Nd.lf],by simp [Nd.lf]⟩
  obtain ⟨w1,w2,w3,w4⟩:=putN_row (l:=[]) (key:=key) (val:=val) ⟨rfl,by simp⟩ hkv.1 hkv.2
  have hr:=rightN_lf w1.1 w1.2
  have hsz:sizeN (Nd.lf (putN [] key val))≤256:=by
   show 2+((putN [] key val).map weighP).sum≤256
   have:(([]:List Pr).map weighP).sum=0:=rfl
   omega
  by_cases hfree:∃ n,1≤n∧n<x.o.P∧bitU x.o.u n=false
  ·refine W_bind.2 ((xtake2 hx he hfree).mono fun r1 m1 hq=>?_)
   obtain ⟨n,c,y1,y2,y3,rfl,h1,u1⟩:=hq
   have x1:=u1.next
   have l2':runLoad1 (.pointer (some ⟨b2,0,none⟩)) m1=some (str key):=load_at (u1.boxes g2 hb.1.2.1 hb.2.1) rfl
   have l3':runLoad1 (.pointer (some ⟨b3,0,none⟩)) m1=some (str val):=load_at (u1.boxes g3 hb.1.2.2 hb.2.2) rfl
   simp -implicitDefEqProofs only [st0,newVal,reduceIte,fillL,l2',l3']
   refine W_bind.2 ((nput_ok key val (tn m1) fit0 (Nat.le_refl _)).mono fun v2 m2 ⟨t2',u2⟩=>?_)
   have t2':TN m1.next m2 v2 (Nd.lf (putN [] key val)):=t2'
   have h2:=h1.upd0 u2
   have es1:=Wo.s_take hu20 hP y1 y2 y3 (zerosB 256) c
   have f1:=hf.take hu20 hP y1 y2 y3 (zerosB 256) c
   have hh:Wo.has { x.o with u:=turnU x.o.u n,L:=upL x.o.L n (zerosB 256) c } n=true:=by
    apply Fu.some; rw [es1]; simp [setS]
   refine W_bind.2 ((xwrite h2 he (by omega) t2' hh hr hsz).mono fun v3 m3 ⟨r3,⟨c2,h3⟩,u3⟩=>?_)
   simp -implicitDefEqProofs only [st0,newVal,reduceIte]
   have es2:=Wo.s_write hh (encN (Nd.lf (putN [] key val))) c2
   have f2:=f1.write hh (encN (Nd.lf (putN [] key val))) c2
   rw [es1] at es2
   refine ⟨_,h3,Kin.o x ⟨rfl,rfl,rfl,rfl,rfl,rfl,rfl⟩,(u1.then0 u2).trans (u3.mono fun b hb _=>List.mem_cons.2 (.inr hb)),.inr ⟨he,f2,n,[n],rfl,.inr ⟨0,?_⟩,?_,by simp⟩⟩
   ·rw [es2]
    exact Tr_iff.2 ⟨_,[],⟨by simp [setS],hr,hsz⟩,by simpa [neN,Nd.lf] using w4,⟨rfl,fun y hy=>in_all _,rfl⟩,rfl⟩
   ·rw [es2]
    exact ⟨fun j h1 h2=>by simp at h2; unfold setS; rw [if_neg h2,if_neg h2],fun j hj=>by simp at hj; subst hj; exact .inr (s_free y3),fun j hj=>by simp at hj⟩
  ·have hall:∀ n,1≤n→n<x.o.P→bitU x.o.u n=true:=fun n a b=>by
    cases hc:bitU x.o.u n with
    | true=>rfl
    | false=>exact absurd ⟨n,a,b,hc⟩ hfree
   refine W_bind.2 ((xtake hx he).mono fun r1 m1 hq=>?_)
   rcases hq with ⟨rfl,h1,u1⟩|⟨n,c,y1,y2,y3,rfl,h1,u1⟩
   ·have x1:=u1.next
    have sub1:∀ b,b∈[x.xb]→b∈x.fp:=fun b hb=>by simp at hb; simp [Wx.fp,hb]
    have u1:Upd x.fp m m1:=u1.mono fun b hb _=>sub1 b hb
    have l2':runLoad1 (.pointer (some ⟨b2,0,none⟩)) m1=some (str key):=load_at (u1.boxes g2 hb.1.2.1 hb.2.1) rfl
    have l3':runLoad1 (.pointer (some ⟨b3,0,none⟩)) m1=some (str val):=load_at (u1.boxes g3 hb.1.2.2 hb.2.2) rfl
    simp -implicitDefEqProofs only [st0,newVal,reduceIte,fillL,l2',l3']
    refine W_bind.2 ((nput_ok key val (tn m1) fit0 (Nat.le_refl _)).mono fun v2 m2 ⟨t2',u2⟩=>?_)
    have t2':TN m1.next m2 v2 (Nd.lf (putN [] key val)):=t2'
    have h2:=h1.upd0 u2
    refine W_bind.2 ((xwrite1 h2 (by show (8:Nat)≠0; omega) (.int .i64 0) t2' hr hsz).mono fun v3 m3 ⟨_,u3⟩=>?_)
    simp -implicitDefEqProofs only [st0,newVal,reduceIte]
    exact ⟨_,h2.upd0 u3,⟨rfl,rfl,rfl,rfl,rfl,rfl,rfl,rfl,rfl,rfl⟩,(u1.then0 u2).then0 u3,.inl ⟨rfl,.inl ⟨rfl,hall⟩⟩⟩
   ·rw [hall n y1 y2] at y3; cases y3
 ·have hpos:=root_pos ht
  have hlow:=(Tr_low hP ht hnd).1
  have e0:((root:Int)=0)=False:=eq_false (by omega)
  simp -implicitDefEqProofs only [st0,newVal,reduceIte,l1,l2,l3,e0]
  refine W_bind.2 ((xinsert hkv.1 hkv.2 h x m root 40 [] none l U hx he (by omega) hf (by omega) (by omega) ht hnd (in_all key)).mono fun r1 m1 hq=>?_)
  rcases hq with ⟨h4,x',a1,a2,a3,a4⟩|⟨x',ps,U',a1,a2,a3,a4,a5,a6,a7,a8,a9,a10⟩
  ·have z:=xroot0 a1 (by omega) r1
   rw [a2.v] at z
   simp -implicitDefEqProofs only [st0,newVal,reduceIte,z]
   exact ⟨x',a1,a2,a4,.inl ⟨a3,.inr ⟨by omega,h4⟩⟩⟩
  ·have z:=root_tree a1 a3 a5 (by rw [a2.fp]; exact hx.fp_lt) a6 a7 a9
   rw [a2.v] at z
   refine W_bind.2 (z.mono fun r2 m2 hq=>?_)
   simp -implicitDefEqProofs only [st0,newVal,reduceIte]
   rcases hq with ⟨h4,x'',b1',b2',b3',b4⟩|⟨x'',root',U'',rfl,b1',b2',b3',b4,b5,b6,b7,b8,b9⟩
   ·exact ⟨x'',b1',a2.trans b2',a10.trans (by rw [a2.fp] at b4; exact b4),.inl ⟨b3',.inr ⟨by omega,h4⟩⟩⟩
   ·refine ⟨x'',b1',a2.trans b2',a10.trans (by rw [a2.fp] at b8; exact b8),.inr ⟨b3',b5,root',U'',rfl,.inr ?_,a8.trans b6,b7⟩⟩
    rcases b9 with ⟨d1,rfl,rfl,d4⟩|d
    ·rw [d1]; exact ⟨h,d4⟩
    ·exact ⟨h+1,d⟩
theorem Wo.foot_lt {o:Wo} {ns:List St} {m:Mem} (h:WI o ns m) {b:Nat} (hb:m.next≤b):b∉o.foot:=fun hm=>by have:=h.lt b hm; omega
theorem tput_ok {o:Wo} {ns:List St} {m:Mem} (h:WI o ns m) (hnl:ns.length≤90000) {root:Nat} {l:List Pr} {U:List Nat} (ht:TrR o.s root l U) (hnd:U.Nodup) (key val:Bs) :
    W (Call S tab 30 [.pointer (some ⟨o.w,0,none⟩),.int .i64 (root:Int),str key,str val] m) fun r m'=>∃ o' ns',WI o' ns' m'∧Nx o o' m m'∧ns'.length≤ns.length+1 ∧
      ((¬ Kv key val∧r=.tuple #[.int .i64 (root:Int),.int .i64 1]∧o'=o)∨(Kv key val∧Tight o root (putN l key val)∧r=.tuple #[.int .i64 (root:Int),.int .i64 8]∧o'.s=o.s) ∨
       (Kv key val∧∃ (root':Nat) (U':List Nat),r=.tuple #[.int .i64 (root':Int),.int .i64 0]∧TrR o'.s root' (putN l key val) U'∧Stp o.s o'.s U U'∧U'.Nodup)):=by
  rw [C30]
  have u1:Upd [] m (m.add ⟨.cells [.int .i64 (root:Int)] 3,false,none⟩):=Upd.add _ _ _
  have g1:(m.add ⟨.cells [.int .i64 (root:Int)] 3,false,none⟩).get m.next=some ⟨.cells [.int .i64 (root:Int)] 3,false,none⟩:=Mem.get_add_self ..
  have n1:(m.add ⟨.cells [.int .i64 (root:Int)] 3,false,none⟩).next=m.next+1:=rfl
  simp -implicitDefEqProofs only [st0,newVal,reduceIte,cells_int,cells_str]
  generalize (m.add ⟨.cells [.int .i64 (root:Int)] 3,false,none⟩)=m1 at u1 g1 n1
  have u2:Upd [] m1 (m1.add ⟨.cells [str key] 9,false,none⟩):=Upd.add _ _ _
  have k2:(m1.add ⟨.cells [str key] 9,false,none⟩).get m1.next=some ⟨.cells [str key] 9,false,none⟩:=Mem.get_add_self ..
  have n2:(m1.add ⟨.cells [str key] 9,false,none⟩).next=m1.next+1:=rfl
  have g2:=keepg u2 (by omega) g1
  generalize (m1.add ⟨.cells [str key] 9,false,none⟩)=m2 at u2 k2 n2 g2
  have u3:Upd [] m2 (m2.add ⟨.cells [str val] 9,false,none⟩):=Upd.add _ _ _
  have j3:(m2.add ⟨.cells [str val] 9,false,none⟩).get m2.next=some ⟨.cells [str val] 9,false,none⟩:=Mem.get_add_self ..
  have n3:(m2.add ⟨.cells [str val] 9,false,none⟩).next=m2.next+1:=rfl
  have g3:=keepg u3 (by omega) g2
  have k3:=keepg u3 (by omega) k2
  generalize (m2.add ⟨.cells [str val] 9,false,none⟩)=m3 at u3 j3 n3 g3 k3
  have u03:Upd [] m m3:=(u1.then0 u2).then0 u3
  have h3:=h.upd0 u03
  have lr:runLoad1 (.pointer (some ⟨m.next,0,none⟩)) m3=some (.int .i64 (root:Int)):=load_at g3 rfl
  have lk:runLoad1 (.pointer (some ⟨m1.next,0,none⟩)) m3=some (str key):=load_at k3 rfl
  have lv:runLoad1 (.pointer (some ⟨m2.next,0,none⟩)) m3=some (str val):=load_at j3 rfl
  have eq0:arith .eql (str key) (.string ⟨#[]⟩)=some (.bool (decide (key=[]))):=eql_str key []
  have bad:¬ Kv key val→W (some (.tuple #[.int .i64 (root:Int),.int .i64 1],m3):O) fun r m'=>∃ o' ns',WI o' ns' m'∧Nx o o' m m'∧ns'.length≤ns.length+1 ∧
      ((¬ Kv key val∧r=.tuple #[.int .i64 (root:Int),.int .i64 1]∧o'=o)∨(Kv key val∧Tight o root (putN l key val)∧r=.tuple #[.int .i64 (root:Int),.int .i64 8]∧o'.s=o.s) ∨
       (Kv key val∧∃ (root':Nat) (U':List Nat),r=.tuple #[.int .i64 (root':Int),.int .i64 0]∧TrR o'.s root' (putN l key val) U'∧Stp o.s o'.s U U'∧U'.Nodup)) :=
    fun hn=>W_some.2 ⟨o,ns,h3,Nx.of0 u03,by omega,.inl ⟨hn,rfl,rfl⟩⟩
  by_cases c1:key=[]
  · have e1:decide (key=[])=true:=decide_eq_true c1
    have:=bad (fun hk=>hk.1.1 c1)
    simp -implicitDefEqProofs only [st0,newVal,reduceIte] at this
    simp -implicitDefEqProofs only [st0,newVal,reduceIte,lk,eq0,e1,lr]
    exact this
  have e1:decide (key=[])=false:=decide_eq_false c1
  by_cases c2:key.length≤32
  · have e2:((32:Int)<(key.length:Int))=False:=eq_false (by omega)
    by_cases c3:val.length≤40
    · have e3:((40:Int)<(val.length:Int))=False:=eq_false (by omega)
      have hkv:Kv key val:=⟨⟨c1,c2⟩,c3⟩
      simp -implicitDefEqProofs only [st0,newVal,reduceIte,lk,eq0,e1,len_str,e2,lv,e3,lr]
      refine W_bind.2 ((do_ok (f:=71) h3 hnl (by rfl) (E:=Tight o root (putN l key val)) (Q:=fun r o'=>∃ (root':Nat) (U':List Nat),r=.int .i64 (root':Int)∧TrR o'.s root' (putN l key val) U'∧Stp o.s o'.s U U'∧U'.Nodup) (fun x mb hx he hrd hf hs hPx hu hub hfp=>?_)).mono fun r m' hq=>?_)
      · have nfoot:∀ b,m.next≤b→b<m3.next→b∉o.w::blkOf o.nt∧b∉x.fp:=fun b h1 h2=>by
          have hn:b∉o.foot:=Wo.foot_lt h h1
          refine ⟨fun hm=>hn ?_,fun hm=>(hfp b hm).elim hn (fun h=>by omega)⟩
          simp only [Wo.foot,List.mem_cons] at hm ⊢
          rcases hm with h|h<;>simp [h]
        have hbn:=hub.next
        refine (put_body hkv hx he hrd hf (by rw [hs]; exact ht) hnd (hub.boxes g3 (by omega) (nfoot _ (by omega) (by omega)).1) (hub.boxes k3 (by omega) (nfoot _ (by omega) (by omega)).1) (hub.boxes j3 (by omega) (nfoot _ (by omega) (by omega)).1) ⟨⟨by omega,by omega,by omega⟩,(nfoot _ (by omega) (by omega)).2,(nfoot _ (by omega) (by omega)).2⟩).mono fun r m' hq=>?_
        obtain ⟨x',a1,a2,a3,a4⟩:=hq
        refine ⟨x',a1,a2,a3,a4.imp (fun ⟨z1,z2⟩=>⟨z1,?_⟩) fun ⟨z1,z2,root',U',z3,z4,z5,z6⟩=>⟨z1,z2,root',U',z3,z4,by rw [← hs]; exact z5,z6⟩⟩
        unfold Tight at z2 ⊢
        rw [hPx,hu] at z2
        exact z2
      · obtain ⟨o',ns',b1,b2,b3,b4⟩:=hq
        have nx:Nx o o' m m':=(Nx.of0 u03).trans b2
        rcases b4 with ⟨d1,rfl,d3⟩|⟨v,rfl,root',U',rfl,d3,d4,d5⟩
        · simp -implicitDefEqProofs only [st0,newVal,reduceIte,xt0,xt1]
          exact ⟨o',ns',b1,nx,by omega,.inr (.inl ⟨hkv,d1,trivial,d3⟩)⟩
        · simp -implicitDefEqProofs only [st0,newVal,reduceIte,xt0,xt1]
          exact ⟨o',ns',b1,nx,by omega,.inr (.inr ⟨hkv,root',U',rfl,d3,d4,d5⟩)⟩
    · have e3:((40:Int)<(val.length:Int))=True:=eq_true (by omega)
      have:=bad (fun hk=>c3 hk.2)
      simp -implicitDefEqProofs only [st0,newVal,reduceIte] at this
      simp -implicitDefEqProofs only [st0,newVal,reduceIte,lk,eq0,e1,len_str,e2,lv,e3,lr]
      exact this
  · have e2:((32:Int)<(key.length:Int))=True:=eq_true (by omega)
    have:=bad (fun hk=>c2 hk.1.2)
    simp -implicitDefEqProofs only [st0,newVal,reduceIte] at this
    simp -implicitDefEqProofs only [st0,newVal,reduceIte,lk,eq0,e1,len_str,e2,lr]
    exact this
end Go.Fx.Tryz
namespace Go.Fx.Tryz
open Go Go.Fx
set_option linter.unusedSimpArgs false
set_option linter.unusedVariables false
def valN (l:List Pr) (key:Bs):Bs:=if thereN l key then (l.getD (aheadN l key) ([],[])).2 else []
theorem val_mid {a b c:List Pr} {key:Bs} (ha:∀ x∈a,ltB x.1 key=true) (hc:∀ x∈c,ltB x.1 key=false∧x.1≠key):valN (a++(b++c)) key=valN b key:=by
 unfold valN
 rw [there_mid ha hc,ahead_mid ha (fun x hx=>(hc x hx).1)]
 cases ht:thereN b key with
 | false=>rfl
 | true =>
  have:=thereN_lt ht
  simp only [if_true]
  rw [List.getD_eq_getElem?_getD,List.getElem?_append_right (by omega),Nat.add_sub_cancel_left,List.getElem?_append_left this,← List.getD_eq_getElem?_getD]
set_option maxRecDepth 4000 in
theorem get_loop {key:Bs}:∀ (h:Nat) (x:Wx) (m:Mem) (page left:Nat) (lo:Bs) (hi:Option Bs) (l:List Pr) (U:List Nat),XR x m→x.err=0→x.rd+h<1000→h<left→left≤40→Tr x.o.s h page lo hi l U→inR lo hi key →
  W (P19_0 (.int .i64 (page:Int)) (str key) x.v (.int .i64 (left:Int)) m) fun r m'=>r=.tuple #[str (valN l key),.bool (thereN l key),.int .i64 0]∧Upd [x.xb] m m':=by
 intro h
 induction h with
 | zero =>
  intro x m page left lo hi l U hx he hrd hle hl40 ht hin
  obtain ⟨n,U',hp,hn,hnt,rfl⟩:=Tr_iff.1 ht
  have hnt0:n=Nd.lf l∧(∀ x∈l,inR lo hi x.1)∧U'=[]:=hnt
  obtain ⟨rfl,hl,rfl⟩:=hnt0
  obtain ⟨hh,hlk⟩:=hp.here
  have hlt:=has_lt hh
  have hP:=hx.wr.hP
  have e0:((page:Int)=0)=False:=eq_false (by omega)
  rw [P19_0_eq]
  simp -implicitDefEqProofs only [st0,newVal,reduceIte,e0]
  refine W_bind.2 ((xread hx he (by omega) (by omega) (by omega) hh hlk hp.rt hp.sz).mono fun v1 m1 ⟨t1,h1,u1⟩=>?_)
  have x1:=u1.next
  have hT:=t1
  obtain ⟨sp,sk,si,rfl,q1,q2,q3⟩:=t1.ex
  simp -implicitDefEqProofs only [st0,newVal,reduceIte]
  refine W_box (c:=[.bool (Nd.lf l).leaf,sp,sk,si]) rfl rfl (by simp [q1.one.2,q2.one.2,q3.one.2,show (Value.bool (Nd.lf l).leaf).oneCell'=true from rfl]) fun m2 b2 u2 n2=>?_
  have h2:=h1.upd0 u2
  have T2:=hT.upd0 u2
  have e5:=xok h2
  rw [decide_eq_true (show ({ x with rd:=x.rd+1 }:Wx).err=0 from he)] at e5
  have hlf:(Nd.lf l).leaf=true:=rfl
  rw [hlf] at b2
  simp -implicitDefEqProofs only [st0,newVal,reduceIte,e5,fa,ndload b2 (o:=0+0) rfl,nodeB_any b2]
  refine W_bind.2 ((find_ok key T2 (size_fit hp.rt hp.sz)).mono fun v3 m3 ⟨r3,u3⟩=>?_)
  subst r3
  have b3:=keepg u3 (by omega) b2
  have q13:RSl m.next encP m3 sp l:=(q1.upd0 u2).upd0 u3
  have u03:Upd [x.xb] m m3:=(u1.then0 u2).then0 u3
  show W _ _
  cases hth:thereN l key with
  | true =>
   have hth':thereN (Nd.lf l).pairs key=true:=hth
   have halt:=thereN_lt hth
   obtain ⟨b,off,i1,i2⟩:=q13.1.at .i64 (getI halt)
   rw [encP_size] at i1 i2
   have i3:=(i2 m3 q13.1).2 1 (str l[aheadN l key].2) rfl
   have i1:runIndexS 2 sp (.int .i64 ((aheadN (Nd.lf l).pairs key:Nat):Int))=some (.pointer (some ⟨b,off,none⟩)):=i1
   simp -implicitDefEqProofs only [st0,newVal,reduceIte,xt0,xt1,hth',fa,ndload b3 (o:=0+1) rfl,i1,i3]
   refine ⟨?_,u03⟩
   unfold valN
   rw [hth,if_pos rfl,List.getD_eq_getElem?_getD,List.getElem?_eq_getElem halt]; rfl
  | false =>
   have hth':thereN (Nd.lf l).pairs key=false:=hth
   simp -implicitDefEqProofs only [st0,newVal,reduceIte,xt0,xt1,hth']
   refine ⟨?_,u03⟩
   unfold valN
   rw [hth]; rfl
 | succ h ih =>
  intro x m page left lo hi l U hx he hrd hle hl40 ht hin
  obtain ⟨n,U',hp,hn,hnt,rfl⟩:=Tr_iff.1 ht
  obtain ⟨ks,ps,rfl,hks,hfo⟩:=hnt
  obtain ⟨hh,hlk⟩:=hp.here
  have hlt:=has_lt hh
  have hP:=hx.wr.hP
  obtain ⟨_,i1,r1,v1,p1⟩:=right_inner hp.rt rfl
  have i1:ps.length=ks.length+1:=i1
  have r1:risingK ks=true:=r1
  have hcl:=(child_spec key ks r1).2.2
  obtain ⟨p,lo',hi',l0,l1,l2,S0,S1,S2,e1,e2,e3,e4,e5,e6,e7,e8,e9⟩:=Fo_key (Tr_rng x.o.s h) hfo r1 hks hin
  subst e5 e6
  have ecl:∀ y∈l2,ltB y.1 key=false∧y.1≠key:=fun y hy=>⟨ltB_asymm (e9 y hy),(ltB_ne (e9 y hy)).symm⟩
  rw [there_mid e8 ecl,val_mid e8 ecl]
  have e0:((page:Int)=0)=False:=eq_false (by omega)
  rw [P19_0_eq]
  simp -implicitDefEqProofs only [st0,newVal,reduceIte,e0]
  refine W_bind.2 ((xread hx he (by omega) (by omega) (by omega) hh hlk hp.rt hp.sz).mono fun v1 m1 ⟨t1,h1,u1⟩=>?_)
  have x1:=u1.next
  have hT:=t1
  obtain ⟨sp,sk,si,rfl,q1,q2,q3⟩:=t1.ex
  have q3:RSl m.next encK m1 si ps:=q3
  simp -implicitDefEqProofs only [st0,newVal,reduceIte]
  refine W_box (c:=[.bool (Nd.nd ks ps).leaf,sp,sk,si]) rfl rfl (by simp [q1.one.2,q2.one.2,q3.one.2,show (Value.bool (Nd.nd ks ps).leaf).oneCell'=true from rfl]) fun m2 b2 u2 n2=>?_
  have h2:=h1.upd0 u2
  have T2:=hT.upd0 u2
  have z5:=xok h2
  rw [decide_eq_true (show ({ x with rd:=x.rd+1 }:Wx).err=0 from he)] at z5
  have hlf:(Nd.nd ks ps).leaf=false:=rfl
  rw [hlf] at b2
  simp -implicitDefEqProofs only [st0,newVal,reduceIte,z5,fa,ndload b2 (o:=0+0) rfl,ndload b2 (o:=0+3) rfl,nodeB_any b2]
  refine W_bind.2 ((child_ok key T2 (size_fit hp.rt hp.sz)).mono fun v3 m3 ⟨r3,u3⟩=>?_)
  subst r3
  have h3:=h2.upd0 u3
  have b3:=keepg u3 (by omega) b2
  have q33:=(q3.upd0 u2).upd0 u3
  have hget:ps[childN ks key]? = some p:=by
   have:=congrArg (fun t:List Nat=>t[childN ks key]?) e1
   rw [this,List.getElem?_append_right (by rw [List.length_take]; omega),List.length_take,Nat.min_eq_left (by omega),Nat.sub_self]; rfl
  obtain ⟨pk,y1,y2⟩:=idxK q33 hget
  have y2:=y2 m3 q33
  have esub:arith .sub (.int .i64 (left:Int)) (.int .i64 1)=some (.int .i64 ((left - 1:Nat):Int)):=by rw [i64_sub (by omega) (by omega)]; congr 2; omega
  have y1':runIndexS 1 si (.int .i64 ((childN (Nd.nd ks ps).keys key:Nat):Int))=some pk:=y1
  simp -implicitDefEqProofs only [st0,newVal,reduceIte,y1',y2,esub]
  have u03:Upd [x.xb] m m3:=(u1.then0 u2).then0 u3
  refine chkN (fun r hr=>?_) ((ih { x with rd:=x.rd+1 } m3 p (left - 1) lo' hi' l1 S1 h3 he (by show x.rd+1+h<1000; omega) (by omega) (by omega) e3 e7).mono fun r m' ⟨a,b⟩=>⟨a,u03.trans b⟩)
  simp only [List.mem_cons,List.not_mem_nil,or_false] at hr
  rcases hr with rfl|rfl|rfl
  ·exact okR fun k _ hk=>by
    have:k=0∨k=1:=by omega
    rcases this with rfl|rfl
    ·exact ⟨_,rfl,ndload b2 rfl⟩
    ·exact ⟨_,rfl,ndload b3 rfl⟩
  ·exact okR fun k _ hk=>by
    obtain rfl:k=0:=by omega
    exact ⟨_,rfl,nodeB_any b2⟩
  ·exact okR fun k hk1 hk=>by
    obtain rfl:k=1:=by omega
    exact ⟨_,rfl,y2⟩
theorem get_ok {o:Wo} {m:Mem} (h:WR o m) {root:Nat} {l:List Pr} {U:List Nat} (ht:TrR o.s root l U) (hnd:U.Nodup) (key:Bs) :
  W (Call S tab 19 [.pointer (some ⟨o.w,0,none⟩),.int .i64 (root:Int),str key] m) fun r m'=>r=.tuple #[str (valN l key),.bool (thereN l key),.int .i64 0]∧Upd [] m m':=by
 rw [C19]
 simp -implicitDefEqProofs only [st0,newVal,reduceIte,fillX,cells_agg]
 have hxr:=XR.begin h
 have u1:Upd [] m (m.add (x0 o m.next).blk):=Upd.add _ _ _
 have eblk:(⟨.cells [.pointer (some ⟨o.w,0,none⟩),.int .i64 0,.int .i64 0] 84,false,none⟩:ABlk)=(x0 o m.next).blk:=rfl
 rw [eblk]
 generalize (m.add (x0 o m.next).blk)=m1 at u1 hxr
 rcases ht with ⟨rfl,rfl,rfl⟩|⟨g,ht⟩
 ·have e0:(((0:Nat):Int)=0)=True:=eq_true rfl
  rw [P19_0_eq]
  simp -implicitDefEqProofs only [st0,newVal,reduceIte,e0]
  exact ⟨rfl,u1⟩
 ·have hlow:=(Tr_low h.hP ht hnd).1
  refine (get_loop g (x0 o m.next) m1 root 40 [] none l U hxr rfl (by show 0+g<1000; omega) (by omega) (by omega) ht (in_all key)).mono fun r m' ⟨a,b⟩=>⟨a,u1.then' b (fun c hc=>.inr (by simp at hc; omega))⟩
set_option maxRecDepth 4000 in
theorem delete_body {x:Wx} {m:Mem} {key:Bs} {root b1 b2 h:Nat} {l:List Pr} {U:List Nat} (hx:XR x m) (he:x.err=0) (hrd:x.rd=0) (hf:Fu x.o) (ht:Tr x.o.s h root [] none l U) (hnd:U.Nodup) (hth:thereN l key=true) {t1 t2:TypeId}
  (g1:m.get b1=some ⟨.cells [.int .i64 (root:Int)] t1,false,none⟩) (g2:m.get b2=some ⟨.cells [str key] t2,false,none⟩) :
  W (Call S tab 58 [x.v,.pointer (some ⟨b1,0,none⟩),.pointer (some ⟨b2,0,none⟩)] m) fun r m'=>∃ x',XR x' m'∧Kin x x'∧Upd x.fp m m'∧((x'.err=8∧4≤(cutN l key).length) ∨
   (x'.err=0∧Fu x'.o∧∃ (root':Nat) (U':List Nat),r=.int .i64 (root':Int)∧TrR x'.o.s root' (cutN l key) U'∧Stp x.o.s x'.o.s U U'∧U'.Nodup)):=by
 have hP:=hx.wr.hP
 have l1:runLoad1 (.pointer (some ⟨b1,0,none⟩)) m=some (.int .i64 (root:Int)):=load_at g1 rfl
 have l2:runLoad1 (.pointer (some ⟨b2,0,none⟩)) m=some (str key):=load_at g2 rfl
 have hlow:=(Tr_low hP ht hnd).1
 rw [C58]
 simp -implicitDefEqProofs only [st0,newVal,reduceIte,l1,l2]
 refine W_bind.2 ((xremove h x m root 40 [] none l U hx he (by omega) hf (by omega) (by omega) ht hnd (in_all key) hth).mono fun r1 m1 hq=>?_)
 obtain ⟨r1',bb,rfl,hq⟩:=hq
 rcases hq with ⟨h4,x',a1,a2,a3,a4⟩|⟨rfl,x',ps,U',a1,a2,a3,a4,a5,a6,a7,a8,a9,a10⟩
 ·have z:=xroot0 a1 (by omega) r1'
  have z1:=xok a1
  rw [decide_eq_false (show ¬ x'.err=0 by omega)] at z1
  rw [a2.v] at z z1
  simp -implicitDefEqProofs only [st0,newVal,reduceIte,xt0,xt1,z,z1]
  exact ⟨x',a1,a2,a4,.inl ⟨a3,h4⟩⟩
 ·have z:=root_tree a1 a3 a5 (by rw [a2.fp]; exact hx.fp_lt) a6 a7 a9
  rw [a2.v] at z
  simp -implicitDefEqProofs only [st0,newVal,reduceIte,xt0,xt1]
  refine W_bind.2 (z.mono fun r2 m2 hq=>?_)
  rcases hq with ⟨h4,x'',b1',b2',b3',b4⟩|⟨x'',root',U'',rfl,b1',b2',b3',b4,b5,b6,b7,b8,b9⟩
  ·have z1:=xok b1'
   rw [decide_eq_false (show ¬ x''.err=0 by omega),b2'.v,a2.v] at z1
   simp -implicitDefEqProofs only [st0,newVal,reduceIte,z1]
   exact ⟨x'',b1',a2.trans b2',a10.trans (by rw [a2.fp] at b4; exact b4),.inl ⟨b3',h4⟩⟩
  ·have z1:=xok b1'
   rw [decide_eq_true b3',b2'.v,a2.v] at z1
   have k2:=a2.trans b2'
   have hw:∃ g,Tw x''.o.s g root' [] none (cutN l key) U'':=by
    rcases b9 with ⟨d1,rfl,rfl,d4⟩|d
    ·rw [d1]; exact ⟨h,d4⟩
    ·exact ⟨h+1,d.weak⟩
   obtain ⟨g,hw⟩:=hw
   simp -implicitDefEqProofs only [st0,newVal,reduceIte,z1]
   have z2:=shrink_tree b1' b3' b5 (by omega) hw b7
   rw [b2'.v,a2.v] at z2
   refine W_bind.2 (z2.mono fun r3 m3 hq=>?_)
   obtain ⟨x3,root3,U3,rfl,c1,c2,c3,c4,c5,c6,c7,c8⟩:=hq
   simp -implicitDefEqProofs only [st0,newVal,reduceIte]
   rw [a2.fp] at b8
   rw [k2.fp] at c8
   exact ⟨x3,c1,k2.trans c2,(a10.trans b8).trans c8,.inr ⟨c3,c4,root3,U3,rfl,c5,(a8.trans b6).trans c6,c7⟩⟩
theorem tdelete_ok {o:Wo} {ns:List St} {m:Mem} (h:WI o ns m) (hnl:ns.length≤90000) {root:Nat} {l:List Pr} {U:List Nat} (ht:TrR o.s root l U) (hnd:U.Nodup) (key:Bs) :
    W (Call S tab 25 [.pointer (some ⟨o.w,0,none⟩),.int .i64 (root:Int),str key] m) fun r m'=>∃ o' ns',WI o' ns' m'∧Nx o o' m m'∧ns'.length≤ns.length+1 ∧
      ((thereN l key=false∧r=.tuple #[.int .i64 (root:Int),.bool false,.int .i64 0]∧o'=o)∨(thereN l key=true∧4≤(cutN l key).length∧r=.tuple #[.int .i64 (root:Int),.bool false,.int .i64 8]∧o'.s=o.s) ∨
       (thereN l key=true∧∃ (root':Nat) (U':List Nat),r=.tuple #[.int .i64 (root':Int),.bool true,.int .i64 0]∧TrR o'.s root' (cutN l key) U'∧Stp o.s o'.s U U'∧U'.Nodup)):=by
  rw [C25]
  have u1:Upd [] m (m.add ⟨.cells [.int .i64 (root:Int)] 3,false,none⟩):=Upd.add _ _ _
  have g1:(m.add ⟨.cells [.int .i64 (root:Int)] 3,false,none⟩).get m.next=some ⟨.cells [.int .i64 (root:Int)] 3,false,none⟩:=Mem.get_add_self ..
  have n1:(m.add ⟨.cells [.int .i64 (root:Int)] 3,false,none⟩).next=m.next+1:=rfl
  simp -implicitDefEqProofs only [st0,newVal,reduceIte,cells_int,cells_str]
  generalize (m.add ⟨.cells [.int .i64 (root:Int)] 3,false,none⟩)=m1 at u1 g1 n1
  have u2:Upd [] m1 (m1.add ⟨.cells [str key] 9,false,none⟩):=Upd.add _ _ _
  have k2:(m1.add ⟨.cells [str key] 9,false,none⟩).get m1.next=some ⟨.cells [str key] 9,false,none⟩:=Mem.get_add_self ..
  have n2:(m1.add ⟨.cells [str key] 9,false,none⟩).next=m1.next+1:=rfl
  have g2:=keepg u2 (by omega) g1
  generalize (m1.add ⟨.cells [str key] 9,false,none⟩)=m2 at u2 k2 n2 g2
  have u02:Upd [] m m2:=u1.then0 u2
  have h2:=h.upd0 u02
  have lr:runLoad1 (.pointer (some ⟨m.next,0,none⟩)) m2=some (.int .i64 (root:Int)):=load_at g2 rfl
  have lk:runLoad1 (.pointer (some ⟨m1.next,0,none⟩)) m2=some (str key):=load_at k2 rfl
  have htt:=ht
  rcases ht with ⟨rfl,rfl,rfl⟩|⟨g,ht⟩
  · have e0:(((0:Nat):Int)=0)=True:=eq_true rfl
    simp -implicitDefEqProofs only [st0,newVal,reduceIte,lr,e0]
    exact ⟨o,ns,h2,Nx.of0 u02,by omega,.inl ⟨rfl,rfl,rfl⟩⟩
  · have hpos:=root_pos ht
    have e0:((root:Int)=0)=False:=eq_false (by omega)
    have d0:decide ((0:Int)=0)=true:=rfl
    have d8:decide ((8:Int)=0)=false:=rfl
    simp -implicitDefEqProofs only [st0,newVal,reduceIte,lr,e0,lk]
    refine W_bind.2 ((get_ok h2.wr htt hnd key).mono fun r3 m3 ⟨r3e,u3⟩=>?_)
    subst r3e
    have x3:=u3.next
    have g3:=keepg u3 (by omega) g2
    have k3:=keepg u3 (by omega) k2
    have h3:=h2.upd0 u3
    have u03:Upd [] m m3:=u02.then0 u3
    have lr3:runLoad1 (.pointer (some ⟨m.next,0,none⟩)) m3=some (.int .i64 (root:Int)):=load_at g3 rfl
    cases hth:thereN l key with
    | false =>
      simp -implicitDefEqProofs only [st0,newVal,reduceIte,(ex3 _ _ _).1,(ex3 _ _ _).2.1,(ex3 _ _ _).2.2,d0,lr3]
      exact ⟨o,ns,h3,Nx.of0 u03,by omega,.inl ⟨trivial,trivial,rfl⟩⟩
    | true =>
      simp -implicitDefEqProofs only [st0,newVal,reduceIte,(ex3 _ _ _).1,(ex3 _ _ _).2.1,(ex3 _ _ _).2.2,d0,lr3]
      refine W_bind.2 ((do_ok (f:=58) h3 hnl (by rfl) (E:=4≤(cutN l key).length) (Q:=fun r o'=>∃ (root':Nat) (U':List Nat),r=.int .i64 (root':Int)∧TrR o'.s root' (cutN l key) U'∧Stp o.s o'.s U U'∧U'.Nodup) (fun x mb hx he hrd hf hs hPx hu hub hfp=>?_)).mono fun r m' hq=>?_)
      · have nfoot:∀ b,m.next≤b→b<m3.next→b∉o.w::blkOf o.nt:=fun b h1 h2 hm=>by
          have hn:b∉o.foot:=Wo.foot_lt h h1
          apply hn
          simp only [Wo.foot,List.mem_cons] at hm ⊢
          rcases hm with h|h<;>simp [h]
        refine (delete_body hx he hrd hf (by rw [hs]; exact ht) hnd hth (hub.boxes g3 (by omega) (nfoot _ (by omega) (by omega))) (hub.boxes k3 (by omega) (nfoot _ (by omega) (by omega)))).mono fun r m' hq=>?_
        obtain ⟨x',a1,a2,a3,a4⟩:=hq
        exact ⟨x',a1,a2,a3,a4.imp id fun ⟨z1,z2,root',U',z3,z4,z5,z6⟩=>⟨z1,z2,root',U',z3,z4,by rw [← hs]; exact z5,z6⟩⟩
      · obtain ⟨o',ns',b1,b2,b3,b4⟩:=hq
        have nx:Nx o o' m m':=(Nx.of0 u03).trans b2
        rcases b4 with ⟨d1,rfl,d3⟩|⟨v,rfl,root',U',rfl,d3,d4,d5⟩
        · simp -implicitDefEqProofs only [st0,newVal,reduceIte,xt0,xt1,d8]
          exact ⟨o',ns',b1,nx,by omega,.inr (.inl ⟨trivial,d1,trivial,d3⟩)⟩
        · simp -implicitDefEqProofs only [st0,newVal,reduceIte,xt0,xt1,d0]
          exact ⟨o',ns',b1,nx,by omega,.inr (.inr ⟨trivial,root',U',rfl,d3,d4,d5⟩)⟩
end Go.Fx.Tryz
namespace Go.Fx.Tryz
open Go Go.Fx
set_option linter.unusedSimpArgs false
set_option linter.unusedVariables false
def Ks (R:Nat→List Nat→Prop):List Nat→List Nat→Prop
 | [],U=>U=[]
 | p::ps,U=>∃ U1 U2,R p U1∧Ks R ps U2∧U=U1++U2
theorem Stp.join {s s' s'':Nat→Option Bs} {A B:List Nat} (h:Stp s s' A []) (k:Stp s' s'' B []) (hd:∀ q∈A,q∉B):Stp s s'' (A++B) []:=by
 refine ⟨fun q h1 _=>?_,(fun q hq=>by cases hq),fun q h1 _=>?_⟩
 ·simp only [List.mem_append,not_or] at h1
  rw [k.out q h1.2 (by simp),h.out q h1.1 (by simp)]
 ·rcases List.mem_append.1 h1 with h2|h2
  ·rw [k.out q (hd q h2) (by simp)]; exact h.gone q h2 (by simp)
  ·exact k.gone q h2 (by simp)
end Go.Fx.Tryz
namespace Go.Fx.Tryz
open Go Go.Fx
set_option linter.unusedSimpArgs false
set_option linter.unusedVariables false
theorem fillPr (p:Pr):afill [.string ⟨#[]⟩,.string ⟨#[]⟩] [(0,2,.agg #[str p.1,str p.2])]=some (encP.flat [p]):=by
 obtain ⟨a,b⟩:=p
 kernel_rfl
theorem Fo_step {R:TP} {p:Nat} {ps:List Nat} {ks:List Bs} {lo:Bs} {hi:Option Bs} {l:List Pr} {U:List Nat} (h:Fo R lo hi ks (p::ps) l U) :
  ∃ l1 U1 l2 U2,l=l1++l2∧U=U1++U2∧((ks=[]∧ps=[]∧R p lo hi l1 U1∧l2=[]∧U2=[])∨∃ k ks',ks=k::ks'∧R p lo (some k) l1 U1∧Fo R k hi ks' ps l2 U2):=by
 match ks,ps,h with
 | [],[],h=>exact ⟨l,U,[],[],by simp,by simp,.inl ⟨rfl,rfl,h,rfl,rfl⟩⟩
 | k::ks,ps,⟨l1,U1,l2,U2,h1,h2,h3,h4⟩=>exact ⟨l1,U1,l2,U2,h3,h4,.inr ⟨k,ks,rfl,h1,h2⟩⟩
theorem Fo_most {R:TP} (hR:∀ p lo hi l U,R p lo hi l U→l.length≤127 * U.length):∀ (ks:List Bs) (ps:List Nat) (lo:Bs) (hi:Option Bs) (l:List Pr) (U:List Nat),Fo R lo hi ks ps l U→l.length≤127 * U.length
 | [],[p],lo,hi,l,U,h=>hR _ _ _ _ _ h
 | k::ks,p::ps,lo,hi,l,U,⟨l1,U1,l2,U2,h1,h2,h3,h4⟩=>by
  subst h3 h4
  have a:=hR _ _ _ _ _ h1
  have b:=Fo_most hR ks ps _ _ _ _ h2
  simp only [List.length_append]; omega
 | [],[],_,_,_,_,hf=>hf.elim
 | [],_::_::_,_,_,_,_,hf=>hf.elim
 | _::_,[],_,_,_,_,hf=>hf.elim
theorem Tr_most (s:Nat→Option Bs):∀ (h p:Nat) (lo:Bs) (hi:Option Bs) (l:List Pr) (U:List Nat),Tr s h p lo hi l U→l.length≤127 * U.length
 | 0,p,lo,hi,l,U,⟨n,S',hp,hn,⟨e1,_,e2⟩,e3⟩=>by
  subst e1 e2 e3
  have:=(size_few hp.rt hp.sz).1
  simpa [Nd.lf] using this
 | h+1,p,lo,hi,l,U,⟨n,S',hp,hn,⟨ks,ps,e1,hk,hf⟩,e3⟩=>by
  subst e3
  have:=Fo_most (Tr_most s h) ks ps lo hi l S' hf
  simp only [List.length_cons]; omega
end Go.Fx.Tryz
namespace Go.Fx.Tryz
open Go Go.Fx
set_option linter.unusedSimpArgs false
set_option linter.unusedVariables false
def esC (M:List (Nat × Nat)):List MapEntry:=M.map fun e=>{ key:=.int .i64 (e.1:Int),val:=.int .i64 1,born:=e.2 }
theorem findC (k:Nat):∀ (l:List (Nat × Nat)) (i:Nat),(k∉l.map (·.1)→findA .int (.int .i64 (k:Int)) (esC l) i=some none)∧(k∈l.map (·.1)→∃ j,findA .int (.int .i64 (k:Int)) (esC l) i=some (some (j,.int .i64 1)))
 | [],i=>⟨fun _=>rfl,fun h=>by simp at h⟩
 | e::l,i=>by
  have ih:=findC k l (i+1)
  simp only [esC,List.map_cons,findA,sameA,if_true] at ih ⊢
  by_cases h:e.1=k
  ·have:((k:Int) == (e.1:Int))=true:=by simp [h]
   simp only [this]
   exact ⟨fun hn=>absurd (by simp [h]) hn,fun _=>⟨i,rfl⟩⟩
  ·have:((k:Int) == (e.1:Int))=false:=by simp; omega
   simp only [this]
   exact ⟨fun hn=>ih.1 (fun hm=>hn (by simp only [List.mem_cons]; exact .inr hm)),fun hm=>ih.2 ((List.mem_cons.1 hm).resolve_left (fun e=>h e.symm))⟩
theorem lookC0 {m:Mem} {b c:Nat} {M:List (Nat × Nat)} {ro:Bool} {lo:Option Nat} (h:m.get b=some ⟨.map (esC M) c,ro,lo⟩) {k:Nat} (hk:k∉M.map (·.1)):runLookup .int (.int .i64 0) false (.map (some b)) (.int .i64 (k:Int)) m=some (.int .i64 0):=by
 have:m.mapAt b=some (esC M,c):=by simp [Mem.mapAt,h]
 simp only [runLookup,this,Option.bind_some,(findC k M 0).1 hk]; rfl
theorem lookC1 {m:Mem} {b c:Nat} {M:List (Nat × Nat)} {ro:Bool} {lo:Option Nat} (h:m.get b=some ⟨.map (esC M) c,ro,lo⟩) {k:Nat} (hk:k∈M.map (·.1)):runLookup .int (.int .i64 0) false (.map (some b)) (.int .i64 (k:Int)) m=some (.int .i64 1):=by
 have:m.mapAt b=some (esC M,c):=by simp [Mem.mapAt,h]
 obtain ⟨j,hj⟩:=(findC k M 0).2 hk
 simp only [runLookup,this,Option.bind_some,hj]; rfl
theorem updC {m:Mem} {b c:Nat} {M:List (Nat × Nat)} {lo:Option Nat} (h:m.get b=some ⟨.map (esC M) c,false,lo⟩) {k:Nat} (hk:k∉M.map (·.1)):runMapUpd .int (.map (some b)) (.int .i64 (k:Int)) (.int .i64 1) m=some (m.put b ⟨.map (esC (M++[(k,c)])) (c+1),false,lo⟩):=by
 have:m.ownMap b=some (esC M,c,lo):=by simp [Mem.ownMap,h]
 simp only [runMapUpd,this,Option.bind_some,keyOk,if_true,(findC k M 0).1 hk,Option.map_some]
 simp [esC]
abbrev Xs (x:Wx) (mb r d:Nat):Wx:={ x with rd:=r,rest:=[.map (some mb),.int .i64 (d:Int),.bool false] }
structure SR (x:Wx) (mb r d:Nat) (M:List (Nat × Nat)) (m:Mem):Prop where
 xr:XR (Xs x mb r d) m
 mp:∃ c lo,m.get mb=some ⟨.map (esC M) c,false,lo⟩
 lt:mb<m.next
 ne:mb≠x.xb∧mb≠x.o.w∧mb≠x.o.pm∧mb≠x.o.c∧mb≠x.o.p
section
variable {x:Wx} {mb r d:Nat} {M:List (Nat × Nat)} {m:Mem}
theorem SR.upd {fp:List Nat} {m':Mem} (h:SR x mb r d M m) (hu:Upd fp m m') (hf:∀ b∈fp,b≠x.xb∧b≠x.o.w∧b≠x.o.pm∧b≠x.o.c∧b≠x.o.p∧b≠mb):SR x mb r d M m':=by
 obtain ⟨c,lo,g⟩:=h.mp
 exact ⟨h.xr.upd hu fun b hb=>⟨(hf b hb).1,(hf b hb).2.1,(hf b hb).2.2.1,(hf b hb).2.2.2.1,(hf b hb).2.2.2.2.1⟩,⟨c,lo,(hu.same mb h.lt fun hm=>(hf mb hm).2.2.2.2.2 rfl).trans g⟩,Nat.lt_of_lt_of_le h.lt hu.next,h.ne⟩
theorem SR.upd0 {m':Mem} (h:SR x mb r d M m) (hu:Upd [] m m'):SR x mb r d M m':=h.upd hu fun b hb=>by cases hb
theorem SR.ld (h:SR x mb r d M m):runLoad1 (.pointer (some ⟨x.xb,0+3,none⟩)) m=some (.map (some mb))∧runLoad1 (.pointer (some ⟨x.xb,0+4,none⟩)) m=some (.int .i64 (d:Int))∧runLoad1 (.pointer (some ⟨x.xb,0+5,none⟩)) m=some (.bool false) :=
 ⟨load_at h.xr.hx rfl,load_at h.xr.hx rfl,load_at h.xr.hx rfl⟩
theorem SR.put {r' d':Nat} (h:SR x mb r d M m):SR x mb r' d' M (m.put x.xb (Xs x mb r' d').blk)∧Upd [x.xb] m (m.put x.xb (Xs x mb r' d').blk):=by
 obtain ⟨c,lo,g⟩:=h.mp
 exact ⟨⟨h.xr.put (x':=Xs x mb r' d') ⟨rfl,rfl⟩,⟨c,lo,(Mem.get_put_other m _ h.ne.1).trans g⟩,h.lt,h.ne⟩,Upd.put _ _ (by simp)⟩
theorem SR.fine (h:SR x mb r d M m):runStore 1 (.pointer (some ⟨x.xb,0+5,none⟩)) (.bool false) m=some (m.put x.xb (Xs x mb r d).blk):=store_at h.xr.hx (by simp) rfl rfl
theorem SR.deep (h:SR x mb r d M m) (d':Nat):runStore 1 (.pointer (some ⟨x.xb,0+4,none⟩)) (.int .i64 (d':Int)) m=some (m.put x.xb (Xs x mb r d').blk):=store_at h.xr.hx (by simp) rfl rfl
theorem SR.ok (h:SR x mb r d M m) (he:x.err=0):Call S tab 49 [.pointer (some ⟨x.xb,0+0,none⟩)] m=some (.bool true,m):=by
 have z:=xok h.xr
 rw [decide_eq_true (show (Xs x mb r d).err=0 from he)] at z
 exact z
def hiS (hi:Option Bs):Bs:=hi.getD []
def HiOk (hi:Option Bs):Prop:=∀ e,hi=some e→e≠[]
theorem in_cases {lo:Bs} {hi:Option Bs} {k:Bs} (h:inR lo hi k) (hh:HiOk hi):ltB k lo=false∧(decide (hiS hi=[])=true∨(decide (hiS hi=[])=false∧ltB k (hiS hi)=true)):=by
 refine ⟨h.1,?_⟩
 cases hi with
 | none=>exact .inl rfl
 | some e=>exact .inr ⟨decide_eq_false (hh e rfl),h.2 e rfl⟩
theorem look_keys {lo0:Nat} {K:List Bs} {sk x2 x10 x11:Value} {lo:Bs} {hi:Option Bs} (hK:K.length≤1000) (hin:∀ k∈K,inR lo hi k) (hh:HiOk hi) {Q:Value→Mem→Prop} {m0:Mem} (hxl:x.xb<lo0)
  (hQ:∀ m,SR x mb r d M m→Upd [x.xb] m0 m→W (P36_3 x.v x2 (str lo) (str (hiS hi)) x10 x11 m) Q):∀ (n i:Nat) (m:Mem),K.length - i=n→i≤K.length→RSl lo0 encS m sk K→SR x mb r d M m→Upd [x.xb] m0 m →
  W (P36_2 x.v x2 (str lo) (str (hiS hi)) x10 x11 sk (.int .i64 (K.length:Int)) (.int .i64 (i:Int)) m) Q:=by
 intro n
 induction n with
 | zero =>
  intro i m hd hi' hk hs hu
  obtain rfl:i=K.length:=by omega
  rw [P36_2_eq]
  simp -implicitDefEqProofs only [st0,newVal,reduceIte,Int.lt_irrefl]
  exact hQ m hs hu
 | succ n ih =>
  intro i m hd hi' hk hs hu
  have hlt:i<K.length:=by omega
  have e1:((i:Int)<(K.length:Int))=True:=eq_true (by omega)
  obtain ⟨pk,y1,y2⟩:=idxS hk (getI hlt)
  have y2:=y2 m hk
  obtain ⟨c1,c2⟩:=in_cases (hin K[i] (List.getElem_mem hlt)) hh
  have neq0:arith .neq (str (hiS hi)) (.string ⟨#[]⟩)=some (.bool (decide (¬ hiS hi=[]))):=neq_str _ []
  obtain ⟨hs',hu'⟩:=hs.put (r':=r) (d':=d)
  have hk':RSl lo0 encS (m.put x.xb (Xs x mb r d).blk) sk K:=hk.upd hu' fun b hb=>by simp at hb; omega
  have nx:=ih (i+1) _ (by omega) hlt hk' hs' (hu.trans hu')
  rw [P36_2_eq]
  rcases c2 with c2|c2 <;>
   simp -implicitDefEqProofs only [st0,newVal,reduceIte,e1,y1,y2,nck,fa,hs.ld.2.2,lss_str,geq_str,c1,neq0,c2,hs.fine,i64_succ (i:=i) (by omega)]<;>exact nx
theorem look_leaf {lo0:Nat} {l:List Pr} {sp x0 x2 x3 x4 x10:Value} (hl:l.length≤1000) {Q:Value→Mem→Prop} {m0:Mem} (hsp:∀ c∈blkOf sp,c<m0.next)
  (hQ:∀ m v,TAp encS 9 m v (l.map (·.1))→(∀ c∈blkOf v,m0.next≤c)→Upd [] m0 m→W (P36_1 x0 x2 x3 x4 x10 v m) Q):∀ (n i:Nat) (m:Mem) (v:Value),l.length - i=n→i≤l.length→RSl lo0 encP m sp l→TAp encS 9 m v ((l.take i).map (·.1))→(∀ c∈blkOf v,m0.next≤c)→Upd [] m0 m →
  W (P36_0 x0 x2 x3 x4 x10 v sp (.int .i64 (l.length:Int)) (.int .i64 (i:Int)) m) Q:=by
 intro n
 induction n with
 | zero =>
  intro i m v hd hi h hv hb hu
  obtain rfl:i=l.length:=by omega
  rw [P36_0_eq]
  simp -implicitDefEqProofs only [st0,newVal,reduceIte,Int.lt_irrefl]
  rw [List.take_length] at hv
  exact hQ m v hv hb hu
 | succ n ih =>
  intro i m v hd hi h hv hb hu
  have hlt:i<l.length:=by omega
  have e1:((i:Int)<(l.length:Int))=True:=eq_true (by omega)
  rw [P36_0_eq]
  obtain ⟨b,off,h1,h2⟩:=h.1.at .i64 (getI hlt)
  rw [encP_size] at h1 h2
  have h2:=h2 m h.1
  simp -implicitDefEqProofs only [st0,newVal,reduceIte,e1,h1,h2.1]
  refine W_box (c:=encP.cells l[i]) rfl rfl rfl fun m1 g1 u1 n1=>?_
  have e2:afill [.string ⟨#[]⟩] [(0,1,str l[i].1)]=some (encS.flat [l[i].1]):=by kernel_rfl
  simp -implicitDefEqProofs only [st0,newVal,reduceIte,fa,load_at g1 (show (encP.cells l[i])[0+0]? = some (str l[i].1) from rfl),e2]
  refine app_new (E:=encS) [l[i].1] (by decide) (hv.upd0 u1) (by simp; omega) fun v' m2 q1 q2 q3=>?_
  simp -implicitDefEqProofs only [st0,newVal,reduceIte,i64_succ (i:=i) (by omega)]
  have hu2:Upd [] m0 m2:=(hu.then0 u1).then' q2 (fun b hbv=>.inr (hb b hbv))
  have e3:(l.take i).map (·.1)++[l[i].1]=(l.take (i+1)).map (·.1):=by rw [List.take_succ_eq_append_getElem hlt,List.map_append]; rfl
  rw [e3] at q1
  refine ih (i+1) m2 v' (by omega) hlt ((h.upd0 u1).keep q2 (fun b hbs hbv=>by have:=hb b hbv; have:=hsp b hbs; omega)) q1 (fun b hbv=>?_) hu2
  rcases q3 b hbv with hb1|hb1
  ·exact hb b hb1
  ·have:=hu.next; have:=u1.next; omega
end
def LkQ (x:Wx) (mb:Nat) (r D:Nat) (M:List (Nat × Nat)) (m:Mem) (U:List Nat) (v:Value) (m':Mem):Prop :=
 v=.tuple #[]∧Upd [x.xb,mb] m m'∧∃ M',SR x mb (r+U.length) D M' m'∧M'.length=M.length+U.length∧∀ q,q∈M'.map (·.1)↔q∈M.map (·.1)∨q∈U
set_option maxRecDepth 4000 in
theorem look_kids {x:Wx} (he:x.err=0) {mb h level nb lo0:Nat} {ks:List Bs} {ps:List Nat} {sp sk si:Value} {lo:Bs} {hi:Option Bs} (hlv:level≤60) (hps:ps.length≤200) (hkp:ps.length=ks.length+1) (hk0:∀ k∈ks,k≠[]) (hh:HiOk hi) {D:Nat}
  (IH:∀ (r d:Nat) (M:List (Nat × Nat)) (m:Mem) (page:Nat) (lo:Bs) (hi:Option Bs) (l:List Pr) (U:List Nat),SR x mb r d M m→HiOk hi→r+U.length≤1000→(d=0∨d=D)→(∀ q∈U,q∉M.map (·.1))→U.Nodup→Tr x.o.s h page lo hi l U→W (Call S tab 36 [x.v,.int .i64 (page:Int),.int .i64 ((level+1:Nat):Int),str lo,str (hiS hi)] m) (LkQ x mb r D M m U))
  (hb:(lo0≤nb)∧x.xb<lo0∧mb<lo0) :
  ∀ (ps':List Nat) (i r d:Nat) (M:List (Nat × Nat)) (m:Mem) (ks':List Bs) (lo':Bs) (lr:List Pr) (Ur:List Nat),ps.drop i=ps'→ks.drop i=ks'→i≤ps.length→((ps'=[]∧lr=[]∧Ur=[])∨Fo (Tr x.o.s h) lo' hi ks' ps' lr Ur)→(0<i→i≤ks.length→ks[i - 1]? = some lo')→(i=0→lo'=lo) →
   SR x mb r d M m→r+Ur.length≤1000→(d=0∨d=D)→(ps'=[]→d=D)→(∀ q∈Ur,q∉M.map (·.1))→Ur.Nodup→nb<m.next→m.get nb=some (nodeB false sp sk si)→RSl lo0 encS m sk ks→RSl lo0 encK m si ps →
   W (P36_5 x.v (.int .i64 (level:Int)) (str lo) (str (hiS hi)) (.pointer (some ⟨nb,0,none⟩)) si (.int .i64 (ps.length:Int)) (.int .i64 (i:Int)) m) (LkQ x mb r D M m Ur):=by
 intro ps'
 induction ps' with
 | nil =>
  intro i r d M m ks' lo' lr Ur hi1 hk1 hil hfo hlo hlo0 hs hr1 hd hdn hM hnd hnb gb k2 k3
  have:ps.length≤i:=by simpa [List.drop_eq_nil_iff] using hi1
  have e1:((i:Int)<(ps.length:Int))=False:=eq_false (by omega)
  have h0:Ur=[]:=by
   rcases hfo with ⟨_,h2,h3⟩|h
   ·exact h3
   ·cases ks' with
    | nil=>exact h.elim
    | cons k ks'=>exact h.elim
  subst h0
  obtain rfl:=hdn rfl
  rw [P36_5_eq]
  simp -implicitDefEqProofs only [st0,newVal,reduceIte,e1]
  exact ⟨rfl,Upd.refl _ _,M,hs,rfl,fun q=>by simp⟩
 | cons p ps' ih =>
  intro i r d M m ks' lo' lr Ur hi1 hk1 hil hfo hlo hlo0 hs hr1 hd hdn hM hnd hnb gb k2 k3
  have hlt:i<ps.length:=by
   rcases Nat.lt_or_ge i ps.length with h|h
   ·exact h
   ·rw [List.drop_of_length_le h] at hi1; cases hi1
  rw [List.drop_eq_getElem_cons hlt] at hi1
  injection hi1 with hp hi1
  have hfo:Fo (Tr x.o.s h) lo' hi ks' (p::ps') lr Ur:=hfo.resolve_left (fun h=>by cases h.1)
  have e1:((i:Int)<(ps.length:Int))=True:=eq_true (by omega)
  obtain ⟨pk,y1,y2⟩:=idxK k3 (i:=i) (p:=p) (by rw [List.getElem?_eq_getElem hlt,hp])
  have y2:=y2 m k3
  obtain ⟨l1,U1,l2,U2,rfl,rfl,hst⟩:=Fo_step hfo
  have hkid:∃ hi1,Tr x.o.s h p lo' hi1 l1 U1∧((ks.length≤i∧hi1=hi)∨∃ k,ks[i]? = some k∧hi1=some k)∧∃ lo2,((ps'=[]∧l2=[]∧U2=[])∨Fo (Tr x.o.s h) lo2 hi (ks.drop (i+1)) ps' l2 U2)∧(i+1≤ks.length→ks[i]? = some lo2):=by
   rcases hst with ⟨e1,e2,e3,e4,e5⟩|⟨k,ks2,e1,e2,e3⟩
   ·have hki:ks.length≤i:=by rw [e1] at hk1; simpa [List.drop_eq_nil_iff] using hk1
    exact ⟨hi,e3,.inl ⟨hki,rfl⟩,lo',.inl ⟨e2,e4,e5⟩,fun h=>by omega⟩
   ·rw [e1] at hk1
    have hki:i<ks.length:=by
     rcases Nat.lt_or_ge i ks.length with h|h
     ·exact h
     ·rw [List.drop_of_length_le h] at hk1; cases hk1
    rw [List.drop_eq_getElem_cons hki] at hk1
    injection hk1 with h1 h2
    exact ⟨some k,e2,.inr ⟨k,by rw [List.getElem?_eq_getElem hki,h1],rfl⟩,k,.inr (by rw [h2]; exact e3),fun _=>by rw [List.getElem?_eq_getElem hki,h1]⟩
  obtain ⟨hi1',ht1,hhi,lo2,hfo2,hlo2⟩:=hkid
  have hh1:HiOk hi1':=by
   rcases hhi with ⟨_,rfl⟩|⟨k,hk,rfl⟩
   ·exact hh
   ·intro e he; cases he; exact hk0 k (List.mem_of_getElem? hk)
  rw [List.length_append] at hr1
  rw [List.nodup_append] at hnd
  obtain ⟨d1,d2,d3⟩:=hnd
  have esub:arith .add (.int .i64 (level:Int)) (.int .i64 1)=some (.int .i64 ((level+1:Nat):Int)):=i64_succ (by omega)
  have go:W (P36_7 x.v (.int .i64 (level:Int)) (str lo) (str (hiS hi)) (.pointer (some ⟨nb,0,none⟩)) (.int .i64 (p:Int)) (str lo') (str (hiS hi1')) si (.int .i64 (ps.length:Int)) (.int .i64 (i:Int)) m) (LkQ x mb r D M m (U1++U2)):=by
   rw [P36_7_eq]
   simp -implicitDefEqProofs only [st0,newVal,reduceIte,nck,fa,hs.ld.2.2,esub]
   refine W_bind.2 ((IH r d M m p lo' hi1' l1 U1 hs hh1 (by omega) hd (fun q hq=>hM q (by simp [hq])) d1 ht1).mono fun v1 m1 ⟨_,a2,M',a3,a4,a5⟩=>?_)
   have nf:∀ {b:Nat},lo0≤b→b∉[x.xb,mb]:=fun hb' hm=>by simp at hm; omega
   have hlow:∀ b∈[x.xb,mb],b<lo0:=fun b hb'=>by simp at hb'; omega
   simp -implicitDefEqProofs only [st0,newVal,reduceIte,i64_succ (i:=i) (by omega)]
   refine (ih (i+1) (r+U1.length) D M' m1 (ks.drop (i+1)) lo2 l2 U2 hi1 rfl hlt hfo2 (fun _ h=>by rw [Nat.add_sub_cancel]; exact hlo2 h) (fun h=>by omega) a3 (by omega) (.inr rfl) (fun _=>rfl) (fun q hq hm=>?_) d2 (Nat.lt_of_lt_of_le hnb a2.next) ((a2.same nb hnb (nf hb.1)).trans gb) (k2.upd a2 hlow) (k3.upd a2 hlow)).mono fun v2 m2 ⟨b1,b2,M'',b3,b4,b5⟩=>⟨b1,a2.trans b2,M'',by rw [List.length_append,← Nat.add_assoc]; exact b3,by rw [List.length_append]; omega,fun q=>?_⟩
   ·rcases (a5 q).1 hm with h1|h1
    ·exact hM q (by simp [hq]) h1
    ·exact d3 q h1 q hq rfl
   ·rw [b5 q,a5 q,List.mem_append,or_assoc]
  have six:W (P36_6 x.v (.int .i64 (level:Int)) (str lo) (str (hiS hi)) (.pointer (some ⟨nb,0,none⟩)) (.int .i64 (i:Int)) (.int .i64 (p:Int)) (str lo') (str (hiS hi)) si (.int .i64 (ps.length:Int)) (.int .i64 (i:Int)) m) (LkQ x mb r D M m (U1++U2)):=by
   rw [P36_6_eq]
   rcases hhi with ⟨hki,rfl⟩|⟨k,hk,rfl⟩
   ·have e2:((i:Int)<(ks.length:Int))=False:=eq_false (by omega)
    simp -implicitDefEqProofs only [st0,newVal,reduceIte,fa,ndload gb (o:=0+2) rfl,lenSl k2,e2]
    exact go
   ·have hki:i<ks.length:=by
     rcases Nat.lt_or_ge i ks.length with h|h
     ·exact h
     ·rw [List.getElem?_eq_none h] at hk; cases hk
    have e2:((i:Int)<(ks.length:Int))=True:=eq_true (by omega)
    obtain ⟨pk2,w1,w2⟩:=idxS k2 hk
    simp -implicitDefEqProofs only [st0,newVal,reduceIte,fa,ndload gb (o:=0+2) rfl,lenSl k2,e2,w1,w2 m k2]
    exact go
  rw [P36_5_eq]
  by_cases h0:i=0
  ·have e3:((0:Int)<(i:Int))=False:=eq_false (by omega)
   obtain rfl:=hlo0 h0
   simp -implicitDefEqProofs only [st0,newVal,reduceIte,e1,y1,y2,e3]
   exact six
  ·have e3:((0:Int)<(i:Int))=True:=eq_true (by omega)
   obtain ⟨pk3,w1,w2⟩:=idxS k2 (hlo (by omega) (by omega))
   have e4:arith .sub (.int .i64 (i:Int)) (.int .i64 1)=some (.int .i64 ((i - 1:Nat):Int)):=by rw [i64_sub (by omega) (by omega)]; congr 2; omega
   simp -implicitDefEqProofs only [st0,newVal,reduceIte,e1,y1,y2,e3,fa,ndload gb (o:=0+2) rfl,e4,w1,w2 m k2]
   exact six
end Go.Fx.Tryz
