/- Parts of a proof: TreeMc, TreeMd, TreeRe, TreeSh, TreeDo. Conditions: none. -/
import Derived.Test.YtnngjdfadfblmaaGreatDoorQd22
namespace Go.Fx.Tryz
open Go Go.Fx
set_option linter.unusedSimpArgs false
set_option linter.unusedVariables false
section
variable {x:Wx} {m:Mem}
theorem fill0n:afill [.bool false,.slice none 0 0,.slice none 0 0,.slice none 0 0] []=some [.bool false,.slice none 0 0,.slice none 0 0,.slice none 0 0]:=rfl
abbrev nodeZ:ABlk:=nodeB false (.slice none 0 0) (.slice none 0 0) (.slice none 0 0)
theorem size_fit {n:Nd} (h:rightN n=true) (hs:sizeN n≤256):n.Fit:=wt_fit h (sz_wt hs)
set_option maxRecDepth 4000 in
theorem mend_mid {lo nb rb j p1 p2 left:Nat} {sp sk si:Value} {ks:List Bs} {ps:List Nat} {na nb':Nd} {key:Bs} (h:XR x m) (he:x.err=0) (hrd:x.rd+2≤1000) (hl:1≤left) (hfp:∀ b∈x.fp,b<lo) (hcp:x.o.c<lo∧x.o.p<lo) (hlo:lo≤m.next)
    (hb:(lo≤nb∧nb<m.next)∧(lo≤rb∧rb<m.next)) (hnr:nb≠rb)
    (hm:Me lo ks ps nb sp sk si m) (gr:m.get rb=some nodeZ) (hlen:ps.length=ks.length+1) (hps:ps.length≤200)
    (hj1:ps[j]? = some p1) (hj2:ps[j+1]? = some p2) (hjk:ks[j]? = some key) (hj:j≤200) (hP1:Pn x.o.s p1 na) (hP2:Pn x.o.s p2 nb') (hne:p1≠p2) (hr:rightN (joinN na nb' key)=true) (hw:wtN (joinN na nb' key))
    (hs:¬ sizeN (joinN na nb' key)≤256→(if (joinN na nb' key).leaf then 2≤(joinN na nb' key).pairs.length else 3≤(joinN na nb' key).keys.length∧(joinN na nb' key).kids.length=(joinN na nb' key).keys.length+1)∧rightN (splitN (joinN na nb' key)).1=true∧sizeN (splitN (joinN na nb' key)).1≤256∧rightN (splitN (joinN na nb' key)).2.1=true∧sizeN (splitN (joinN na nb' key)).2.1≤256) :
    W (P106_0 x.v (.int .i64 (j:Int)) (.int .i64 (left:Int)) (.pointer (some ⟨nb,0,none⟩)) (.pointer (some ⟨rb,0,none⟩)) m) fun r m'=>Upd (rb::x.fp) m m' ∧
      ((sizeN (joinN na nb' key)≤256∧TN lo m' r (Nd.nd (ks.eraseIdx j) (ps.eraseIdx (j+1)))∧∃ c,XR { x with rd:=x.rd+2,o:={ x.o with u:=turnU x.o.u p2,L:=upL x.o.L p1 (encN (joinN na nb' key)) c } } m') ∨
       (¬ sizeN (joinN na nb' key)≤256∧TN lo m' r (withN (Nd.nd (ks.eraseIdx j) (ps.eraseIdx (j+1))) j [([],p1),((splitN (joinN na nb' key)).2.2,p2)])∧∃ c1 c2,XR { x with rd:=x.rd+2,o:={ x.o with L:=upL (upL x.o.L p1 (encN (splitN (joinN na nb' key)).1) c1) p2 (encN (splitN (joinN na nb' key)).2.1) c2 } } m')):=by
  obtain ⟨⟨b1,b2⟩,⟨b7,b8⟩⟩:=hb
  obtain ⟨hh1,hl1⟩:=hP1.here
  obtain ⟨hh2,hl2⟩:=hP2.here
  have hPP:=h.wr.hP
  have l1:=has_lt hh1
  have l2:=has_lt hh2
  have nf:∀ {b:Nat},lo≤b→b∉x.fp:=fun hb hm=>by have:=hfp _ hm; omega
  have subx:∀ b,b∈[x.xb]→b∈x.fp:=fun b hb=>by simp at hb; simp [Wx.fp,hb]
  have mk:∀ {M M':Mem},m.next≤M.next→Me lo ks ps nb sp sk si M→Upd x.fp M M'→Me lo ks ps nb sp sk si M':=fun hn h hu=>h.keep hu (by omega) ⟨nf b1,fun b hb=>nf (h.k2.2 b hb).1,fun b hb=>nf (h.k3.2 b hb).1⟩
  have hadd:arith .add (.int .i64 (j:Int)) (.int .i64 1)=some (.int .i64 ((j+1:Nat):Int)):=i64_succ (by omega)
  obtain ⟨pk1,i1,i1'⟩:=idxK hm.k3 hj1
  obtain ⟨pk2,i2,i2'⟩:=idxK hm.k3 hj2
  obtain ⟨pkk,ik,ik'⟩:=idxS hm.k2 hjk
  have ub:Upd [] m (m.bump 21):=Upd.bump _ _ _
  have nbp:(m.bump 21).next=m.next+21:=rfl
  have hmb:=hm.upd0 ub b2
  have hxb:=h.upd0 ub
  have grb:=keepg ub b8 gr
  rw [P106_0_eq]
  simp -implicitDefEqProofs only [st0,newVal,reduceIte,fa,ndload hmb.gn (o:=0+3) rfl,i1,i1' _ hmb.k3]
  generalize m.bump 21=m0 at ub nbp hmb hxb grb
  refine W_bind.2 ((xread hxb he (by omega) hl (by omega) hh1 hl1 hP1.rt hP1.sz).mono fun v1 m1 ⟨t1,h1,u1⟩=>?_)
  have x1:=u1.next
  have u1:Upd x.fp m0 m1:=u1.mono fun b hb _=>subx b hb
  have hm1:=mk (by omega) hmb u1
  have gr1:=(u1.same rb (by omega) (nf b7)).trans grb
  simp -implicitDefEqProofs only [st0,newVal,reduceIte,fa,ndload hm1.gn (o:=0+3) rfl,hadd,i2,i2' m1 hm1.k3]
  refine W_bind.2 ((xread h1 he (by show x.rd+1<1000; omega) hl (by omega) hh2 hl2 hP2.rt hP2.sz).mono fun v2 m2 ⟨t2,h2,u2⟩=>?_)
  have h2:XR { x with rd:=x.rd+2 } m2:=h2
  have x2:=u2.next
  have u2:Upd x.fp m1 m2:=u2.mono fun b hb _=>subx b hb
  have hm2:=mk (by omega) hm1 u2
  have gr2:=(u2.same rb (by omega) (nf b7)).trans gr1
  have hfp0:∀ b∈x.fp,b<m0.next:=fun b hb=>by have:=hfp b hb; omega
  have t12:=t1.upd u2 hfp0
  obtain ⟨pa,ka,ia,rfl,a1,a2,a3⟩:=t1.ex
  obtain ⟨pb,kb,ib,rfl,c1,c2,c3⟩:=t2.ex
  simp -implicitDefEqProofs only [st0,newVal,reduceIte]
  have u3:Upd [m.next+17] m2 (m2.put (m.next+17) nodeZ):=Upd.put _ _ (by simp)
  have g3:(m2.put (m.next+17) nodeZ).get (m.next+17)=some nodeZ:=Mem.get_put_self ..
  have n3:(m2.put (m.next+17) nodeZ).next=m2.next:=rfl
  have nf17:m.next+17∉x.fp:=nf (by omega)
  have nf18:m.next+18∉x.fp:=nf (by omega)
  have hm3:=hm2.keep u3 (by omega) ⟨by simp; omega,fun b hb=>by have:=(hm.k2.2 b hb).2; simp; omega,fun b hb=>by have:=(hm.k3.2 b hb).2; simp; omega⟩
  have gr3:=(u3.same rb (by omega) (by simp; omega)).trans gr2
  generalize (m2.put (m.next+17) nodeZ)=m3 at u3 g3 n3 hm3 gr3
  have u4:Upd [m.next+18] m3 (m3.put (m.next+18) nodeZ):=Upd.put _ _ (by simp)
  have g4:(m3.put (m.next+18) nodeZ).get (m.next+18)=some nodeZ:=Mem.get_put_self ..
  have k4:=(u4.same (m.next+17) (by omega) (by simp)).trans g3
  have n4:(m3.put (m.next+18) nodeZ).next=m3.next:=rfl
  have hm4:=hm3.keep u4 (by omega) ⟨by simp; omega,fun b hb=>by have:=(hm.k2.2 b hb).2; simp; omega,fun b hb=>by have:=(hm.k3.2 b hb).2; simp; omega⟩
  have gr4:=(u4.same rb (by omega) (by simp; omega)).trans gr3
  generalize (m3.put (m.next+18) nodeZ)=m4 at u4 g4 k4 n4 hm4 gr4
  simp -implicitDefEqProofs only [st0,newVal,reduceIte,nodeB_all k4 na.leaf a1.one.2 a2.one.2 a3.one.2]
  have u5:Upd [m.next+17] m4 (m4.put (m.next+17) (nodeB na.leaf pa ka ia)):=Upd.put _ _ (by simp)
  have g5:(m4.put (m.next+17) (nodeB na.leaf pa ka ia)).get (m.next+17)=_:=Mem.get_put_self ..
  have k5:=(u5.same (m.next+18) (by omega) (by simp)).trans g4
  have n5:(m4.put (m.next+17) (nodeB na.leaf pa ka ia)).next=m4.next:=rfl
  have hm5:=hm4.keep u5 (by omega) ⟨by simp; omega,fun b hb=>by have:=(hm.k2.2 b hb).2; simp; omega,fun b hb=>by have:=(hm.k3.2 b hb).2; simp; omega⟩
  have gr5:=(u5.same rb (by omega) (by simp; omega)).trans gr4
  generalize (m4.put (m.next+17) (nodeB na.leaf pa ka ia))=m5 at u5 g5 k5 n5 hm5 gr5
  simp -implicitDefEqProofs only [st0,newVal,reduceIte,nodeB_all k5 nb'.leaf c1.one.2 c2.one.2 c3.one.2]
  have u6:Upd [m.next+18] m5 (m5.put (m.next+18) (nodeB nb'.leaf pb kb ib)):=Upd.put _ _ (by simp)
  have k6:(m5.put (m.next+18) (nodeB nb'.leaf pb kb ib)).get (m.next+18)=_:=Mem.get_put_self ..
  have g6:=(u6.same (m.next+17) (by omega) (by simp)).trans g5
  have n6:(m5.put (m.next+18) (nodeB nb'.leaf pb kb ib)).next=m5.next:=rfl
  have hm6:=hm5.keep u6 (by omega) ⟨by simp; omega,fun b hb=>by have:=(hm.k2.2 b hb).2; simp; omega,fun b hb=>by have:=(hm.k3.2 b hb).2; simp; omega⟩
  have gr6:=(u6.same rb (by omega) (by simp; omega)).trans gr5
  generalize (m5.put (m.next+18) (nodeB nb'.leaf pb kb ib))=m6 at u6 g6 k6 n6 hm6 gr6
  have u26:Upd [m.next+17,m.next+18] m2 m6:=(((u3.mono fun b hb _=>by simp at hb; simp [hb]).trans (u4.mono fun b hb _=>by simp at hb; simp [hb])).trans (u5.mono fun b hb _=>by simp at hb; simp [hb])).trans (u6.mono fun b hb _=>by simp at hb; simp [hb])
  have f2:∀ b∈[m.next+17,m.next+18],b<m0.next:=fun b hb=>by simp at hb; omega
  have ta6:=t12.upd u26 f2
  have tb6:=(t2.low (lo':=m0.next) (by omega)).upd u26 f2
  have hx6:XR { x with rd:=x.rd+2 } m6:=h2.upd u26 fun b hb=>by
    have w1:b∉x.fp:=nf (by simp at hb; omega)
    simp only [Wx.fp,List.mem_cons,List.not_mem_nil,or_false,not_or] at w1 hb
    exact ⟨w1.2.2,w1.1,w1.2.1,by show b≠x.o.c; omega,by show b≠x.o.p; omega⟩
  have e6:=xok hx6
  rw [decide_eq_true (show ({ x with rd:=x.rd+2 }:Wx).err=0 from he)] at e6
  refine chkN (fun r hr=>?_) ?_
  · simp only [List.mem_cons,List.not_mem_nil,or_false] at hr
    rcases hr with rfl|rfl|rfl|rfl
    · exact okR fun k _ hk=>by
        obtain rfl:k=0:=by omega
        exact ⟨_,rfl,ndload hmb.gn rfl⟩
    · exact okR fun k _ hk=>by
        obtain rfl:k=0:=by omega
        exact ⟨_,rfl,i1' _ hmb.k3⟩
    · exact okR fun k _ hk=>by
        have:k=0∨k=1:=by omega
        rcases this with rfl|rfl
        · exact ⟨_,rfl,ndload hmb.gn rfl⟩
        · exact ⟨_,rfl,ndload hm1.gn rfl⟩
    · exact okR fun k _ hk=>by
        have:k=0∨k=1:=by omega
        rcases this with rfl|rfl
        · exact ⟨_,rfl,i2' _ hmb.k3⟩
        · exact ⟨_,rfl,i2' _ hm1.k3⟩
  have u06:Upd x.fp m m6:=(((ub.nil'.trans u1).trans u2).then' u26 (fun b hb=>.inr (by simp at hb; omega)))
  have uB:Upd [] m6 (m6.bump 10):=Upd.bump _ _ _
  have nB:(m6.bump 10).next=m6.next+10:=rfl
  have hmB:=hm6.upd0 uB (by omega)
  have gB:=keepg uB (by omega) g6
  have kB:=keepg uB (by omega) k6
  have grB:=keepg uB (by omega) gr6
  have taB:=ta6.upd0 uB
  have tbB:=tb6.upd0 uB
  have hxB:=hx6.upd0 uB
  simp -implicitDefEqProofs only [st0,newVal,reduceIte,e6,nodeB_any gB,nodeB_any kB,fa,ndload hmB.gn (o:=0+2) rfl,ik,ik' _ hmB.k2]
  generalize m6.bump 10=m7 at uB nB hmB gB kB grB taB tbB hxB
  refine W_bind.2 ((njoin_ok key taB tbB (size_fit hP1.rt hP1.sz) (size_fit hP2.rt hP2.sz) (by omega)).mono fun v8 m8 ⟨t8,u8⟩=>?_)
  have x8:=u8.next
  have hm8:=hmB.upd0 u8 (by omega)
  have gr8:=keepg u8 (by omega) grB
  have hx8:=hxB.upd0 u8
  have T8:=t8
  obtain ⟨pj,kj,ij,rfl,j1,j2,j3⟩:=t8.ex
  simp -implicitDefEqProofs only [st0,newVal,reduceIte]
  have u9:Upd [m6.next+8] m8 (m8.put (m6.next+8) nodeZ):=Upd.put _ _ (by simp)
  have g9:(m8.put (m6.next+8) nodeZ).get (m6.next+8)=some nodeZ:=Mem.get_put_self ..
  have n9:(m8.put (m6.next+8) nodeZ).next=m8.next:=rfl
  generalize (m8.put (m6.next+8) nodeZ)=m9 at u9 g9 n9
  simp -implicitDefEqProofs only [st0,newVal,reduceIte,nodeB_all g9 (joinN na nb' key).leaf j1.one.2 j2.one.2 j3.one.2]
  have u10:Upd [m6.next+8] m9 (m9.put (m6.next+8) (nodeB (joinN na nb' key).leaf pj kj ij)):=Upd.put _ _ (by simp)
  have g10:(m9.put (m6.next+8) (nodeB (joinN na nb' key).leaf pj kj ij)).get (m6.next+8)=_:=Mem.get_put_self ..
  have n10:(m9.put (m6.next+8) (nodeB (joinN na nb' key).leaf pj kj ij)).next=m9.next:=rfl
  generalize (m9.put (m6.next+8) (nodeB (joinN na nb' key).leaf pj kj ij))=m10 at u10 g10 n10
  have u810:Upd [m6.next+8] m8 m10:=u9.trans u10
  have hm10:=hm8.keep u810 (by omega) ⟨by simp; omega,fun b hb=>by have:=(hm.k2.2 b hb).2; simp; omega,fun b hb=>by have:=(hm.k3.2 b hb).2; simp; omega⟩
  have gr10:=(u810.same rb (by omega) (by simp; omega)).trans gr8
  have T10:=T8.upd u810 (fun b hb=>by simp at hb; omega)
  have hx10:XR { x with rd:=x.rd+2 } m10:=hx8.upd u810 fun b hb=>by
    have w1:b∉x.fp:=nf (by simp at hb; omega)
    simp only [Wx.fp,List.mem_cons,List.not_mem_nil,or_false,not_or] at w1 hb
    exact ⟨w1.2.2,w1.1,w1.2.1,by show b≠x.o.c; omega,by show b≠x.o.p; omega⟩
  refine chkN (fun r hr=>?_) ?_
  · simp only [List.mem_cons,List.not_mem_nil,or_false] at hr
    rcases hr with rfl|rfl|rfl|rfl
    · exact okR fun k _ hk=>by
        obtain rfl:k=0:=by omega
        exact ⟨_,rfl,nodeB_any gB⟩
    · exact okR fun k _ hk=>by
        obtain rfl:k=0:=by omega
        exact ⟨_,rfl,nodeB_any kB⟩
    · exact okR fun k _ hk=>by
        obtain rfl:k=0:=by omega
        exact ⟨_,rfl,ndload hmB.gn rfl⟩
    · exact okR fun k _ hk=>by
        obtain rfl:k=0:=by omega
        exact ⟨_,rfl,ik' _ hmB.k2⟩
  simp -implicitDefEqProofs only [st0,newVal,reduceIte,fill0n]
  refine W_box (c:=[.bool false,.slice none 0 0,.slice none 0 0,.slice none 0 0]) rfl rfl rfl fun m11 o11 u11 n11=>?_
  have hm11:=hm10.upd0 u11 (by omega)
  have gr11:=keepg u11 (by omega) gr10
  have g11:=keepg u11 (by omega) g10
  have T11:=T10.upd0 u11
  have hx11:=hx10.upd0 u11
  have x11:=u11.next
  simp -implicitDefEqProofs only [st0,newVal,reduceIte,fa,ndload hm11.gn (o:=0+3) rfl,lenSl hm11.k3]
  have u011:Upd x.fp m m11:=(((u06.then0 uB).then0 u8).then' u810 (fun b hb=>.inr (by simp at hb; omega))).then0 u11
  have hjl:j<ks.length:=by
    rcases Nat.lt_or_ge j ks.length with h|h
    · exact h
    · rw [List.getElem?_eq_none h] at hjk; cases hjk
  refine mend_loop hlen hps hj hm11 ⟨⟨by omega,by omega⟩,fun b hb=>by have:=(hm.k2.2 b hb).2; omega,fun b hb=>by have:=(hm.k3.2 b hb).2; omega⟩ (fun m12 kv iv ho=>?_) _ 0 m11 _ _ rfl (by omega) (by
    simp only [List.take_zero,List.take_nil]
    exact ⟨o11,TAp.nil _,TAp.nil _,fun b hb=>by simp [blkOf] at hb,fun b hb=>by simp [blkOf] at hb,fun b hb=>by simp [blkOf] at hb,n11,Upd.refl _ _⟩)
  have u12:=ho.up
  have x12:=u12.next
  have hm12:=hm11.keep u12 (by omega) ⟨by simp; omega,fun b hb=>by have:=(hm.k2.2 b hb).2; simp; omega,fun b hb=>by have:=(hm.k3.2 b hb).2; simp; omega⟩
  have gr12:=(u12.same rb (by omega) (by simp; omega)).trans gr11
  have g12:=(u12.same (m6.next+8) (by omega) (by simp; omega)).trans g11
  have T12:TN lo m12 (nodeV (joinN na nb' key).leaf pj kj ij) (joinN na nb' key):=((T11.keepO u12 (by
    intro b hb
    have h1:∀ {α:Type} {E:Enc α} {v:Value} {l:List α},RSl m7.next E m8 v l→b∈blkOf v→b<m10.next:=fun hr hb=>by have:=(hr.2 b hb).2; omega
    simp only [List.mem_append] at hb
    rcases hb with (hb|hb)|hb
    · have:=h1 j1 hb; simp; omega
    · have:=h1 j2 hb; simp; omega
    · have:=h1 j3 hb; simp; omega)).low (by omega))
  have hx12:XR { x with rd:=x.rd+2 } m12:=hx11.upd u12 fun b hb=>by
    have w1:b∉x.fp:=nf (by simp at hb; omega)
    simp only [Wx.fp,List.mem_cons,List.not_mem_nil,or_false,not_or] at w1 hb
    exact ⟨w1.2.2,w1.1,w1.2.1,by show b≠x.o.c; omega,by show b≠x.o.p; omega⟩
  have hkl:(ks.eraseIdx j).length=_:=List.length_eraseIdx
  have hil:(ps.eraseIdx (j+1)).length=_:=List.length_eraseIdx
  rw [if_pos hjl] at hkl
  rw [if_pos (by omega)] at hil
  refine (mend_tail (x:={ x with rd:=x.rd+2 }) (lo:=lo) hx12 he hfp hcp (by omega) ⟨⟨b1,by omega⟩,⟨by omega,by omega⟩,⟨by omega,by omega⟩,⟨b7,by omega⟩⟩ ⟨fun b hb=>by have:=ho.bk b hb; omega,fun b hb=>by have:=ho.bi b hb; omega⟩ hm12 ho.g
    ((ho.tk.rsl ho.bk).low (by omega)) ((ho.ti.rsl ho.bi).low (by omega)) g12 T12 gr12 hj1 hj2 hj hh1 hh2 hne hr hw hs ⟨by omega,by omega⟩).mono fun r m' ⟨q1,q2⟩=>⟨?_,q2⟩
  exact ((u011.mono fun b hb _=>List.mem_cons.2 (.inr hb)).then' u12 (fun b hb=>.inr (by simp at hb; omega))).trans q1
end
end Go.Fx.Tryz
namespace Go.Fx.Tryz
open Go Go.Fx
set_option linter.unusedSimpArgs false
set_option linter.unusedVariables false
theorem er_mid {α:Type} (a:List α) (k:α) (b:List α):(a++k::b).eraseIdx a.length=a++b:=by
 rw [List.eraseIdx_append_of_length_le (Nat.le_refl _),Nat.sub_self]; rfl
theorem er_mid1 {α:Type} (a:List α) (p q:α) (b:List α):(a++p::q::b).eraseIdx (a.length+1)=a++p::b:=by
 rw [List.eraseIdx_append_of_length_le (by omega),Nat.add_sub_cancel_left]; rfl
def MenQ (x:Wx) (lo0:Nat) (m:Mem) (h:Nat) (lo:Bs) (hi:Option Bs) (l:List Pr) (U:List Nat) (r:Value) (m':Mem):Prop :=
 ∃ x' n U',XR x' m'∧Kin x x'∧x'.err=0∧x'.rd≤x.rd+3∧Fu x'.o∧TN lo0 m' r n∧rightN n=true∧wtN n∧Nt x'.o.s (h+1) n lo hi l U'∧Stp x.o.s x'.o.s U U'∧U'.Nodup∧Upd x.fp m m'
section
variable {x:Wx} {m:Mem}
set_option maxRecDepth 4000 in
theorem xmend {lo0 h c p left:Nat} {v:Value} {ks:List Bs} {ps:List Nat} {lo lo':Bs} {hi hi':Option Bs} {l0 l1 l2:List Pr} {U0 U1 U2:List Nat} {n:Nd} (hx:XR x m) (he:x.err=0) (hf:Fu x.o) (hrd:x.rd+3≤1000) (hl:1≤left) (hfp:∀ b∈x.fp,b<lo0) (hcp:x.o.c<lo0∧x.o.p<lo0) (hlo:lo0≤m.next)
  (ht:TN lo0 m v (Nd.nd ks ps)) (hr:rightN (Nd.nd ks ps)=true) (hsz:sizeN (Nd.nd ks ps)≤256) (hk:∀ k∈ks,inK lo hi k) (hne:ks≠[]) (hc:c≤ks.length) (e1:ps=ps.take c++p::ps.drop (c+1))
  (h0:FL (Tr x.o.s h) lo (ks.take c) (ps.take c) lo' l0 U0) (hp:Pn x.o.s p n) (hn:Nt x.o.s h n lo' hi' l1 U1) (h2:FR (Tr x.o.s h) hi' hi (ks.drop c) (ps.drop (c+1)) l2 U2) (hnd:(U0++((p::U1)++U2)).Nodup) :
  W (Call S tab 106 [x.v,v,.int .i64 (c:Int),.int .i64 (left:Int)] m) (MenQ x lo0 m h lo hi (l0++(l1++l2)) (U0++((p::U1)++U2))):=by
 obtain ⟨hh,hlk⟩:=hp.here
 have hP:=hx.wr.hP
 have hu20:=hx.wr.hu
 have hlt:=has_lt hh
 obtain ⟨_,i1,r1,_,_⟩:=right_inner hr rfl
 have i1:ps.length=ks.length+1:=i1
 have hfew:=few_kids hr hsz
 have hfew:ps.length≤ks.length+1∧ps.length≤200:=hfew
 have nf:∀ {b:Nat},lo0≤b→b∉x.fp:=fun hb hm=>by have:=hfp _ hm; omega
 have subx:∀ b,b∈[x.xb]→b∈x.fp:=fun b hb=>by simp at hb; simp [Wx.fp,hb]
 obtain ⟨sp,sk,si,rfl,q1,q2,q3⟩:=ht.ex
 have q2:RSl lo0 encS m sk ks:=q2
 have q3:RSl lo0 encK m si ps:=q3
 have hlf:(Nd.nd ks ps).leaf=false:=rfl
 rw [hlf] at ht ⊢
 have hget:ps[c]? = some p:=by
  have:=congrArg (fun t:List Nat=>t[c]?) e1
  rw [this,List.getElem?_append_right (by rw [List.length_take]; omega),List.length_take,Nat.min_eq_left (by omega),Nat.sub_self]; rfl
 obtain ⟨pk,i2,i2'⟩:=idxK q3 hget
 rw [C106]
 simp -implicitDefEqProofs only [st0,newVal,reduceIte,cells_agg]
 have u1:Upd [] m (m.add (nodeB false sp sk si)):=Upd.add _ _ _
 have g1:(m.add (nodeB false sp sk si)).get m.next=some (nodeB false sp sk si):=Mem.get_add_self ..
 have n1:(m.add (nodeB false sp sk si)).next=m.next+1:=rfl
 generalize (m.add (nodeB false sp sk si))=m1 at u1 g1 n1
 have u2:Upd [] m1 (m1.add nodeZ):=Upd.add _ _ _
 have gr2:(m1.add nodeZ).get m1.next=some nodeZ:=Mem.get_add_self ..
 have n2:(m1.add nodeZ).next=m1.next+1:=rfl
 have g2:=keepg u2 (by omega) g1
 generalize (m1.add nodeZ)=m2 at u2 gr2 n2 g2
 have u02:=u1.then0 u2
 have hm2:Me lo0 ks ps m.next sp sk si m2:=⟨g2,q2.upd0 u02,q3.upd0 u02⟩
 have hx2:=hx.upd0 u02
 simp -implicitDefEqProofs only [st0,newVal,reduceIte,fa,ndload hm2.gn (o:=0+3) rfl,i2,i2' m2 hm2.k3]
 refine W_bind.2 ((xread hx2 he (by omega) hl (by omega) hh hlk hp.rt hp.sz).mono fun v3 m3 ⟨t3,h3,u3⟩=>?_)
 have x3:=u3.next
 have u3:Upd x.fp m2 m3:=u3.mono fun b hb _=>subx b hb
 have hm3:=hm2.keep u3 (by omega) ⟨nf (by omega),fun b hb=>nf (q2.2 b hb).1,fun b hb=>nf (q3.2 b hb).1⟩
 have gr3:=(u3.same m1.next (by omega) (nf (by omega))).trans gr2
 have T3:=t3
 obtain ⟨pa,ka,ia,rfl,a1,a2,a3⟩:=t3.ex
 simp -implicitDefEqProofs only [st0,newVal,reduceIte]
 refine W_box (c:=[.bool n.leaf,pa,ka,ia]) rfl rfl (by simp [a1.one.2,a2.one.2,a3.one.2,show (Value.bool n.leaf).oneCell'=true from rfl]) fun m4 b4 u4 n4=>?_
 have hm4:=hm3.upd0 u4 (by omega)
 have gr4:=keepg u4 (by omega) gr3
 have hx4:=h3.upd0 u4
 have T4:=T3.upd0 u4
 have e4:=xok hx4
 rw [decide_eq_true (show ({ x with rd:=x.rd+1 }:Wx).err=0 from he)] at e4
 simp -implicitDefEqProofs only [st0,newVal,reduceIte,e4,nodeB_any b4]
 refine W_bind.2 (W_bind.2 ((poor_ok T4 (size_fit hp.rt hp.sz)).mono fun v5 m5 ⟨r5,u5⟩=>?_))
 subst r5
 have x4:=u4.next
 have x5:=u5.next
 have hm5:=hm4.upd0 u5 (by omega)
 have gr5:=keepg u5 (by omega) gr4
 have hx5:=hx4.upd0 u5
 have u05:Upd x.fp m m5:=((u02.nil'.trans u3).then0 u4).then0 u5
 have hall:∀ q∈U0++((p::U1)++U2),True:=fun _ _=>trivial
 cases hpo:poorN n with
 | false =>
  have hp5:=hm5.k2.one
  have hq5:=hm5.k3.one
  have q1':RSl lo0 encP m5 sp []:=(((q1.upd0 u02).upd u3 hfp).upd0 u4).upd0 u5
  simp -implicitDefEqProofs only [st0,newVal,reduceIte,nodeB_any hm5.gn,nodeB_all gr5 false q1'.one.2 hp5.2 hq5.2,nodeB_any (Mem.get_put_self m5 m1.next _)]
  have hpp:Upd [m1.next] m5 (m5.put m1.next (nodeB false sp sk si)):=Upd.put _ _ (by simp)
  have hT:Tr x.o.s h p lo' hi' l1 (p::U1):=Tr_iff.2 ⟨n,U1,hp,rich_ne hpo,hn,rfl⟩
  have hb1:∀ {α:Type} {E:Enc α} {w:Value} {l:List α},RSl lo0 E m w l→∀ b∈blkOf w,b∉[m1.next]:=fun hr b hb=>by have:=(hr.2 b hb).2; simp; omega
  refine ⟨{ x with rd:=x.rd+1 },Nd.nd ks ps,_,hx5.upd hpp fun b hb=>?_,⟨rfl,rfl,rfl,rfl,rfl,rfl,rfl,rfl,rfl,rfl⟩,he,by show x.rd+1≤x.rd+3; omega,hf,⟨sp,sk,si,rfl,q1'.keep hpp (hb1 q1),hm5.k2.keep hpp (hb1 q2),hm5.k3.keep hpp (hb1 q3)⟩,hr,sz_wt hsz,⟨ks,ps,rfl,hk,?_⟩,Stp.refl _ _,hnd,u05.then' hpp (fun b hb=>.inr (by simp at hb; omega))⟩
  ·simp at hb; subst hb
   have w1:m1.next∉x.fp:=nf (by omega)
   simp only [Wx.fp,List.mem_cons,List.not_mem_nil,or_false,not_or] at w1
   exact ⟨w1.2.2,w1.1,w1.2.1,by show m1.next≠x.o.c; omega,by show m1.next≠x.o.p; omega⟩
  ·have:=Fo_of _ _ _ _ _ _ h0 hT h2
   rwa [List.take_append_drop,← e1] at this
 | true =>
  have e2:((ps.length:Int)<2)=False:=eq_false (by
   have:=List.length_pos_iff.2 hne
   omega)
  obtain ⟨na,nb',key,p1,p2,kc,kd,pc,pd,lo1,hi1,m0',la,lb,m2',T0,Ta,Tb,T2,A⟩:=adj hne hc i1 e1 h0 hp hn h2 hpo
  generalize hj:(if 0<c then c - 1 else c)=j at A
  have hjc:j≤c:=by rw [← hj]; split<;>omega
  obtain ⟨f1,f2,f3,f4,f5,f6,f7⟩:=A.join hr hk (sz_inner hsz)
  have hjk:ks[j]? = some key:=by rw [A.ek,← A.jc,List.getElem?_append_right (Nat.le_refl _),Nat.sub_self]; rfl
  have hj1:ps[j]? = some p1:=by rw [A.ep,← A.jp,List.getElem?_append_right (Nat.le_refl _),Nat.sub_self]; rfl
  have hj2:ps[j+1]? = some p2:=by rw [A.ep,← A.jp,List.getElem?_append_right (by omega),Nat.add_sub_cancel_left]; rfl
  have hok:ks.eraseIdx j=kc++kd:=by rw [A.ek,← A.jc]; exact er_mid ..
  have hoi:ps.eraseIdx (j+1)=pc++p1::pd:=by rw [A.ep,← A.jp]; exact er_mid1 ..
  have hp12:p1≠p2:=by
   have:=hnd
   rw [A.eU] at this
   exact (nd5 this).2.2.1
  have hs:¬ sizeN (joinN na nb' key)≤256→_:=fun hs=>Nt_split f1 f2 f4 hs
  have hh2:=A.b1.here.1
  have hh1:=A.a1.here.1
  have key1:W (P106_0 x.v (.int .i64 (j:Int)) (.int .i64 (left:Int)) (.pointer (some ⟨m.next,0,none⟩)) (.pointer (some ⟨m1.next,0,none⟩)) m5) (MenQ x lo0 m h lo hi (l0++(l1++l2)) (U0++((p::U1)++U2))):=by
   refine (mend_mid (x:={ x with rd:=x.rd+1 }) (lo:=lo0) (na:=na) (nb':=nb') (p2:=p2) hx5 he (by show x.rd+1+2≤1000; omega) hl hfp hcp (by omega) ⟨⟨hlo,by omega⟩,⟨by omega,by omega⟩⟩ (by omega) hm5 gr5 i1 hfew.2 hj1 hj2 hjk (by omega) A.a1 A.b1 hp12 f2 f4 (fun hs'=>by
    obtain ⟨s1,s2,s3,s4,s5,_⟩:=hs hs'
    exact ⟨s1,s2,s3,s4,s5⟩)).mono fun r m' ⟨w1,w2⟩=>?_
   have w1:Upd x.fp m m':=u05.then' w1 (fun b hb=>by
    rcases List.mem_cons.1 hb with rfl|hb
    ·right; omega
    ·left; exact hb)
   rw [hok,hoi] at w2
   rcases w2 with ⟨z1,z2,c1,z3⟩|⟨z1,z2,c1,c2,z3⟩
   ·obtain ⟨y1,y2,y3⟩:=A.one hr hk (sz_inner hsz) hnd z1
    have es1:=Wo.s_write hh1 (encN (joinN na nb' key)) c1
    have es2:=Wo.s_drop (o:={ x.o with L:=upL x.o.L p1 (encN (joinN na nb' key)) c1 }) hu20 hP hh2
    rw [es1] at es2
    have ff:=(hf.write hh1 (encN (joinN na nb' key)) c1).drop hu20 hP hh2
    refine ⟨_,_,_,z3,⟨rfl,rfl,rfl,rfl,rfl,rfl,rfl,rfl,rfl,rfl⟩,he,Nat.le_refl _,ff,z2,f5,by show ((kc++kd).map fun k=>3+k.length).sum≤430; omega,?_,?_,y3,w1⟩
    ·rw [es2]; exact y1
    ·rw [es2]; exact y2
   ·have es1:=Wo.s_write hh1 (encN (splitN (joinN na nb' key)).1) c1
    have es2:=Wo.s_write (o:={ x.o with L:=upL x.o.L p1 (encN (splitN (joinN na nb' key)).1) c1 }) hh2 (encN (splitN (joinN na nb' key)).2.1) c2
    rw [es1] at es2
    have ff:=(hf.write hh1 (encN (splitN (joinN na nb' key)).1) c1).write hh2 (encN (splitN (joinN na nb' key)).2.1) c2
    have hrg:=has_rng z3.wr.hP
    have hrg:∀ q,Wo.s { x.o with L:=upL (upL x.o.L p1 (encN (splitN (joinN na nb' key)).1) c1) p2 (encN (splitN (joinN na nb' key)).2.1) c2 } q≠none→1≤q∧q≤65535:=hrg
    rw [es2] at hrg
    obtain ⟨U',y1,y2,y3,y4,y5⟩:=A.two hr hk (sz_inner hsz) hnd z1 hrg
    have hw2:withN (Nd.nd (kc++kd) (pc++p1::pd)) j [([],p1),((splitN (joinN na nb' key)).2.2,p2)]=Nd.nd (kc++(splitN (joinN na nb' key)).2.2::kd) (pc++p1::p2::pd):=by
     have hjc:=A.jc
     have hjp:=A.jp
     have hlen:(pc++p1::pd).length=(kc++kd).length+1:=(right_inner f5 rfl).2.1
     rw [with2 (ks:=kc++kd) (ps:=pc++p1::pd) (by rw [List.length_append]; omega) hlen,List.take_left' hjc,List.drop_left' hjc,List.take_left' hjp]
     congr 3
     rw [← List.drop_drop,List.drop_left' hjp]; rfl
    rw [hw2] at z2
    refine ⟨_,_,_,z3,⟨rfl,rfl,rfl,rfl,rfl,rfl,rfl,rfl,rfl,rfl⟩,he,Nat.le_refl _,ff,z2,y2,y3,?_,?_,y5,w1⟩
    ·rw [es2]; exact y1
    ·rw [es2]; exact y4
  by_cases h0c:0<c
  ·have e5:((0:Int)<(c:Int))=True:=eq_true (by omega)
   have e6:arith .sub (.int .i64 (c:Int)) (.int .i64 1)=some (.int .i64 (j:Int)):=by
    rw [if_pos h0c] at hj
    rw [i64_sub (by omega) (by omega)]; congr 2; omega
   simp -implicitDefEqProofs only [st0,newVal,reduceIte,fa,ndload hm5.gn (o:=0+3) rfl,lenSl hm5.k3,e2,e5,e6]
   exact key1
  ·have e5:((0:Int)<(c:Int))=False:=eq_false (by omega)
   rw [if_neg h0c] at hj
   subst hj
   simp -implicitDefEqProofs only [st0,newVal,reduceIte,fa,ndload hm5.gn (o:=0+3) rfl,lenSl hm5.k3,e2,e5]
   exact key1
end
end Go.Fx.Tryz
namespace Go.Fx.Tryz
open Go Go.Fx
set_option linter.unusedSimpArgs false
set_option linter.unusedVariables false
def RemQ (x:Wx) (m:Mem) (N h page:Nat) (lo:Bs) (hi:Option Bs) (l:List Pr) (U:List Nat) (r:Value) (m':Mem):Prop :=
 ∃ r1 b,r=.tuple #[r1,.bool b]∧((4≤l.length∧∃ x',XR x' m'∧Kin x x'∧x'.err=8∧Upd x.fp m m') ∨
  (b=true∧∃ x' ps U',XR x' m'∧Kin x x'∧x'.err=0∧x'.rd≤x.rd+N∧Fu x'.o∧RSl m.next encPt m' r1 ps∧Pts x'.o.s (Tw x'.o.s h) h page lo hi ps l U'∧Stp x.o.s x'.o.s U U'∧U'.Nodup∧Upd x.fp m m'))
theorem RemQ.from {x x1:Wx} {m m1:Mem} {N N1 h page:Nat} {lo:Bs} {hi:Option Bs} {l:List Pr} {U U1:List Nat} {r:Value} {m':Mem} (hq:RemQ x1 m1 N1 h page lo hi l U1 r m') (hk:Kin x x1) (hu:Upd x.fp m m1) (hs:Stp x.o.s x1.o.s U U1) (hN:x1.rd+N1≤x.rd+N):RemQ x m N h page lo hi l U r m':=by
 obtain ⟨r1,b,e,hq⟩:=hq
 have hn:=hu.next
 refine ⟨r1,b,e,hq.imp (fun ⟨h4,x',a1,a2,a3,a4⟩=>⟨h4,x',a1,hk.trans a2,a3,by rw [hk.fp] at a4; exact hu.trans a4⟩) fun ⟨hb,x',ps,U',a1,a2,a3,a4,a5,a6,a7,a8,a9,a10⟩=>⟨hb,x',ps,U',a1,hk.trans a2,a3,by omega,a5,a6.low hn,a7,hs.trans a8,a9,by rw [hk.fp] at a10; exact hu.trans a10⟩⟩
section
variable {x:Wx} {m:Mem}
theorem rem_put {lo0 b h page:Nat} {sp sk si:Value} {n:Nd} {lo:Bs} {hi:Option Bs} {l:List Pr} {U:List Nat} (hx:XR x m) (he:x.err=0) (hf:Fu x.o) (g:m.get b=some (nodeB false sp sk si)) (ht:TN lo0 m (nodeV false sp sk si) n) (hr:rightN n=true) (hw:wtN n) (hn:Nt x.o.s h n lo hi l U) (hp:x.o.s page≠none) (hpU:page∉U) (hnd:U.Nodup) :
  W (P59_0 x.v (.int .i64 (page:Int)) (.pointer (some ⟨b,0,none⟩)) m) (RemQ x m 0 h page lo hi l (page::U)):=by
 have e:=xok hx
 rw [decide_eq_true he] at e
 rw [P59_0_eq]
 simp -implicitDefEqProofs only [st0,newVal,reduceIte,e,nodeB_any g]
 refine W_bind.2 ((put_tree hx he hf hp ht hr hw hn hpU hnd).mono fun r4 m4 hq=>?_)
 simp -implicitDefEqProofs only [st0,newVal,reduceIte]
 rcases hq with ⟨a1,x',a2,a3,a4,a5⟩|⟨x',ps,S',a1,a2,a3,a4,a5,a6,a7,a8,a9,a10⟩
 ·exact ⟨_,_,rfl,.inl ⟨big4 hn hr a1,x',a2,a3,a4,a5⟩⟩
 ·exact ⟨_,_,rfl,.inr ⟨rfl,x',ps,S',a1,a2,a3,by omega,a5,a6,(put_pts a7).1,a8,a9,a10⟩⟩
end
set_option maxRecDepth 4000 in
theorem xremove {key:Bs}:∀ (h:Nat) (x:Wx) (m:Mem) (page left:Nat) (lo:Bs) (hi:Option Bs) (l:List Pr) (U:List Nat),XR x m→x.err=0→x.rd+4 * (h+1)≤1000→Fu x.o→h<left→left≤40 →
  Tr x.o.s h page lo hi l U→U.Nodup→inR lo hi key→thereN l key=true→W (Call S tab 59 [x.v,.int .i64 (page:Int),.int .i64 (left:Int),str key] m) (RemQ x m (4 * (h+1)) h page lo hi (cutN l key) U):=by
 intro h
 induction h with
 | zero =>
  intro x m page left lo hi l U hx he hrd hf hle hl40 ht hnd hin hth
  obtain ⟨n,U',hp,hn,hnt,rfl⟩:=Tr_iff.1 ht
  have hnt0:n=Nd.lf l∧(∀ x∈l,inR lo hi x.1)∧U'=[]:=hnt
  obtain ⟨rfl,hl,rfl⟩:=hnt0
  obtain ⟨hh,hlk⟩:=hp.here
  have hlt:=has_lt hh
  have hP:=hx.wr.hP
  rw [C59]
  refine W_bind.2 ((xread hx he (by omega) (by omega) (by omega) hh hlk hp.rt hp.sz).mono fun v1 m1 ⟨t1,h1,u1⟩=>?_)
  have x1:=u1.next
  have hT:=t1
  obtain ⟨sp,sk,si,rfl,q1,q2,q3⟩:=t1.ex
  simp -implicitDefEqProofs only [st0,newVal,reduceIte]
  refine W_box (c:=[.bool (Nd.lf l).leaf,sp,sk,si]) rfl rfl (by simp [q1.one.2,q2.one.2,q3.one.2,show (Value.bool (Nd.lf l).leaf).oneCell'=true from rfl]) fun m2 b2 u2 n2=>?_
  have h2:=h1.upd0 u2
  have T2:=hT.upd0 u2
  have x2:=u2.next
  have e5:=xok h2
  rw [decide_eq_true (show ({ x with rd:=x.rd+1 }:Wx).err=0 from he)] at e5
  have hlf:(Nd.lf l).leaf=true:=rfl
  rw [hlf] at b2
  simp -implicitDefEqProofs only [st0,newVal,reduceIte,e5,fa,ndload b2 (o:=0+0) rfl,nodeB_any b2]
  obtain ⟨_,_,r1,v1⟩:=right_leaf hp.rt rfl
  have hrow:rowP l:=⟨r1,fun p hp=>(v1 p hp).2.2⟩
  obtain ⟨w1,w2,w3,w4⟩:=cutN_row (key:=key) hrow
  have hsz:2+(l.map weighP).sum≤256:=hp.sz
  refine W_bind.2 ((find_ok key T2 (size_fit hp.rt hp.sz)).mono fun v3 m3 ⟨r3,u3⟩=>?_)
  subst r3
  have hth':thereN (Nd.lf l).pairs key=true:=hth
  rw [hth']
  have b3:=keepg u3 (by omega) b2
  have x3:=u3.next
  simp -implicitDefEqProofs only [st0,newVal,reduceIte,xt0,xt1,nodeB_any b3]
  refine W_bind.2 ((cut_ok key (T2.upd0 u3) (size_fit hp.rt hp.sz) (by omega)).mono fun v4 m4 ⟨⟨sp',r4,t4,k4⟩,u4⟩=>?_)
  subst r4
  have t4:TIn encP 61 m4 sp' (cutN l key):=t4
  have x4:=u4.next
  have T4:TN m3.next m4 (nodeV true sp' (.slice none 0 0) (.slice none 0 0)) (Nd.lf (cutN l key)):=⟨_,_,_,rfl,t4.1.rsl k4,RSl.nil _ _ _,RSl.nil _ _ _⟩
  have h4:=(h2.upd0 u3).upd0 u4
  have hnt4:Nt x.o.s 0 (Nd.lf (cutN l key)) lo hi (cutN l key) []:=⟨rfl,fun y hy=>hl y (w2 y hy),rfl⟩
  have hr4:=rightN_lf w1.1 w1.2
  have u04:Upd x.fp m m4:=(((u1.mono (fun b hb _=>by simp at hb; simp [Wx.fp,hb])).then0 u2).then0 u3).then0 u4
  refine W_bind.2 ((put_tree h4 he hf (by rw [show ({ x with rd:=x.rd+1 }:Wx).o=x.o from rfl,hp.pg]; simp) T4 hr4 (by show ((cutN l key).map weighP).sum≤344; omega) hnt4 (by simp) (by simp)).mono fun r5 m5 hq=>?_)
  simp -implicitDefEqProofs only [st0,newVal,reduceIte]
  rcases hq with ⟨a1,x',a2,a3,a4,a5⟩|⟨x',ps,S',a1,a2,a3,a4,a5,a6,a7,a8,a9,a10⟩
  ·exact ⟨_,_,rfl,.inl ⟨big4 hnt4 hr4 a1,x',a2,⟨a3.w,a3.pm,a3.c,a3.p,a3.P,a3.nt,a3.hd,a3.xb,a3.rest,a3.t⟩,a4,u04.trans a5⟩⟩
  ·refine ⟨_,_,rfl,.inr ⟨rfl,x',ps,S',a1,⟨a2.w,a2.pm,a2.c,a2.p,a2.P,a2.nt,a2.hd,a2.xb,a2.rest,a2.t⟩,a3,?_,a5,a6.low (by omega),(put_pts a7).1,a8,a9,u04.trans a10⟩⟩
   rw [a4]; show x.rd+1≤x.rd+4 * (0+1); omega
 | succ h ih =>
  intro x m page left lo hi l U hx he hrd hf hle hl40 ht hnd hin hth
  obtain ⟨n,U',hp,hn,hnt,rfl⟩:=Tr_iff.1 ht
  obtain ⟨ks,ps,rfl,hks,hfo⟩:=hnt
  have hne:ks≠[]:=by simpa [neN,Nd.nd] using hn
  obtain ⟨hh,hlk⟩:=hp.here
  have hlt:=has_lt hh
  have hP:=hx.wr.hP
  have fpl:=hx.fp_lt
  obtain ⟨_,i1,r1,v1,p1⟩:=right_inner hp.rt rfl
  have i1:ps.length=ks.length+1:=i1
  have r1:risingK ks=true:=r1
  have p1:∀ k∈ps,1≤k∧k≤65535:=p1
  have hcl:=(child_spec key ks r1).2.2
  obtain ⟨p,lo',hi',l0,l1,l2,S0,S1,S2,e1,e2,e3,e4,e5,e6,e7,e8,e9⟩:=Fo_key (Tr_rng x.o.s h) hfo r1 hks hin
  subst e5 e6
  have ecl:∀ y∈l2,ltB y.1 key=false∧y.1≠key:=fun y hy=>⟨ltB_asymm (e9 y hy),(ltB_ne (e9 y hy)).symm⟩
  rw [there_mid e8 ecl] at hth
  have ecut:cutN (l0++(l1++l2)) key=l0++(cutN l1 key++l2):=cut_mid e8 ecl
  rw [ecut]
  rw [C59]
  refine W_bind.2 ((xread hx he (by omega) (by omega) (by omega) hh hlk hp.rt hp.sz).mono fun v1 m1 ⟨t1,h1,u1⟩=>?_)
  have x1:=u1.next
  have hT:=t1
  obtain ⟨sp,sk,si,rfl,q1,q2,q3⟩:=t1.ex
  have q3:RSl m.next encK m1 si ps:=q3
  simp -implicitDefEqProofs only [st0,newVal,reduceIte]
  refine W_box (c:=[.bool (Nd.nd ks ps).leaf,sp,sk,si]) rfl rfl (by simp [q1.one.2,q2.one.2,q3.one.2,show (Value.bool (Nd.nd ks ps).leaf).oneCell'=true from rfl]) fun m2 b2 u2 n2=>?_
  have h2:=h1.upd0 u2
  have T2:=hT.upd0 u2
  have z5:=xok h2
  rw [decide_eq_true (show ({ x with rd:=x.rd+1 }:Wx).err=0 from he)] at z5
  have hlf:(Nd.nd ks ps).leaf=false:=rfl
  rw [hlf] at b2
  simp -implicitDefEqProofs only [st0,newVal,reduceIte,z5,fa,ndload b2 (o:=0+0) rfl,nodeB_any b2]
  refine W_bind.2 ((child_ok key T2 (size_fit hp.rt hp.sz)).mono fun v3 m3 ⟨r3,u3⟩=>?_)
  subst r3
  have x3:=u3.next
  have h3:=h2.upd0 u3
  have b3:=keepg u3 (by omega) b2
  have q33:=(q3.upd0 u2).upd0 u3
  have hget:ps[childN ks key]? = some p:=by
   have:=congrArg (fun t:List Nat=>t[childN ks key]?) e1
   rw [this,List.getElem?_append_right (by rw [List.length_take]; omega),List.length_take,Nat.min_eq_left (by omega),Nat.sub_self]; rfl
  obtain ⟨pk,y1,y2⟩:=idxK q33 hget
  have y2:=y2 m3 q33
  have esub:arith .sub (.int .i64 (left:Int)) (.int .i64 1)=some (.int .i64 ((left - 1:Nat):Int)):=by rw [i64_sub (by omega) (by omega)]; congr 2; omega
  have y1':runIndexS 1 si (.int .i64 ((childN (Nd.nd ks ps).keys key:Nat):Int))=some pk:=y1
  simp -implicitDefEqProofs only [st0,newVal,reduceIte,fa,ndload b3 (o:=0+3) rfl,y1',y2,esub]
  have u03:Upd x.fp m m3:=((u1.mono (fun b hb _=>by simp at hb; simp [Wx.fp,hb])).then0 u2).then0 u3
  rw [List.nodup_cons] at hnd
  obtain ⟨hpU,hndU⟩:=hnd
  obtain ⟨nd1,nd2⟩:=nodup_out hndU
  refine W_bind.2 ((ih { x with rd:=x.rd+1 } m3 p (left - 1) lo' hi' l1 S1 h3 he (by show x.rd+1+4 * (h+1)≤1000; omega) hf (by omega) (by omega) e3 nd1 e7 hth).mono fun v4 m4 hq=>?_)
  obtain ⟨r1',bb,rfl,hq⟩:=hq
  rcases hq with ⟨a0,x',a1,a2,a3,a4⟩|⟨rfl,x',pts,S1',a1,a2,a3,a4,a5,a6,a7,a8,a9,a10⟩
  ·have z6:=xok a1
   rw [decide_eq_false (show ¬ x'.err=0 by omega),a2.v] at z6
   have f1:=fillPt [] page
   rw [← str_nil] at f1
   have f2:afill [.string ⟨#[]⟩,.int .i64 0] [(0,2,.agg [.string ⟨#[]⟩,.int .i64 (page:Int)].toArray)]=some (encPt.flat [([],page)]):=by kernel_rfl
   simp -implicitDefEqProofs only [st0,newVal,reduceIte,xt0,xt1,z6,f1,f2]
   exact ⟨_,_,rfl,.inl ⟨by simp only [List.length_append]; omega,x',a1.upd0 (Upd.add _ _ _),⟨a2.w,a2.pm,a2.c,a2.p,a2.P,a2.nt,a2.hd,a2.xb,a2.rest,a2.t⟩,a3,(u03.trans a4).add' _⟩⟩
  ·have z6:=xok a1
   rw [decide_eq_true a3,a2.v] at z6
   have a2':Kin x x':=⟨a2.w,a2.pm,a2.c,a2.p,a2.P,a2.nt,a2.hd,a2.xb,a2.rest,a2.t⟩
   have a4:x'.rd≤x.rd+1+4 * (h+1):=a4
   have a8:Stp x.o.s x'.o.s S1 S1':=a8
   have a10:Upd x.fp m3 m4:=a10
   have x4:=a10.next
   have b4:m4.get m1.next=_:=(a10.same _ (by omega) (fun hm=>by have:=fpl _ hm; omega)).trans b3
   have T4:=((T2.upd0 u3).upd a10 (fun b hb=>fpl b hb))
   have hkp:=few_kids hp.rt hp.sz
   have hu:∀ q∈page::(S0++(S1++S2)),x.o.s q≠none:=Tr_used x.o.s (h+1) page lo hi _ _ ht
   have hkeep:∀ q∈S0++S2,x'.o.s q=x.o.s q∧q∉S1':=fun q hq=>a8.keep (nd2 q hq) (hu q (by
    simp only [List.mem_cons,List.mem_append] at hq ⊢
    rcases hq with h|h<;>simp [h]))
   have hpk:=a8.keep (q:=page) (fun h=>hpU (by simp [h])) (hu page (by simp))
   have hpu':x'.o.s page≠none:=by rw [hpk.1]; exact hu page (by simp)
   have hnd':(S0++(S1'++S2)).Nodup:=nodup_ctx hndU a9 (fun q hq=>(hkeep q hq).2)
   have hpS:page∉S0++(S1'++S2):=by
    simp only [List.mem_append,not_or] at hpU ⊢
    exact ⟨hpU.1,hpk.2,hpU.2.2⟩
   have hst:Stp x.o.s x'.o.s (page::(S0++(S1++S2))) (page::(S0++(S1'++S2))):=a8.ctx (T:=page::(S0++S2)) (fun q=>by simp only [List.mem_cons,List.mem_append]; grind) (fun q=>by simp only [List.mem_cons,List.mem_append]; grind)
   have hev:x.v=x'.v:=a2.v.symm
   simp -implicitDefEqProofs only [st0,newVal,reduceIte,xt0,xt1,z6,nodeB_any b4]
   have hpl:pts.length≤2:=by
    rcases a7 with ⟨rfl,_⟩|⟨k,q,la,lb,Sa,Sb,rfl,_⟩<;>simp
   refine W_bind.2 ((with_ok (k:=childN ks key) T4 (a6.low (lo':=m.next) (by omega)) hpl (by omega) hkp.1 hkp.2).mono fun v5 m5 ⟨t5,u5⟩=>?_)
   have x5:=u5.next
   have h5:=a1.upd0 u5
   have b5:=keepg u5 (by omega) b4
   have u05:Upd x.fp m m5:=(u03.trans a10).then0 u5
   have a65:=a6.upd0 u5
   have T5:=t5
   obtain ⟨sp5,sk5,si5,rfl,g1,g2,g3⟩:=t5.ex
   have hlf5:(withN (Nd.nd ks ps) (childN ks key) pts).leaf=false:=rfl
   rw [hlf5] at T5 ⊢
   simp -implicitDefEqProofs only [st0,newVal,reduceIte,nodeB_all b5 false g1.one.2 g2.one.2 g3.one.2,lenSl a65]
   have u6:Upd [m1.next] m5 (m5.put m1.next (nodeB false sp5 sk5 si5)):=Upd.put _ _ (by simp)
   have b6:(m5.put m1.next (nodeB false sp5 sk5 si5)).get m1.next=_:=Mem.get_put_self ..
   have n6:(m5.put m1.next (nodeB false sp5 sk5 si5)).next=m5.next:=rfl
   generalize (m5.put m1.next (nodeB false sp5 sk5 si5))=m6 at u6 b6 n6
   have T6:=T5.upd u6 (fun b hb=>by simp at hb; omega)
   have nf:∀ {b:Nat},m.next≤b→b∉x.fp:=fun hb hm=>by have:=fpl _ hm; omega
   have hcc:=hx.wr.lc
   have hcp:=hx.wr.lp
   have kb:∀ {M M':Mem} {y:Wx},Kin x y→XR y M→Upd [m1.next] M M'→XR y M':=fun ky hy hu=>hy.upd hu fun b hb=>by
    simp at hb; subst hb
    have w1:=nf (b:=m1.next) (by omega)
    simp only [Wx.fp,List.mem_cons,List.not_mem_nil,or_false,not_or] at w1
    rw [ky.xb,ky.w,ky.pm,ky.c,ky.p]
    exact ⟨w1.2.2,w1.1,w1.2.1,by omega,by omega⟩
   have h6:=kb a2' h5 u6
   have u06:Upd x.fp m m6:=u05.then' u6 (fun b hb=>.inr (by simp at hb; omega))
   rcases a7 with ⟨rfl,nk,Sk,c1,c2,rfl⟩|⟨k,q,la,lb,Sa,Sb,rfl,c1,c2,c3,c4,c5,rfl,c6⟩
   ·have ew:=with1 e1 hcl i1
    have el1:decide ((([([],p)]:List Pt).length:Int)=1)=true:=rfl
    rw [ew] at T6
    simp -implicitDefEqProofs only [st0,newVal,reduceIte,el1,nodeB_any b6,esub]
    have f0:=FL_mono (R':=Tr x'.o.s h) _ _ _ _ _ _ (fun p lo hi l T hT ht=>Tr_frame h p lo hi l T (fun q hq=>(hkeep q (List.mem_append.2 (.inl (hT q hq)))).1) ht) e2
    have f2:=FR_mono (R':=Tr x'.o.s h) (fun p lo hi l T hT ht=>Tr_frame h p lo hi l T (fun q hq=>(hkeep q (List.mem_append.2 (.inr (hT q hq)))).1) ht) e4
    rw [hev]
    have fpl':∀ b∈x.fp,b<m4.next:=fun b hb=>by have:=fpl b hb; omega
    refine W_bind.2 ((xmend (lo0:=m4.next) (h:=h) h6 a3 a5 (by omega) (by omega) (by rw [a2'.fp]; exact fpl') (by rw [a2'.c,a2'.p]; exact ⟨by omega,by omega⟩) (by omega) T6 hp.rt hp.sz hks hne hcl e1 f0 c1 c2 f2 hnd').mono fun v7 m7 hq=>?_)
    obtain ⟨x7,n7,U7,d1,d2,d3,d4,d5,d6,d7,d8,d9,d10,d11,d12⟩:=hq
    rw [a2'.fp] at d12
    have x7':=d12.next
    have b7:=(d12.same m1.next (by omega) (nf (by omega))).trans b6
    have k7:=a2'.trans d2
    have hU7:=d10.keep hpS hpu'
    have T7:=d6
    have hn7:=d9
    obtain ⟨kk7,pp7,hn7,_⟩:=hn7
    obtain ⟨sp7,sk7,si7,rfl,g4,g5,g6⟩:=d6.ex
    have hlf7:n7.leaf=false:=by rw [hn7]; rfl
    rw [hlf7] at T7 ⊢
    simp -implicitDefEqProofs only [st0,newVal,reduceIte,nodeB_all b7 false g4.one.2 g5.one.2 g6.one.2]
    have u8:Upd [m1.next] m7 (m7.put m1.next (nodeB false sp7 sk7 si7)):=Upd.put _ _ (by simp)
    have b8:(m7.put m1.next (nodeB false sp7 sk7 si7)).get m1.next=_:=Mem.get_put_self ..
    generalize (m7.put m1.next (nodeB false sp7 sk7 si7))=m8 at u8 b8
    have T8:=T7.upd u8 (fun b hb=>by simp at hb; omega)
    have h8:=kb k7 d1 u8
    have hev7:x'.v=x7.v:=d2.v.symm
    rw [hev7]
    have u08:Upd x.fp m m8:=(u06.trans d12).then' u8 (fun b hb=>.inr (by simp at hb; omega))
    refine (rem_put h8 d3 d5 b8 T8 d7 d8 d9 (by rw [hU7.1]; exact hpu') hU7.2 d11).mono fun r m' hq=>hq.from k7 u08 (hst.trans (d10.ctx (T:=[page]) (fun q=>by simp only [List.mem_cons,List.not_mem_nil,or_false]; exact or_comm) (fun q=>by simp only [List.mem_cons,List.not_mem_nil,or_false]; exact or_comm))) (by omega)
   ·have el2:decide ((([([],p),(k,q)]:List Pt).length:Int)=1)=false:=rfl
    obtain ⟨f1,f2,f3,f4⟩:=ins_inner (s1:=x'.o.s) hp.rt hp.sz hks hne e1 hcl e2 e4 (fun q hq=>(hkeep q hq).1) (has_rng a1.wr.hP) (.inr ⟨k,q,la,lb,Sa,Sb,rfl,c1,c2,c3,c4,c5,rfl,c6⟩)
    simp -implicitDefEqProofs only [st0,newVal,reduceIte,el2]
    rw [hev]
    refine (rem_put h6 a3 a5 b6 T6 f2 f3 f1 hpu' hpS hnd').mono fun r m' hq=>hq.from a2' u06 hst (by omega)
end Go.Fx.Tryz
namespace Go.Fx.Tryz
open Go Go.Fx
set_option linter.unusedSimpArgs false
set_option linter.unusedVariables false
def TrR (s:Nat→Option Bs) (root:Nat) (l:List Pr) (U:List Nat):Prop:=(root=0∧l=[]∧U=[])∨∃ h,Tr s h root [] none l U
section
variable {x:Wx} {m:Mem}
theorem xroot0 (h:XR x m) (he:x.err≠0) (v:Value):Call S tab 60 [x.v,v] m=some (.int .i64 0,m):=by
 refine W_eq ?_
 have e1:=xok h
 rw [decide_eq_false he] at e1
 rw [C60]
 simp -implicitDefEqProofs only [st0,newVal,reduceIte,e1]
 exact ⟨trivial,trivial⟩
theorem rightN2 {k:Bs} {p q:Nat} (hk:k≠[]∧k.length≤32) (hp:1≤p∧p≤65535) (hq:1≤q∧q≤65535):rightN (Nd.nd [k] [p,q])=true∧sizeN (Nd.nd [k] [p,q])≤256:=by
 refine ⟨rightN_nd rfl (by simp [risingK,hk.1,hk.2]) (fun j hj=>?_),?_⟩
 ·simp only [List.mem_cons,List.not_mem_nil,or_false] at hj
  rcases hj with rfl|rfl<;>assumption
 ·show 4+(([k].map fun k=>3+k.length).sum)≤256
  simp; omega
theorem root_tree {lo h page:Nat} {vp:Value} {ps:List Pt} {l:List Pr} {U:List Nat} {R:TP} (hx:XR x m) (he:x.err=0) (hf:Fu x.o) (hfp:∀ b∈x.fp,b<lo) (hv:RSl lo encPt m vp ps) (hP:Pts x.o.s R h page [] none ps l U) (hnd:U.Nodup) :
  W (Call S tab 60 [x.v,vp] m) fun r m'=>(4≤l.length∧∃ x',XR x' m'∧Kin x x'∧x'.err=8∧Upd x.fp m m') ∨
   ∃ (x':Wx) (root:Nat) (U':List Nat),r=.int .i64 (root:Int)∧XR x' m'∧Kin x x'∧x'.err=0∧x'.rd=x.rd∧Fu x'.o∧Stp x.o.s x'.o.s U U'∧U'.Nodup∧Upd x.fp m m'∧((x'.o=x.o∧root=page∧U'=U∧R page [] none l U)∨Tr x'.o.s (h+1) root [] none l U'):=by
 have hP160:=hx.wr.hP
 have hu20:=hx.wr.hu
 rcases hP with ⟨rfl,hR⟩|⟨k,q,la,lb,Sa,Sb,rfl,a1,a2,a3,a4,rfl,rfl,h4⟩
 ·exact W_some.2 (.inr ⟨x,page,U,rfl,hx,Kin.refl x,he,rfl,hf,Stp.refl _ _,hnd,Upd.refl _ _,.inl ⟨rfl,rfl,rfl,hR⟩⟩) |>.of_eq (xroot1 hx he hv)
 ·have hup:x.o.s page≠none∧∃ S',Sa=page::S':=by
   obtain ⟨n,S',hp,_,_,e⟩:=Tr_iff.1 a3
   exact ⟨by rw [hp.pg]; simp,S',e⟩
  have huq:x.o.s q≠none∧∃ S',Sb=q::S':=by
   obtain ⟨n,S',hp,_,_,e⟩:=Tr_iff.1 a4
   exact ⟨by rw [hp.pg]; simp,S',e⟩
  obtain ⟨r1,r2⟩:=rightN2 (p:=page) (q:=q) a2 (has_rng hP160 page hup.1) (has_rng hP160 q huq.1)
  have sub1:∀ b,b∈[x.xb]→b∈x.fp:=fun b hb=>by simp at hb; simp [Wx.fp,hb]
  refine (xroot2 hx he hv (fun b hb=>by
   have h1:=(hv.2 b hb).1
   have f1:=hfp x.o.w (by simp [Wx.fp]); have f2:=hfp x.o.pm (by simp [Wx.fp]); have f3:=hfp x.xb (by simp [Wx.fp])
   exact ⟨by omega,by omega,by omega⟩) r1 r2).mono fun r m' hc=>?_
  rcases hc with ⟨h8,u8⟩|⟨n,c1,c2,y1,y2,y3,rfl,h8,u8⟩
  ·exact .inl ⟨h4,_,h8,⟨rfl,rfl,rfl,rfl,rfl,rfl,rfl,rfl,rfl,rfl⟩,rfl,u8.mono fun b hb _=>sub1 b hb⟩
  ·have hn0:x.o.s n=none:=s_free y3
   have es1:=Wo.s_take hu20 hP160 y1 y2 y3 (zerosB 256) c1
   have f1:=hf.take hu20 hP160 y1 y2 y3 (zerosB 256) c1
   have hh:Wo.has { x.o with u:=turnU x.o.u n,L:=upL x.o.L n (zerosB 256) c1 } n=true:=by
    apply Fu.some; rw [es1]; simp [setS]
   have es2:=Wo.s_write hh (encN (Nd.nd [k] [page,q])) c2
   have f2:=f1.write hh (encN (Nd.nd [k] [page,q])) c2
   rw [es1] at es2
   have hout:∀ j,j≠n→setS (setS x.o.s n (some (zerosB 256))) n (some (encN (Nd.nd [k] [page,q]))) j=x.o.s j:=fun j hj=>by unfold setS; rw [if_neg hj,if_neg hj]
   have hnU:n∉Sa++Sb:=fun hm=>by
    rcases List.mem_append.1 hm with hm|hm
    ·exact Tr_used _ _ _ _ _ _ _ a3 n hm hn0
    ·exact Tr_used _ _ _ _ _ _ _ a4 n hm hn0
   have hfr:∀ j∈Sa++Sb,setS (setS x.o.s n (some (zerosB 256))) n (some (encN (Nd.nd [k] [page,q]))) j=x.o.s j:=fun j hj=>hout j (by rintro rfl; exact hnU hj)
   refine .inr ⟨_,n,n::(Sa++Sb),rfl,h8,Kin.o x ⟨rfl,rfl,rfl,rfl,rfl,rfl,rfl⟩,he,rfl,f2,?_,List.nodup_cons.2 ⟨hnU,hnd⟩,u8,.inr ?_⟩
   ·rw [es2]
    exact ⟨fun j h1 h2=>hout j (fun e=>h2 (by simp [e])),fun j hj=>(List.mem_cons.1 hj).elim (fun e=>.inr (by rw [e]; exact hn0)) .inl,fun j h1 h2=>absurd (List.mem_cons.2 (.inr h1)) h2⟩
   ·rw [es2]
    refine Tr_iff.2 ⟨_,_,⟨by simp [setS],r1,r2⟩,by simp [neN,Nd.nd],⟨[k],[page,q],rfl,fun j hj=>by simp at hj; subst hj; exact a1,la,Sa,lb,Sb,?_,?_,rfl,rfl⟩,rfl⟩
    ·exact Tr_frame h _ _ _ _ _ (fun j hj=>hfr j (List.mem_append.2 (.inl hj))) a3
    ·exact Tr_frame h _ _ _ _ _ (fun j hj=>hfr j (List.mem_append.2 (.inr hj))) a4
theorem shrink_tree {h root:Nat} {l:List Pr} {U:List Nat} (hx:XR x m) (he:x.err=0) (hf:Fu x.o) (hrd:x.rd<1000) (ht:Tw x.o.s h root [] none l U) (hnd:U.Nodup) :
  W (Call S tab 61 [x.v,.int .i64 (root:Int)] m) fun r m'=>∃ (x':Wx) (root':Nat) (U':List Nat),r=.int .i64 (root':Int)∧XR x' m'∧Kin x x'∧x'.err=0∧Fu x'.o∧TrR x'.o.s root' l U'∧Stp x.o.s x'.o.s U U'∧U'.Nodup∧Upd x.fp m m':=by
 obtain ⟨n,U',hp,hn,rfl⟩:=ht
 obtain ⟨hh,hlk⟩:=hp.here
 have hlt:=has_lt hh
 have hP:=hx.wr.hP
 have hu20:=hx.wr.hu
 have subx:∀ b,b∈[x.xb]→b∈x.fp:=fun b hb=>by simp at hb; simp [Wx.fp,hb]
 have sub2:∀ b,b∈[x.o.w,x.xb]→b∈x.fp:=fun b hb=>by simp only [List.mem_cons,List.not_mem_nil,or_false,Wx.fp] at hb ⊢; omega
 rw [List.nodup_cons] at hnd
 rw [C61]
 refine W_bind.2 ((xread (left:=40) hx he hrd (by omega) (by omega) hh hlk hp.rt hp.sz).mono fun v1 m1 ⟨t1,h1,u1⟩=>?_)
 have x1:=u1.next
 obtain ⟨sp,sk,si,rfl,q1,q2,q3⟩:=t1.ex
 simp -implicitDefEqProofs only [st0,newVal,reduceIte]
 refine W_box (c:=[.bool n.leaf,sp,sk,si]) rfl rfl (by simp [q1.one.2,q2.one.2,q3.one.2,show (Value.bool n.leaf).oneCell'=true from rfl]) fun m2 b2 u2 n2=>?_
 have h2:=h1.upd0 u2
 have e2:=xok h2
 rw [decide_eq_true (show ({ x with rd:=x.rd+1 }:Wx).err=0 from he)] at e2
 have u02:Upd x.fp m m2:=(u1.mono fun b hb _=>subx b hb).then0 u2
 have es:=Wo.s_drop hu20 hP hh
 have ff:=hf.drop hu20 hP hh
 have hout:∀ j,j≠root→setS x.o.s root none j=x.o.s j:=fun j hj=>by unfold setS; rw [if_neg hj]
 have hst:Stp x.o.s (setS x.o.s root none) (root::U') U':=⟨fun j h1 h2=>hout j (fun e=>h1 (by simp [e])),fun j hj=>.inl (by simp [hj]),fun j h1 h2=>by
  rcases List.mem_cons.1 h1 with rfl|h1
  ·simp [setS]
  ·exact absurd h1 h2⟩
 cases h with
 | zero =>
  obtain ⟨rfl,hl,rfl⟩:=hn
  have hlf:(Nd.lf l).leaf=true:=rfl
  rw [hlf] at b2
  have q1':RSl m.next encP m2 sp l:=q1.upd0 u2
  have ep:decide ((l.length:Int)=0)=l.isEmpty:=by cases l<;>simp; omega
  cases hem:l.isEmpty with
  | true =>
   rw [hem] at ep
   have hl0:=List.isEmpty_iff.1 hem
   simp -implicitDefEqProofs only [st0,newVal,reduceIte,e2,fa,ndload b2 (o:=0+0) rfl,ndload b2 (o:=0+1) rfl,lenSl q1',ep]
   refine W_bind.2 ((xdrop h2 he (by omega) hh).mono fun v3 m3 ⟨r3,h3,u3⟩=>?_)
   simp -implicitDefEqProofs only [st0,newVal,reduceIte]
   refine ⟨_,0,[],rfl,h3,⟨rfl,rfl,rfl,rfl,rfl,rfl,rfl,rfl,rfl,rfl⟩,he,ff,.inl ⟨rfl,hl0,rfl⟩,?_,List.nodup_nil,u02.trans (u3.mono fun b hb _=>sub2 b hb)⟩
   rw [es]; exact hst
  | false =>
   rw [hem] at ep
   simp -implicitDefEqProofs only [st0,newVal,reduceIte,e2,fa,ndload b2 (o:=0+0) rfl,ndload b2 (o:=0+1) rfl,lenSl q1',ep]
   refine ⟨_,root,_,rfl,h2,⟨rfl,rfl,rfl,rfl,rfl,rfl,rfl,rfl,rfl,rfl⟩,he,hf,.inr ⟨0,Tr_iff.2 ⟨_,_,hp,?_,⟨rfl,hl,rfl⟩,rfl⟩⟩,Stp.refl _ _,List.nodup_cons.2 hnd,u02⟩
   simp only [neN,Nd.lf,if_true]
   intro e; rw [e] at hem; cases hem
 | succ h =>
  obtain ⟨ks,ps,rfl,hks,hfo⟩:=hn
  have hlf:(Nd.nd ks ps).leaf=false:=rfl
  rw [hlf] at b2
  have q2':RSl m.next encS m2 sk ks:=q2.upd0 u2
  have q3':RSl m.next encK m2 si ps:=q3.upd0 u2
  have ep:decide ((ks.length:Int)=0)=ks.isEmpty:=by cases ks<;>simp; omega
  cases hem:ks.isEmpty with
  | true =>
   rw [hem] at ep
   have hl0:=List.isEmpty_iff.1 hem
   subst hl0
   have hps:∃ p,ps=[p]:=by
    match ps,hfo with
    | [p],_=>exact ⟨p,rfl⟩
   obtain ⟨p,rfl⟩:=hps
   have hfo:Tr x.o.s h p [] none l U':=hfo
   simp -implicitDefEqProofs only [st0,newVal,reduceIte,e2,fa,ndload b2 (o:=0+0) rfl,ndload b2 (o:=0+2) rfl,lenSl q2',ep]
   refine W_bind.2 ((xdrop h2 he (by omega) hh).mono fun v3 m3 ⟨r3,h3,u3⟩=>?_)
   have u3:Upd x.fp m2 m3:=u3.mono fun b hb _=>sub2 b hb
   have b3:m3.get m1.next=_:=(u3.same _ (by omega) (fun hm=>by have:=hx.fp_lt _ hm; omega)).trans b2
   have q33:=q3'.upd u3 hx.fp_lt
   obtain ⟨pk,i1,i2⟩:=idxK q33 (i:=0) (p:=p) rfl
   have i1:runIndexS 1 si (.int .i64 0)=some pk:=i1
   simp -implicitDefEqProofs only [st0,newVal,reduceIte,fa,ndload b3 (o:=0+3) rfl,i1,i2 m3 q33]
   refine ⟨_,p,U',rfl,h3,⟨rfl,rfl,rfl,rfl,rfl,rfl,rfl,rfl,rfl,rfl⟩,he,ff,.inr ⟨h,?_⟩,?_,hnd.2,u02.trans u3⟩
   ·rw [es]
    exact Tr_frame h _ _ _ _ _ (fun j hj=>hout j (by rintro rfl; exact hnd.1 hj)) hfo
   ·rw [es]; exact hst
  | false =>
   rw [hem] at ep
   simp -implicitDefEqProofs only [st0,newVal,reduceIte,e2,fa,ndload b2 (o:=0+0) rfl,ndload b2 (o:=0+2) rfl,lenSl q2',ep]
   refine ⟨_,root,_,rfl,h2,⟨rfl,rfl,rfl,rfl,rfl,rfl,rfl,rfl,rfl,rfl⟩,he,hf,.inr ⟨h+1,Tr_iff.2 ⟨_,_,hp,?_,⟨ks,ps,rfl,hks,hfo⟩,rfl⟩⟩,Stp.refl _ _,List.nodup_cons.2 hnd,u02⟩
   simp only [neN,Nd.nd,Bool.false_eq_true,if_false]
   intro e; rw [e] at hem; cases hem
end
end Go.Fx.Tryz
namespace Go.Fx.Tryz
open Go Go.Fx
set_option linter.unusedSimpArgs false
set_option linter.unusedVariables false
structure WI (o:Wo) (ns:List St) (m:Mem):Prop where
 wr:WR o m
 nt:TAp encSt 104 m o.nt ns
 dj:∀ b∈blkOf o.nt,b≠o.w∧b≠o.pm∧b≠o.c∧b≠o.p
 fu:Fu o
def Wo.foot (o:Wo):List Nat:=o.w::o.pm::blkOf o.nt
theorem WI.upd {o:Wo} {ns:List St} {m m':Mem} {fp:List Nat} (h:WI o ns m) (hu:Upd fp m m') (hf:∀ b∈fp,b∉o.foot∧b≠o.c∧b≠o.p):WI o ns m':=by
 have k:∀ b∈fp,b≠o.w∧b≠o.pm∧b∉blkOf o.nt:=fun b hb=>by
  have:=(hf b hb).1
  simp only [Wo.foot,List.mem_cons,not_or] at this
  exact this
 exact ⟨h.wr.upd hu fun b hb=>⟨(k b hb).1,(k b hb).2.1,(hf b hb).2⟩,h.nt.upd hu fun b hb hm=>(k b hm).2.2 hb,h.dj,h.fu⟩
theorem WI.upd0 {o:Wo} {ns:List St} {m m':Mem} (h:WI o ns m) (hu:Upd [] m m'):WI o ns m':=h.upd hu fun b hb=>by cases hb
theorem WI.lt {o:Wo} {ns:List St} {m:Mem} (h:WI o ns m):∀ b∈o.foot,b<m.next:=fun b hb=>by
 rcases List.mem_cons.1 hb with rfl|hb
 ·exact h.wr.lw
 ·rcases List.mem_cons.1 hb with rfl|hb
  ·exact h.wr.lm
  ·exact h.nt.lt b hb
structure Nx (o o':Wo) (m m':Mem):Prop where
 w:o'.w=o.w
 c:o'.c=o.c
 p:o'.p=o.p
 P:o'.P=o.P
 upd:Upd o.foot m m'
 grow:∀ b∈o'.foot,b∈o.foot∨m.next≤b
theorem Nx.of0 {o:Wo} {m m':Mem} (h:Upd [] m m'):Nx o o m m':=⟨rfl,rfl,rfl,rfl,h.nil',fun b hb=>.inl hb⟩
theorem Nx.trans {o o' o'':Wo} {m m' m'':Mem} (h:Nx o o' m m') (k:Nx o' o'' m' m''):Nx o o'' m m'' :=
 ⟨k.w.trans h.w,k.c.trans h.c,k.p.trans h.p,k.P.trans h.P,h.upd.then' k.upd h.grow,fun b hb=>(k.grow b hb).elim (h.grow b) fun hb=>.inr (Nat.le_trans h.upd.next hb)⟩
theorem capsN (f:FuncId) (h:Nat.blt f yBase=true) (l:Array Value):capsOf (.func (.func f) #[] l)=some (f,[],l.toList):=by simp [capsOf,h]
theorem fillX (w:Nat):afill [.pointer none,.int .i64 0,.int .i64 0] [(0,1,.pointer (some ⟨w,0,none⟩))]=some [.pointer (some ⟨w,0,none⟩),.int .i64 0,.int .i64 0]:=by kernel_rfl
abbrev x0 (o:Wo) (xb:Nat):Wx:=⟨o,xb,[],84,0,0⟩
theorem XR.begin {o:Wo} {m:Mem} (h:WR o m):XR (x0 o m.next) (m.add (x0 o m.next).blk):=by
 refine ⟨h.upd0 (Upd.add _ _ _),Mem.get_add_self ..,by show m.next<m.next+1; omega,?_⟩
 have w1:=h.lw; have w2:=h.lm; have w3:=h.lc; have w4:=h.lp
 exact ⟨by show m.next≠o.w; omega,by show m.next≠o.pm; omega,by show m.next≠o.c; omega,by show m.next≠o.p; omega⟩
theorem do_ok {o:Wo} {ns:List St} {m:Mem} (h:WI o ns m) (hnl:ns.length≤90000) {root:Value} {f:FuncId} (hfy:Nat.blt f yBase=true) {caps:Array Value} {E:Prop} {Q:Value→Wo→Prop}
  (hbody:∀ (x:Wx) (m1:Mem),XR x m1→x.err=0→x.rd=0→Fu x.o→x.o.s=o.s→x.o.P=o.P→x.o.u=o.u→Upd (o.w::blkOf o.nt) m m1→(∀ b∈x.fp,b∈o.foot∨m.next≤b) →
   W (Call S tab f (x.v::caps.toList) m1) fun r m2=>∃ x',XR x' m2∧Kin x x'∧Upd x.fp m1 m2∧((x'.err=8∧E)∨(x'.err=0∧Fu x'.o∧Q r x'.o))) :
  W (Call S tab 55 [.pointer (some ⟨o.w,0,none⟩),root,.func (.func f) #[] caps] m) fun r m'=>∃ o' ns',WI o' ns' m'∧Nx o o' m m'∧ns'.length=ns.length+1 ∧
   ((E∧r=.tuple #[root,.int .i64 8]∧o'.s=o.s)∨∃ v,r=.tuple #[v,.int .i64 0]∧Q v o'):=by
 have hw:=h.wr
 have w1:=hw.lw; have w2:=hw.lm; have w3:=hw.lc; have w4:=hw.lp
 rw [C55]
 simp -implicitDefEqProofs only [st0,newVal,reduceIte,fillX,cells_agg]
 have hxr:=XR.begin hw
 have u1:Upd [] m (m.add (x0 o m.next).blk):=Upd.add _ _ _
 have n1:(m.add (x0 o m.next).blk).next=m.next+1:=rfl
 have eblk:(⟨.cells [.pointer (some ⟨o.w,0,none⟩),.int .i64 0,.int .i64 0] 84,false,none⟩:ABlk)=(x0 o m.next).blk:=rfl
 rw [eblk]
 generalize (m.add (x0 o m.next).blk)=m1 at u1 n1 hxr
 refine W_bind.2 ((save_ok (hw.upd0 u1) (h.nt.upd0 u1) (by omega) h.dj).mono fun r2 m2 hq=>?_)
 obtain ⟨rfl,pm',nt',k,r2,t2,k2,d2,g2,l2,l2',u2⟩:=hq
 have x2:=u2.next
 have nin:m.next∉o.w::blkOf o.nt:=fun hm=>by
  rcases List.mem_cons.1 hm with e|e
  ·omega
  ·have:=h.nt.lt _ e; omega
 have hx2:XR (x0 { o with nt:=nt' } m.next) m2:=⟨r2,(u2.same m.next (by omega) nin).trans hxr.hx,by show m.next<m2.next; omega,hxr.ne⟩
 have hs2:Wo.s { o with nt:=nt' } = o.s:=rfl
 have hfu2:Fu { o with nt:=nt' }:=h.fu
 have u02:Upd (o.w::blkOf o.nt) m m2:=u1.nil'.trans u2
 have bnt:∀ b∈blkOf nt',b≠o.w∧b≠o.pm∧b≠o.c∧b≠o.p∧b≠m.next:=fun b hb=>by
  rcases k2 b hb with e|e
  ·have:=h.nt.lt b e; exact ⟨(h.dj b e).1,(h.dj b e).2.1,(h.dj b e).2.2.1,(h.dj b e).2.2.2,by omega⟩
  ·exact ⟨by omega,by omega,by omega,by omega,by omega⟩
 simp -implicitDefEqProofs only [st0,newVal,reduceIte,capsN f hfy]
 have hfoot:∀ b∈(x0 { o with nt:=nt' } m.next).fp,b∈o.foot∨m.next≤b:=fun b hb=>by
  simp only [Wx.fp,Wo.foot,List.mem_cons,List.not_mem_nil,or_false] at hb ⊢
  rcases hb with h|h|h
  ·simp [h]
  ·simp [h]
  ·right; omega
 refine W_bind.2 ((hbody (x0 { o with nt:=nt' } m.next) m2 hx2 rfl rfl hfu2 hs2 rfl rfl u02 hfoot).mono fun r3 m3 hq=>?_)
 obtain ⟨x',a1,a2,a3,a4⟩:=hq
 have x3:=a3.next
 have z:=xok a1
 rw [a2.v] at z
 have t3:TAp encSt 104 m3 nt' (ns++[{ o.st hw.hu with pm:=pm' }]):=t2.upd a3 fun b hb hm=>by
  have:=bnt b hb
  simp only [Wx.fp,List.mem_cons,List.not_mem_nil,or_false] at hm
  rcases hm with e|e|e
  ·exact this.1 e
  ·exact this.2.1 e
  ·exact this.2.2.2.2 e
 have ew:x'.o.w=o.w:=a2.w
 have epm:x'.o.pm=o.pm:=a2.pm
 have ec:x'.o.c=o.c:=a2.c
 have ep:x'.o.p=o.p:=a2.p
 have eP:x'.o.P=o.P:=a2.P
 have ent:x'.o.nt=nt':=a2.nt
 have exb:x'.xb=m.next:=a2.xb
 have u03:Upd o.foot m m3:=(u02.mono fun b hb _=>by
  simp only [Wo.foot,List.mem_cons] at hb ⊢
  rcases hb with h|h<;>simp [h]).then' a3 hfoot
 rcases a4 with ⟨a4,hE⟩|⟨a4,a5,a6⟩
 ·rw [decide_eq_false (show ¬ x'.err=0 by omega)] at z
  have g3:m3.get pm'=some ⟨.map (esL o.L) k,false,none⟩:=(a3.same pm' l2' (fun hm=>by
   simp only [Wx.fp,List.mem_cons,List.not_mem_nil,or_false] at hm
   rcases hm with e|e|e<;>omega)).trans g2
  have hb:=back_ok a1.wr (s:={ o.st hw.hu with pm:=pm' }) (by rw [ent]; exact t3) (by omega) (by rw [ent,ew]; exact fun b hb=>(bnt b hb).1) g3 (by show pm'<m3.next; omega)
  rw [ew] at hb
  simp -implicitDefEqProofs only [st0,newVal,reduceIte,z]
  refine W_bind.2 (hb.mono fun r4 m4 hq=>?_)
  obtain ⟨rfl,pm2,r4,t4,l4,l4',u4⟩:=hq
  have hx4:m4.get m.next=some x'.blk:=by
   rw [u4.same m.next (by omega) (by simp; omega),← exb]; exact a1.hx
  have le:runLoad1 (.pointer (some ⟨m.next,0+1,none⟩)) m4=some (.int .i64 (x'.err:Int)):=load_at hx4 rfl
  rw [a4] at le
  simp -implicitDefEqProofs only [st0,newVal,reduceIte,nck,fa,le]
  refine ⟨_,_,⟨r4,t4,fun b hb=>?_,?_⟩,⟨rfl,ec,ep,eP,u03.trans (u4.mono fun b hb _=>by simp at hb; simp [Wo.foot,hb]),fun b hb=>?_⟩,by simp,.inl ⟨hE,rfl,?_⟩⟩
  ·have hb':b∈blkOf nt':=by rw [← ent]; exact hb
   have:=bnt b hb'
   have:=t3.lt b hb'
   exact ⟨by show b≠o.w; omega,by show b≠pm2; omega,by show b≠x'.o.c; omega,by show b≠x'.o.p; omega⟩
  ·intro q
   have:=h.fu q
   unfold Wo.s Wo.has at this ⊢
   simp only [eP]
   exact this
  ·simp only [Wo.foot,List.mem_cons] at hb
   rcases hb with h|h|h
   ·left; simp [Wo.foot,h]
   ·right; omega
   ·rw [ent] at h
    rcases k2 b h with h|h
    ·left; simp [Wo.foot,h]
    ·right; omega
  ·funext q
   unfold Wo.s Wo.has
   simp only [eP]
   rfl
 ·rw [decide_eq_true a4] at z
  simp -implicitDefEqProofs only [st0,newVal,reduceIte,z]
  refine ⟨x'.o,_,⟨a1.wr,by rw [ent]; exact t3,fun b hb=>?_,a5⟩,⟨ew,ec,ep,eP,u03,fun b hb=>?_⟩,by simp,.inr ⟨r3,rfl,a6⟩⟩
  ·rw [ent] at hb
   have:=bnt b hb
   rw [ew,epm,ec,ep]; exact ⟨this.1,this.2.1,this.2.2.1,this.2.2.2.1⟩
  ·simp only [Wo.foot,List.mem_cons,ew,epm,ent] at hb
   rcases hb with h|h|h
   ·left; simp [Wo.foot,h]
   ·left; simp [Wo.foot,h]
   ·rcases k2 b h with h|h
    ·left; simp [Wo.foot,h]
    ·right; omega
end Go.Fx.Tryz
