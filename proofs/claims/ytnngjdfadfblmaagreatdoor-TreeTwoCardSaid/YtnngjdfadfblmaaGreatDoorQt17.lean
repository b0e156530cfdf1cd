/- Parts of a proof: TreeH, TreeI, TreeJ. Conditions: none. -/
import Derived.Test.YtnngjdfadfblmaaGreatDoorQt16
set_option linter.unusedSimpArgs false
set_option linter.unusedVariables false
namespace Go.Fx.Tryz
open Go Go.Fx
theorem Upd.zv (fp:List Nat) (m:Mem) (n:Nat):Upd fp m (m.zv n):=⟨by simp,fun b _ _=>rfl⟩
def qU (a b:Nd) (key:Bs):Nd:=if a.leaf then Nd.lf (a.pairs++b.pairs) else Nd.nd (a.keys++([key]++b.keys)) (a.kids++b.kids)
theorem qF {m:Mem} {b:Nat} {lf:Bool} {sp sk si:Value} (g:m.get b=some (qh lf sp sk si)):qm 4 (.pointer (some ⟨b,0,none⟩)) m=some (jM lf sp sk si):=zK g rfl
theorem qG {m:Mem} {b:Nat} {lf:Bool} {sp sk si:Value} (g:m.get b=some (qh lf sp sk si)):∀ {o:Nat} {x:Value},[Value.bool lf,sp,sk,si][o]? = some x→qb (.pointer (some ⟨b,o,none⟩)) m=some x:=fun hx=>qu g hx
theorem qdj (x:Value) (hx:x.cells=#[x]):qy [.bool false,.slice none 0 0,.slice none 0 0,.slice none 0 0] [(0,1,.bool true),(1,1,x)]=some [.bool true,x,.slice none 0 0,.slice none 0 0]:=by
 simp only [qy,hx]; rfl
theorem KX (x y:Value) (hx:x.cells=#[x]) (hy:y.cells=#[y]):qy [.bool false,.slice none 0 0,.slice none 0 0,.slice none 0 0] [(2,1,x),(3,1,y)]=some [.bool false,.slice none 0 0,x,y]:=by
 simp only [qy,hx,hy]; rfl
theorem _root_.Go.Fx.RSl.one {lo:Nat} {α:Type} {E:Enc α} {m:Mem} {v:Value} {l:List α} (h:RSl lo E m v l):v.cells=#[v]∧v.oneCell'=true:=by
 rcases yn h.1 with ⟨rfl,_⟩|⟨b,off,cap,rfl⟩<;>exact ⟨rfl,rfl⟩
theorem qgm (x y:Value) (hx:x.cells=#[x]) (hy:y.cells=#[y]):qy [.slice none 0 0,.slice none 0 0] [(0,1,x),(1,1,y)]=some [x,y]:=by
 simp only [qy,hx,hy]; rfl
theorem qiC (x y z:Value) (hx:x.cells=#[x]) (hy:y.cells=#[y]) (hz:z.cells=#[z]):qy [.slice none 0 0,.slice none 0 0,.slice none 0 0] [(0,1,x),(1,1,y),(2,1,z)]=some [x,y,z]:=by
 simp only [qy,hx,hy,hz]; rfl
theorem qcG {lo:Nat} {va vb:Value} {a b:Nd} {m:Mem} (key:Bs) (ha:TN lo m va a) (hb:TN lo m vb b) (hfa:a.Fit) (hfb:b.Fit) (hlo:lo≤m.next) :
  W (Call S tab 160 [va,vb,str key] m) fun r m'=>TN m.next m' r (qU a b key)∧Upd [] m m':=by
 obtain ⟨sp,sk,si,rfl,a1,a2,a3⟩:=ha.ex
 obtain ⟨tp,tk,ti,rfl,b1,b2,b3⟩:=hb.ex
 rw [qjs]
 simp -implicitDefEqProofs only [st0,qc,reduceIte,qQ]
 have u1:Upd [] m (m.add (qh a.leaf sp sk si)):=Upd.add _ _ _
 have g1:(m.add (qh a.leaf sp sk si)).get m.next=some (qh a.leaf sp sk si):=Mem.qk ..
 have n1:(m.add (qh a.leaf sp sk si)).next=m.next+1:=rfl
 generalize (m.add (qh a.leaf sp sk si))=m1 at u1 g1 n1
 have u2:Upd [] m1 (m1.add (qh b.leaf tp tk ti)):=Upd.add _ _ _
 have h2:(m1.add (qh b.leaf tp tk ti)).get m1.next=some (qh b.leaf tp tk ti):=Mem.qk ..
 have n2:(m1.add (qh b.leaf tp tk ti)).next=m1.next+1:=rfl
 have g2:=qA u2 (by omega) g1
 generalize (m1.add (qh b.leaf tp tk ti))=m2 at u2 h2 n2 g2
 have u3:Upd [] m2 (m2.add (qh false (.slice none 0 0) (.slice none 0 0) (.slice none 0 0))):=Upd.add _ _ _
 have o3:(m2.add (qh false (.slice none 0 0) (.slice none 0 0) (.slice none 0 0))).get m2.next=some (qh false (.slice none 0 0) (.slice none 0 0) (.slice none 0 0)):=Mem.qk ..
 have n3:(m2.add (qh false (.slice none 0 0) (.slice none 0 0) (.slice none 0 0))).next=m2.next+1:=rfl
 have g3:=qA u3 (by omega) g2
 have h3:=qA u3 (by omega) h2
 generalize (m2.add (qh false (.slice none 0 0) (.slice none 0 0) (.slice none 0 0)))=m3 at u3 o3 n3 g3 h3
 have u03:Upd [] m m3:=(u1.qD u2).qD u3
 unfold qU
 cases hl:a.leaf with
 | true =>
  rw [hl] at g3
  simp -implicitDefEqProofs only [st0,qc,reduceIte,fa,qG g3 (o:=0+0) rfl,qG g3 (o:=0+1) rfl,qG h3 (o:=0+1) rfl,qgm sp tp a1.one.1 b1.one.1]
  have g4:(m3.add ⟨.cells [sp,tp] 32,false,none⟩).get m3.next=some ⟨.cells [sp,tp] 32,false,none⟩:=Mem.qk ..
  have u4:Upd [] m3 (m3.add ⟨.cells [sp,tp] 32,false,none⟩):=Upd.add _ _ _
  have n4:(m3.add ⟨.cells [sp,tp] 32,false,none⟩).next=m3.next+1:=rfl
  have o4:=qA u4 (by omega) o3
  generalize (m3.add ⟨.cells [sp,tp] 32,false,none⟩)=m4 at g4 u4 n4 o4
  have u04:=u03.qD u4
  have hc:=Hg (lo:=lo) (vb:=m3.next) (by omega) [(sp,a.pairs),(tp,b.pairs)] (by simp) g4 (fun s hs=>by
   simp only [List.mem_cons,List.not_mem_nil,or_false] at hs
   rcases hs with rfl|rfl
   ·exact ⟨a1.qt u04,hfa.pl⟩
   ·exact ⟨b1.qt u04,hfb.pl⟩)
  simp only [List.length_cons,List.length_nil,Nat.zero_add,Nat.reduceAdd] at hc
  refine qo.2 (hc.mono fun v5 m5 ⟨t5,b5,u5⟩=>?_)
  have o5:=qA u5 (by omega) o4
  have x5:=u5.next
  simp -implicitDefEqProofs only [st0,qc,reduceIte,qdj v5 t5.one.1,qX o5 true (sp':=v5) (sk':=.slice none 0 0) (si':=.slice none 0 0) t5.one.2 rfl rfl,qF (Mem.qj m5 m2.next _)]
  have hput:Upd [m2.next] m5 (m5.put m2.next (qh true v5 (.slice none 0 0) (.slice none 0 0))):=Upd.put _ _ (by simp)
  have e5:([(sp,a.pairs),(tp,b.pairs)].map (·.2)).flatten=a.pairs++b.pairs:=by simp
  rw [e5] at t5
  exact ⟨⟨_,_,_,rfl,((t5.rsl b5).upd hput (fun b hb=>by simp at hb; omega)).low (by omega),RSl.nil _ _ _,RSl.nil _ _ _⟩,(u04.qD u5).jL _ (.inr (by omega))⟩
 | false =>
  rw [hl] at g3
  have eK:qy [.string ⟨#[]⟩] [(0,1,str key)]=some (zi.flat [key]):=by kernel_rfl
  have ubu:Upd [] m3 (m3.zv 16):=Upd.zv _ _ _
  have nbu:(m3.zv 16).next=m3.next+16:=rfl
  have gbu:=qA ubu (by omega) g3
  have hbu:=qA ubu (by omega) h3
  have obu:=qA ubu (by omega) o3
  simp -implicitDefEqProofs only [st0,qc,reduceIte,fa,qG g3 (o:=0+0) rfl,qG gbu (o:=0+2) rfl,eK]
  generalize hm4:m3.zv 16=m4 at ubu nbu gbu hbu obu
  have k5:(m4.add ⟨.cells (zi.flat [key]) 9,false,none⟩).get m4.next=some ⟨.cells (zi.flat [key]) 9,false,none⟩:=Mem.qk ..
  have u5:Upd [] m4 (m4.add ⟨.cells (zi.flat [key]) 9,false,none⟩):=Upd.add _ _ _
  have n5:(m4.add ⟨.cells (zi.flat [key]) 9,false,none⟩).next=m4.next+1:=rfl
  have tk5:TAp zi 9 (m4.add ⟨.cells (zi.flat [key]) 9,false,none⟩) (.slice (some ⟨m4.next,0,none⟩) [key].length [key].length) [key]:=TAp.fresh m4 [key]
  generalize (m4.add ⟨.cells (zi.flat [key]) 9,false,none⟩)=m5 at k5 u5 n5 tk5
  have g5:=qA u5 (by omega) gbu
  have h5:=qA u5 (by omega) hbu
  have o5:=qA u5 (by omega) obu
  have u05:Upd [] m m5:=(u03.qD ubu).qD u5
  simp -implicitDefEqProofs only [st0,qc,reduceIte,fa,qG h5 (o:=0+2) rfl,qiC sk (.slice (some ⟨m4.next,0,none⟩) 1 1) tk a2.one.1 rfl b2.one.1]
  have u6:Upd [] m5 (m5.add ⟨.cells [sk,.slice (some ⟨m4.next,0,none⟩) 1 1,tk] 68,false,none⟩):=Upd.add _ _ _
  have q6:(m5.add ⟨.cells [sk,.slice (some ⟨m4.next,0,none⟩) 1 1,tk] 68,false,none⟩).get m5.next=some ⟨.cells [sk,.slice (some ⟨m4.next,0,none⟩) 1 1,tk] 68,false,none⟩:=Mem.qk ..
  have n6:(m5.add ⟨.cells [sk,.slice (some ⟨m4.next,0,none⟩) 1 1,tk] 68,false,none⟩).next=m5.next+1:=rfl
  generalize (m5.add ⟨.cells [sk,.slice (some ⟨m4.next,0,none⟩) 1 1,tk] 68,false,none⟩)=m6 at u6 q6 n6
  have g6:=qA u6 (by omega) g5
  have h6:=qA u6 (by omega) h5
  have o6:=qA u6 (by omega) o5
  have u06:Upd [] m m6:=u05.qD u6
  have hc:=Hf (lo:=lo) (vb:=m5.next) (by omega) [(sk,a.keys),(.slice (some ⟨m4.next,0,none⟩) 1 1,[key]),(tk,b.keys)] (by simp) q6 (fun s hs=>by
   simp only [List.mem_cons,List.not_mem_nil,or_false] at hs
   rcases hs with rfl|rfl|rfl
   ·exact ⟨a2.qt u06,hfa.kl⟩
   ·exact ⟨(tk5.rsl (fun b hb=>by simp [qe] at hb; omega)).qt u6,by simp⟩
   ·exact ⟨b2.qt u06,hfb.kl⟩)
  simp only [List.length_cons,List.length_nil,Nat.zero_add,Nat.reduceAdd] at hc
  refine qo.2 (hc.mono fun v7 m7 ⟨t7,b7,u7⟩=>?_)
  have x7:=u7.next
  have g7:=qA u7 (by omega) g6
  have h7:=qA u7 (by omega) h6
  have o7:=qA u7 (by omega) o6
  simp -implicitDefEqProofs only [st0,qc,reduceIte,fa,qG g7 (o:=0+3) rfl,qG h7 (o:=0+3) rfl,qgm si ti a3.one.1 b3.one.1]
  have u8:Upd [m3.next+12] m7 (m7.put (m3.next+12) ⟨.cells [si,ti] 69,false,none⟩):=Upd.put _ _ (by simp)
  have q8:(m7.put (m3.next+12) ⟨.cells [si,ti] 69,false,none⟩).get (m3.next+12)=some ⟨.cells [si,ti] 69,false,none⟩:=Mem.qj ..
  have n8:(m7.put (m3.next+12) ⟨.cells [si,ti] 69,false,none⟩).next=m7.next:=rfl
  generalize (m7.put (m3.next+12) ⟨.cells [si,ti] 69,false,none⟩)=m8 at u8 q8 n8
  have kp8:∀ {c:Nat} {x:ABlk},c<m3.next→m7.get c=some x→m8.get c=some x:=fun hc hx=>(u8.same _ (by omega) (by simp; omega)).trans hx
  have g8:=kp8 (by omega) g7
  have h8:=kp8 (by omega) h7
  have o8:=kp8 (by omega) o7
  have u08:Upd [] m m8:=(u06.qD u7).then' u8 (fun b hb=>.inr (by simp at hb; omega))
  have hc:=Hh (lo:=lo) (vb:=m3.next+12) (by omega) [(si,a.kids),(ti,b.kids)] (by simp) q8 (fun s hs=>by
   simp only [List.mem_cons,List.not_mem_nil,or_false] at hs
   rcases hs with rfl|rfl
   ·exact ⟨a3.qt u08,hfa.il⟩
   ·exact ⟨b3.qt u08,hfb.il⟩)
  simp only [List.length_cons,List.length_nil,Nat.zero_add,Nat.reduceAdd] at hc
  refine qo.2 (hc.mono fun v9 m9 ⟨t9,b9,u9⟩=>?_)
  have x9:=u9.next
  have g9:=qA u9 (by omega) g8
  have h9:=qA u9 (by omega) h8
  have o9:=qA u9 (by omega) o8
  have t79:TAp zi 9 m9 v7 _:=(t7.upd u8 (fun b hb hm=>by have:=b7 b hb; simp at hm; omega)).qt u9
  simp -implicitDefEqProofs only [st0,qc,reduceIte,KX v7 v9 t7.one.1 t9.one.1,qX o9 false (sp':=.slice none 0 0) (sk':=v7) (si':=v9) rfl t7.one.2 t9.one.2,qF (Mem.qj m9 m2.next _)]
  have hput:Upd [m2.next] m9 (m9.put m2.next (qh false (.slice none 0 0) v7 v9)):=Upd.put _ _ (by simp)
  have e7:([(sk,a.keys),(.slice (some ⟨m4.next,0,none⟩) 1 1,[key]),(tk,b.keys)].map (·.2)).flatten=a.keys++([key]++b.keys):=by simp
  have e9:([(si,a.kids),(ti,b.kids)].map (·.2)).flatten=a.kids++b.kids:=by simp
  rw [e7] at t79
  rw [e9] at t9
  have g10:(m9.put m2.next (qh false (.slice none 0 0) v7 v9)).get m.next=_:=(Mem.qn m9 _ (by omega)).trans g9
  have h10:(m9.put m2.next (qh false (.slice none 0 0) v7 v9)).get m1.next=_:=(Mem.qn m9 _ (by omega)).trans h9
  refine kz (fun r hr=>?_) (xI.2 ⟨⟨_,_,_,rfl,RSl.nil _ _ _,((t79.rsl b7).upd hput (fun b hb=>by simp at hb; omega)).low (by omega),((t9.rsl b9).upd hput (fun b hb=>by simp at hb; omega)).low (by omega)⟩,(u08.qD u9).jL _ (.inr (by omega))⟩)
  simp only [List.mem_cons,List.not_mem_nil,or_false] at hr
  have hG:∀ M∈[m4,m5,m6,m7,m8,m9,m9.put m2.next (qh false (.slice none 0 0) v7 v9)],M.get m.next=some (qh false sp sk si)∧M.get m1.next=some (qh b.leaf tp tk ti):=by
   intro M hM
   simp only [List.mem_cons,List.not_mem_nil,or_false] at hM
   rcases hM with rfl|rfl|rfl|rfl|rfl|rfl|rfl
   ·exact ⟨gbu,hbu⟩
   ·exact ⟨g5,h5⟩
   ·exact ⟨g6,h6⟩
   ·exact ⟨g7,h7⟩
   ·exact ⟨g8,h8⟩
   ·exact ⟨g9,h9⟩
   ·exact ⟨g10,h10⟩
  rcases hr with rfl|rfl|rfl|rfl
  ·exact okL (fun M hM=>qG (hG M hM).1 rfl) (by simp)
  ·exact okL (fun M hM=>qG (hG M hM).2 rfl) (by simp)
  ·exact okL (fun M hM=>qG (hG M hM).1 rfl) (by simp)
  ·exact okL (fun M hM=>qG (hG M hM).2 rfl) (by simp)
end Go.Fx.Tryz
namespace Go.Fx.Tryz
open Go Go.Fx
def xw (w:List Nat) (most all:Nat):Nat→Nat→Nat→Nat
 | 0,i,_=>i
 | d+1,i,part=>if i=0∨(i<most∧2 * part<all) then xw w most all d (i+1) (part+w.getD i 0) else i
def kH (w:List Nat) (most:Nat):Nat:=xw w most w.sum w.length 0 0
def zl (ks:List Bs):Nat:=kH (ks.map fun k=>3+k.length) (ks.length - 2)
def zn (ps:List Pr):Nat:=kH (ps.map qK) (ps.length - 1)
def qB (n:Nd):Nd × Nd × Bs :=
 if n.leaf then (Nd.lf (n.pairs.take (zn n.pairs)),Nd.lf (n.pairs.drop (zn n.pairs)),((n.pairs[zn n.pairs]?).map (·.1)).getD [])
 else (Nd.nd (n.keys.take (zl n.keys)) (n.kids.take (zl n.keys+1)),Nd.nd (n.keys.drop (zl n.keys+1)) (n.kids.drop (zl n.keys+1)),(n.keys[zl n.keys]?).getD [])
theorem JK (w:List Nat) (most all:Nat):∀ (d i part:Nat),xw w most all d i part≤max i (max 1 most)
 | 0,i,part=>by unfold xw; omega
 | d+1,i,part=>by
  unfold xw
  split
  ·rename_i h
   have:=JK w most all d (i+1) (part+w.getD i 0)
   omega
  ·omega
theorem QS (w:List Nat) (most all:Nat):∀ (d i part:Nat),i≤xw w most all d i part
 | 0,i,part=>by unfold xw; omega
 | d+1,i,part=>by
  unfold xw
  split
  ·have:=QS w most all d (i+1) (part+w.getD i 0); omega
  ·omega
theorem Qo {w:List Nat} {most:Nat} (h:w≠[]):1≤kH w most:=by
 unfold kH
 cases w with
 | nil=>exact absurd rfl h
 | cons a l =>
  simp only [List.length_cons]
  unfold xw
  rw [if_pos (.inl rfl)]
  exact QS ..
theorem Qn {w:List Nat} {most:Nat} (h:1≤most):kH w most≤most:=by
 have:=JK w most w.sum w.length 0 0
 unfold kH; omega
theorem ke (w:List Nat) {i:Nat} (h:i<w.length):(w.take (i+1)).sum=(w.take i).sum+w[i]:=by
 rw [List.take_succ_eq_append_getElem h,List.sum_append]; simp
theorem Zb (w:List Nat) (i:Nat):(w.take i).sum≤w.sum:=by
 have:=congrArg List.sum (List.take_append_drop i w)
 rw [List.sum_append] at this
 omega
theorem qcX {lo:Nat} {ks:List Bs} {sk:Value} (hl:ks.length≤65536) (hk:∀ k∈ks,k.length≤65536) (x4 x5:Value) {Q:Value→Mem→Prop} {m:Mem} (h:RSl lo zi m sk ks) (hQ:W (Hq sk (.int .i64 (((ks.map fun k=>3+k.length).sum:Nat):Int)) x4 x5 m) Q) (hs:(ks.map fun k=>3+k.length).sum≤65536 * 65539) :
  ∀ (d i:Nat),ks.length - i=d→i≤ks.length→W (Vq sk (.int .i64 ((((ks.map fun k=>3+k.length).take i).sum:Nat):Int)) x4 x5 sk (.int .i64 (ks.length:Int)) (.int .i64 (i:Int)) m) Q:=by
 intro d
 induction d with
 | zero =>
  intro i hd hi
  obtain rfl:i=ks.length:=by omega
  rw [P202_0_eq]
  simp -implicitDefEqProofs only [st0,qc,reduceIte,Int.lt_irrefl]
  rw [List.take_of_length_le (by simp)]
  exact hQ
 | succ d ih =>
  intro i hd hi
  have hlt:i<ks.length:=by omega
  have e1:((i:Int)<(ks.length:Int))=True:=eq_true (by omega)
  obtain ⟨p,h1,_,h2⟩:=h.1.index .i64 (ja hlt)
  rw [xm] at h1
  have h2:=h2 (str ks[i]) rfl
  have hki:=hk _ (List.getElem_mem hlt)
  have e3:arith .add (.int .i64 3) (.int .i64 (ks[i].length:Int))=some (.int .i64 ((3+ks[i].length:Nat):Int)):=addN (i:=3) (by omega)
  have hsum:=Zb (ks.map fun k=>3+k.length) i
  have ih':=ih (i+1) (by omega) hlt
  rw [ke _ (by simpa using hlt),List.getElem_map] at ih'
  rw [P202_0_eq]
  simp -implicitDefEqProofs only [st0,qc,reduceIte,e1,h1,h2,zy,e3,addN (i:=((ks.map fun k=>3+k.length).take i).sum) (j:=3+ks[i].length) (by omega),qE (i:=i) (by omega)]
  exact ih'
theorem qbx {lo:Nat} {ks:List Bs} {sk:Value} (hl:ks.length≤65536) (h3:3≤ks.length) (hk:∀ k∈ks,k.length≤65536) {m:Mem} (h:RSl lo zi m sk ks) (all:Nat) (hall:all≤65536 * 65539):∀ (d i part:Nat),ks.length - i=d→i≤ks.length→part≤i * 65539 →
  W (Vp sk (.int .i64 (all:Int)) (.int .i64 (part:Int)) (.int .i64 (i:Int)) m) fun r m'=>r=.int .i64 ((xw (ks.map fun k=>3+k.length) (ks.length - 2) all d i part:Nat):Int)∧m'=m:=by
 intro d
 induction d with
 | zero =>
  intro i part hd hi hp
  obtain rfl:i=ks.length:=by omega
  have e0:((ks.length:Int)=0)=False:=eq_false (by omega)
  have e1:arith .sub (.int .i64 (ks.length:Int)) (.int .i64 2)=some (.int .i64 ((ks.length:Int) - 2)):=zS (by omega) (by omega)
  have e2:((ks.length:Int)<(ks.length:Int) - 2)=False:=eq_false (by omega)
  rw [P202_2_eq]
  simp -implicitDefEqProofs only [st0,qc,reduceIte,e0,qY h,e1,e2,xw]
  exact ⟨trivial,trivial⟩
 | succ d ih =>
  intro i part hd hi hp
  have hlt:i<ks.length:=by omega
  have hi6:i * 65539≤65536 * 65539:=Nat.mul_le_mul_right _ (by omega)
  obtain ⟨p,h1,_,h2⟩:=h.1.index .i64 (ja hlt)
  rw [xm] at h1
  have h2:=h2 (str ks[i]) rfl
  have hki:=hk _ (List.getElem_mem hlt)
  have e3:arith .add (.int .i64 3) (.int .i64 (ks[i].length:Int))=some (.int .i64 ((3+ks[i].length:Nat):Int)):=addN (i:=3) (by omega)
  have ih':=ih (i+1) (part+(3+ks[i].length)) (by omega) hlt (by rw [Nat.add_mul]; omega)
  have hgd:(ks.map fun k=>3+k.length).getD i 0=3+ks[i].length:=by
   rw [List.getD_eq_getElem?_getD,List.getElem?_eq_getElem (by simpa using hlt)]; simp
  unfold xw
  rw [hgd]
  rw [P202_2_eq]
  by_cases h0:i=0
  ·rw [if_pos (.inl h0)]
   have e0:((i:Int)=0)=True:=eq_true (by omega)
   simp -implicitDefEqProofs only [st0,qc,reduceIte,e0,h1,h2,zy,e3,addN (i:=part) (j:=3+ks[i].length) (by omega),qE (i:=i) (by omega)]
   exact ih'
  ·have e0:((i:Int)=0)=False:=eq_false (by omega)
   have e1:arith .sub (.int .i64 (ks.length:Int)) (.int .i64 2)=some (.int .i64 ((ks.length:Int) - 2)):=zS (by omega) (by omega)
   have e4:arith .mul (.int .i64 2) (.int .i64 (part:Int))=some (.int .i64 ((2 * part:Nat):Int)):=by rw [qdB,wrap64 (by omega) (by omega)]; simp
   by_cases h4:i<ks.length - 2
   ·have e5:((i:Int)<(ks.length:Int) - 2)=True:=eq_true (by omega)
    by_cases h5:2 * part<all
    ·have e6:(((2 * part:Nat):Int)<(all:Int))=True:=eq_true (by omega)
     rw [if_pos (.inr ⟨h4,h5⟩)]
     simp -implicitDefEqProofs only [st0,qc,reduceIte,e0,qY h,e1,e4,e5,e6,h1,h2,zy,e3,addN (i:=part) (j:=3+ks[i].length) (by omega),qE (i:=i) (by omega)]
     exact ih'
    ·have e6:(((2 * part:Nat):Int)<(all:Int))=False:=eq_false (by omega)
     rw [if_neg (by omega)]
     simp -implicitDefEqProofs only [st0,qc,reduceIte,e0,qY h,e1,e4,e5,e6]
     exact ⟨trivial,trivial⟩
   ·have e5:((i:Int)<(ks.length:Int) - 2)=False:=eq_false (by omega)
    rw [if_neg (by omega)]
    simp -implicitDefEqProofs only [st0,qc,reduceIte,e0,qY h,e1,e5]
    exact ⟨trivial,trivial⟩
theorem kK {α:Type} (f:α→Nat) (c:Nat):∀ l:List α,(∀ a∈l,f a≤c)→(l.map f).sum≤l.length * c
 | [],_=>by simp
 | a::l,h=>by
  have:=kK f c l (fun s hs=>h s (by simp [hs]))
  have:=h a (by simp)
  rw [List.map_cons,List.sum_cons,List.length_cons,Nat.add_mul]; omega
theorem qeJ {lo:Nat} {ks:List Bs} {sk:Value} {m:Mem} (hl:ks.length≤65536) (h3:3≤ks.length) (hk:∀ k∈ks,k.length≤65536) (h:RSl lo zi m sk ks):Call S tab 202 [sk] m=some (.int .i64 ((zl ks:Nat):Int),m):=by
 refine W_eq ?_
 have hs:(ks.map fun k=>3+k.length).sum≤65536 * 65539:=Nat.le_trans (kK _ 65539 ks (fun k hk'=>by have:=hk k hk'; omega)) (Nat.mul_le_mul_right _ hl)
 rw [qjj]
 simp -implicitDefEqProofs only [st0,qc,reduceIte,qY h]
 refine qcX hl hk _ _ h ?_ hs _ 0 rfl (by omega)
 rw [P202_1_eq]
 have:=qbx hl h3 hk h _ hs _ 0 0 rfl (by omega) (by omega)
 simpa [zl,kH] using this
theorem qcN {lo:Nat} {l:List Pr} {sp:Value} (hl:l.length≤65536) (hk:∀ p∈l,p.1.length≤65536∧p.2.length≤65536) (x2 x3 x6 x7:Value) {Q:Value→Mem→Prop} {m0:Mem} (hQ:∀ m,Upd [] m0 m→W (Hs sp x2 x3 (.int .i64 (((l.map qK).sum:Nat):Int)) x6 x7 m) Q) (hs:(l.map qK).sum≤65536 * 131074) :
  ∀ (d i:Nat) (m:Mem),l.length - i=d→i≤l.length→RSl lo qJ m sp l→Upd [] m0 m→W (Vr sp x2 x3 (.int .i64 ((((l.map qK).take i).sum:Nat):Int)) x6 x7 sp (.int .i64 (l.length:Int)) (.int .i64 (i:Int)) m) Q:=by
 intro d
 induction d with
 | zero =>
  intro i m hd hi h hu
  obtain rfl:i=l.length:=by omega
  rw [P201_0_eq]
  simp -implicitDefEqProofs only [st0,qc,reduceIte,Int.lt_irrefl]
  rw [List.take_of_length_le (by simp)]
  exact hQ m hu
 | succ d ih =>
  intro i m hd hi h hu
  have hlt:i<l.length:=by omega
  have e1:((i:Int)<(l.length:Int))=True:=eq_true (by omega)
  obtain ⟨b,off,h1,h2⟩:=h.1.at .i64 (ja hlt)
  rw [qT] at h1 h2
  have h2:=h2 m h.1
  have hp:=hk _ (List.getElem_mem hlt)
  have hsum:=Zb (l.map qK) i
  have hw:qK l[i]≤131074:=by unfold qK; omega
  rw [P201_0_eq]
  simp -implicitDefEqProofs only [st0,qc,reduceIte,e1,h1,h2.1]
  refine xR (c:=qJ.cells l[i]) rfl rfl rfl fun m1 g1 u1 n1=>?_
  have lw:qm 2 (.pointer (some ⟨m.next,0,none⟩)) m1=some (HR l[i]):=zK g1 rfl
  simp -implicitDefEqProofs only [st0,qc,reduceIte,lw]
  refine qo.2 ((ZM l[i] m1 hp.1 hp.2).mono fun v2 m2 ⟨r2,u2⟩=>?_)
  subst r2
  have ih':=ih (i+1) m2 (by omega) hlt ((h.qt u1).qt u2) ((hu.qD u1).qD u2)
  rw [ke _ (by simpa using hlt),List.getElem_map] at ih'
  simp -implicitDefEqProofs only [st0,qc,reduceIte,addN (i:=((l.map qK).take i).sum) (j:=qK l[i]) (by omega),qE (i:=i) (by omega)]
  exact ih'
theorem qbs {lo:Nat} {l:List Pr} {sp:Value} (hl:l.length≤65536) (h2l:2≤l.length) (hk:∀ p∈l,p.1.length≤65536∧p.2.length≤65536) (x2 x3:Value) {Q:Value→Mem→Prop} {m0:Mem} (all:Nat) (hall:all≤65536 * 131074) (r:Nat)
  (hQ:∀ m,Upd [] m0 m→W (Hr sp x2 x3 (.int .i64 (r:Int)) m) Q):∀ (d i part:Nat) (m:Mem),l.length - i=d→i≤l.length→part≤i * 131074→RSl lo qJ m sp l→Upd [] m0 m→xw (l.map qK) (l.length - 1) all d i part=r →
  W (XV sp x2 x3 (.int .i64 (all:Int)) (.int .i64 (part:Int)) (.int .i64 (i:Int)) m) Q:=by
 intro d
 induction d with
 | zero =>
  intro i part m hd hi hp h hu hr
  obtain rfl:i=l.length:=by omega
  have e0:((l.length:Int)=0)=False:=eq_false (by omega)
  have e1:arith .sub (.int .i64 (l.length:Int)) (.int .i64 1)=some (.int .i64 ((l.length:Int) - 1)):=zS (by omega) (by omega)
  have e2:((l.length:Int)<(l.length:Int) - 1)=False:=eq_false (by omega)
  unfold xw at hr
  subst hr
  rw [P201_2_eq]
  simp -implicitDefEqProofs only [st0,qc,reduceIte,e0,qY h,e1,e2]
  exact hQ m hu
 | succ d ih =>
  intro i part m hd hi hp h hu hr
  have hlt:i<l.length:=by omega
  have hi6:i * 131074≤65536 * 131074:=Nat.mul_le_mul_right _ (by omega)
  obtain ⟨b,off,h1,h2⟩:=h.1.at .i64 (ja hlt)
  rw [qT] at h1 h2
  have h2:=h2 m h.1
  have hpi:=hk _ (List.getElem_mem hlt)
  have hw:qK l[i]≤131074:=by unfold qK; omega
  have hgd:(l.map qK).getD i 0=qK l[i]:=by
   rw [List.getD_eq_getElem?_getD,List.getElem?_eq_getElem (by simpa using hlt)]; simp
  unfold xw at hr
  rw [hgd] at hr
  have step:xw (l.map qK) (l.length - 1) all d (i+1) (part+qK l[i])=r→W ((Call S tab 113 [HR l[i]] m).bind fun p22=>(arith .add (.int .i64 (part:Int)) p22.1).bind fun v23=>(arith .add (.int .i64 (i:Int)) (.int .i64 1)).bind fun v24=>XV sp x2 x3 (.int .i64 (all:Int)) v23 v24 p22.2) Q:=by
   intro hr'
   refine qo.2 ((ZM l[i] m hpi.1 hpi.2).mono fun v2 m2 ⟨r2,u2⟩=>?_)
   subst r2
   simp -implicitDefEqProofs only [st0,qc,reduceIte,addN (i:=part) (j:=qK l[i]) (by omega),qE (i:=i) (by omega)]
   exact ih (i+1) _ m2 (by omega) hlt (by rw [Nat.add_mul]; omega) (h.qt u2) (hu.qD u2) hr'
  rw [P201_2_eq]
  by_cases h0:i=0
  ·rw [if_pos (.inl h0)] at hr
   have e0:((i:Int)=0)=True:=eq_true (by omega)
   simp -implicitDefEqProofs only [st0,qc,reduceIte,e0,h1,h2.1]
   exact step hr
  ·have e0:((i:Int)=0)=False:=eq_false (by omega)
   have e1:arith .sub (.int .i64 (l.length:Int)) (.int .i64 1)=some (.int .i64 ((l.length:Int) - 1)):=zS (by omega) (by omega)
   have e4:arith .mul (.int .i64 2) (.int .i64 (part:Int))=some (.int .i64 ((2 * part:Nat):Int)):=by rw [qdB,wrap64 (by omega) (by omega)]; simp
   by_cases h4:i<l.length - 1
   ·have e5:((i:Int)<(l.length:Int) - 1)=True:=eq_true (by omega)
    by_cases h5:2 * part<all
    ·have e6:(((2 * part:Nat):Int)<(all:Int))=True:=eq_true (by omega)
     rw [if_pos (.inr ⟨h4,h5⟩)] at hr
     simp -implicitDefEqProofs only [st0,qc,reduceIte,e0,qY h,e1,e4,e5,e6,h1,h2.1]
     exact step hr
    ·have e6:(((2 * part:Nat):Int)<(all:Int))=False:=eq_false (by omega)
     rw [if_neg (by omega)] at hr
     subst hr
     simp -implicitDefEqProofs only [st0,qc,reduceIte,e0,qY h,e1,e4,e5,e6]
     exact hQ m hu
   ·have e5:((i:Int)<(l.length:Int) - 1)=False:=eq_false (by omega)
    rw [if_neg (by omega)] at hr
    subst hr
    simp -implicitDefEqProofs only [st0,qc,reduceIte,e0,qY h,e1,e5]
    exact hQ m hu
theorem Kj {lo:Nat} {l:List Pr} {sp:Value} {m:Mem} (hl:l.length≤65536) (h2l:2≤l.length) (hk:∀ p∈l,p.1.length≤65536∧p.2.length≤65536) (h:RSl lo qJ m sp l) :
  W (Call S tab 201 [sp] m) fun r m'=>(∃ va vb,r=.tuple #[va,vb,str (((l[zn l]?).map (·.1)).getD [])]∧TN m.next m' va (Nd.lf (l.take (zn l)))∧TN m.next m' vb (Nd.lf (l.drop (zn l))))∧Upd [] m m':=by
 have hs:(l.map qK).sum≤65536 * 131074:=Nat.le_trans (kK _ 131074 l (fun p hp=>by have:=hk p hp; unfold qK; omega)) (Nat.mul_le_mul_right _ hl)
 have hh1:1≤zn l:=Qo (by cases l with|nil=>simp at h2l|cons a r=>simp)
 have hh2:zn l≤l.length - 1:=Qn (by omega)
 have hlt:zn l<l.length:=by omega
 rw [qjk]
 simp -implicitDefEqProofs only [st0,qc,reduceIte,qY h]
 have u1:Upd [] m (m.add (qh false (.slice none 0 0) (.slice none 0 0) (.slice none 0 0))):=Upd.add _ _ _
 have g1:(m.add (qh false (.slice none 0 0) (.slice none 0 0) (.slice none 0 0))).get m.next=some (qh false (.slice none 0 0) (.slice none 0 0) (.slice none 0 0)):=Mem.qk ..
 have n1:(m.add (qh false (.slice none 0 0) (.slice none 0 0) (.slice none 0 0))).next=m.next+1:=rfl
 generalize (m.add (qh false (.slice none 0 0) (.slice none 0 0) (.slice none 0 0)))=m1 at u1 g1 n1
 have u2:Upd [] m1 (m1.add (qh false (.slice none 0 0) (.slice none 0 0) (.slice none 0 0))):=Upd.add _ _ _
 have h2:(m1.add (qh false (.slice none 0 0) (.slice none 0 0) (.slice none 0 0))).get m1.next=some (qh false (.slice none 0 0) (.slice none 0 0) (.slice none 0 0)):=Mem.qk ..
 have n2:(m1.add (qh false (.slice none 0 0) (.slice none 0 0) (.slice none 0 0))).next=m1.next+1:=rfl
 have g2:=qA u2 (by omega) g1
 generalize (m1.add (qh false (.slice none 0 0) (.slice none 0 0) (.slice none 0 0)))=m2 at u2 h2 n2 g2
 have u02:=u1.qD u2
 refine qcN (m0:=m2) hl hk _ _ _ _ (fun m3 u3=>?_) hs _ 0 m2 rfl (by omega) (h.qt u02) (Upd.refl _ _)
 rw [P201_1_eq]
 refine qbs (m0:=m2) hl h2l hk _ _ _ hs (zn l) (fun m4 u4=>?_) _ 0 0 m3 rfl (by omega) (by omega) ((h.qt u02).qt u3) u3 (by simp [zn,kH])
 have g4:=qA u4 (by omega) g2
 have h4:=qA u4 (by omega) h2
 have k4:=(h.qt u02).qt u4
 have x4:=u4.next
 have u04:=u02.qD u4
 obtain ⟨va,ea,ka⟩:=k4.qcj (k:=zn l) (by omega)
 obtain ⟨vb,eb,kb⟩:=k4.from (k:=zn l) (by omega)
 rw [qT] at ea eb
 rw [P201_3_eq]
 simp -implicitDefEqProofs only [st0,qc,reduceIte,ea]
 refine qo.2 ((QV ka (by rw [List.length_take]; omega)).mono fun v5 m5 ⟨t5,u5,b5⟩=>?_)
 have k5:=k4.qt u5
 have eb5:=eb m5 (fun b hb=>u5.same b (k4.2 b hb).2 (by simp))
 simp -implicitDefEqProofs only [st0,qc,reduceIte,qdj v5 t5.ap.one.1,eb5]
 refine qo.2 ((QV (kb.qt u5) (by rw [List.length_drop]; omega)).mono fun v6 m6 ⟨t6,u6,b6⟩=>?_)
 have k6:=k5.qt u6
 obtain ⟨b,off,q1,q2⟩:=k6.1.at .i64 (ja hlt)
 rw [qT] at q1
 have qv:∀ {M:Mem},RSl lo qJ M sp l→qb (.pointer (some ⟨b,off+0,none⟩)) M=some (str l[zn l].1):=fun hM=>(q2 _ hM.1).2 0 (str l[zn l].1) rfl
 have x5:=u5.next
 have x6:=u6.next
 have g6:=qA u6 (by omega) (qA u5 (by omega) g4)
 have h6:=qA u6 (by omega) (qA u5 (by omega) h4)
 simp -implicitDefEqProofs only [st0,qc,reduceIte,qdj v6 t6.ap.one.1,q1,fa,qv k6,qX g6 true (sp':=v5) (sk':=.slice none 0 0) (si':=.slice none 0 0) t5.ap.one.2 rfl rfl]
 have g7:(m6.put m.next (qh true v5 (.slice none 0 0) (.slice none 0 0))).get m.next=_:=Mem.qj ..
 have h7:(m6.put m.next (qh true v5 (.slice none 0 0) (.slice none 0 0))).get m1.next=_:=(Mem.qn m6 _ (by omega)).trans h6
 have u7:Upd [m.next] m6 (m6.put m.next (qh true v5 (.slice none 0 0) (.slice none 0 0))):=Upd.put _ _ (by simp)
 generalize (m6.put m.next (qh true v5 (.slice none 0 0) (.slice none 0 0)))=m7 at g7 h7 u7
 simp -implicitDefEqProofs only [st0,qc,reduceIte,qX h7 true (sp':=v6) (sk':=.slice none 0 0) (si':=.slice none 0 0) t6.ap.one.2 rfl rfl]
 have h8:(m7.put m1.next (qh true v6 (.slice none 0 0) (.slice none 0 0))).get m1.next=_:=Mem.qj ..
 have g8:(m7.put m1.next (qh true v6 (.slice none 0 0) (.slice none 0 0))).get m.next=_:=(Mem.qn m7 _ (by omega)).trans g7
 have u8:Upd [m1.next] m7 (m7.put m1.next (qh true v6 (.slice none 0 0) (.slice none 0 0))):=Upd.put _ _ (by simp)
 generalize (m7.put m1.next (qh true v6 (.slice none 0 0) (.slice none 0 0)))=m8 at g8 h8 u8
 have x7:=u7.next
 have x8:=u8.next
 have hnk:∀ {c:Nat},m.next≤c→c<m4.next→∀ b∈qe sp,b≠c:=fun hc1 hc2 b hb=>by have:=(h.2 b hb).2; omega
 have k7:=k6.zF u7 (fun b hb hm=>by simp at hm; have:=(h.2 b hb).2; omega)
 have k8:=k7.zF u8 (fun b hb hm=>by simp at hm; have:=(h.2 b hb).2; omega)
 have ta:TAp qJ 61 m8 v5 (l.take (zn l)):=((t5.ap.qt u6).upd u7 (fun b hb hm=>by simp at hm; have:=b5 b hb; omega)).upd u8 (fun b hb hm=>by simp at hm; have:=b5 b hb; omega)
 have tb:TAp qJ 61 m8 v6 (l.drop (zn l)):=(t6.ap.upd u7 (fun b hb hm=>by simp at hm; have:=b6 b hb; omega)).upd u8 (fun b hb hm=>by simp at hm; have:=b6 b hb; omega)
 simp -implicitDefEqProofs only [st0,qc,reduceIte,qF g8,qF h8]
 refine kz (fun r hr=>?_) (xI.2 ⟨⟨_,_,?_,⟨_,_,_,rfl,ta.rsl (fun b hb=>by have:=b5 b hb; omega),RSl.nil _ _ _,RSl.nil _ _ _⟩,⟨_,_,_,rfl,tb.rsl (fun b hb=>by have:=b6 b hb; omega),RSl.nil _ _ _,RSl.nil _ _ _⟩⟩,?_⟩)
 ·simp only [List.mem_cons,List.not_mem_nil,or_false] at hr
  rcases hr with rfl|rfl|rfl
  ·exact okR fun k _ hk'=>by
    obtain rfl:k=0:=by omega
    exact ⟨_,rfl,ea _⟩
  ·exact okR fun k _ hk'=>by
    have:k=0∨k=1:=by omega
    rcases this with rfl|rfl
    ·exact ⟨_,rfl,eb _ (fun _ _=>rfl)⟩
    ·exact ⟨_,rfl,eb5⟩
  ·exact okL (fun M hM=>by
    simp only [List.mem_cons,List.not_mem_nil,or_false] at hM
    rcases hM with rfl|rfl|rfl|rfl|rfl
    ·exact qv k4
    ·exact qv k5
    ·exact qv k6
    ·exact qv k7
    ·exact qv k8) (by simp)
 ·rw [List.getElem?_eq_getElem hlt]; rfl
 ·exact (((u04.qD u5).qD u6).then' u7 (fun b hb=>.inr (by simp at hb; omega))).then' u8 (fun b hb=>.inr (by simp at hb; omega))
end Go.Fx.Tryz
namespace Go.Fx.Tryz
open Go Go.Fx
theorem ex3 (a b c:Value):qf 0 (.tuple #[a,b,c])=some a∧qf 1 (.tuple #[a,b,c])=some b∧qf 2 (.tuple #[a,b,c])=some c:=⟨rfl,rfl,rfl⟩
theorem JB {lo : Nat} {v : Value} {n : Nd} {m : Mem} (h : TN lo m v n) (hf : n.Fit) (hn : if n.leaf then 2 ≤ n.pairs.length else 3 ≤ n.keys.length ∧ n.kids.length = n.keys.length + 1) :
    W (Call S tab 156 [v] m) fun r m' => (∃ va vb, r = .tuple #[va, vb, str (qB n).2.2] ∧ TN m.next m' va (qB n).1 ∧ TN m.next m' vb (qB n).2.1) ∧ Upd [] m m' := by
  obtain ⟨sp, sk, si, rfl, a1, a2, a3⟩ := h.ex
  rw [qjw]
  simp -implicitDefEqProofs only [st0, qc, reduceIte, qQ]
  have u1 : Upd [] m (m.add (qh n.leaf sp sk si)) := Upd.add _ _ _
  have g1 : (m.add (qh n.leaf sp sk si)).get m.next = some (qh n.leaf sp sk si) := Mem.qk ..
  have n1 : (m.add (qh n.leaf sp sk si)).next = m.next + 1 := rfl
  generalize (m.add (qh n.leaf sp sk si)) = m1 at u1 g1 n1
  have u2 : Upd [] m1 (m1.add (qh false (.slice none 0 0) (.slice none 0 0) (.slice none 0 0))) := Upd.add _ _ _
  have h2 : (m1.add (qh false (.slice none 0 0) (.slice none 0 0) (.slice none 0 0))).get m1.next = some (qh false (.slice none 0 0) (.slice none 0 0) (.slice none 0 0)) := Mem.qk ..
  have n2 : (m1.add (qh false (.slice none 0 0) (.slice none 0 0) (.slice none 0 0))).next = m1.next + 1 := rfl
  have g2 := qA u2 (by omega) g1
  generalize (m1.add (qh false (.slice none 0 0) (.slice none 0 0) (.slice none 0 0))) = m2 at u2 h2 n2 g2
  have u3 : Upd [] m2 (m2.add (qh false (.slice none 0 0) (.slice none 0 0) (.slice none 0 0))) := Upd.add _ _ _
  have o3 : (m2.add (qh false (.slice none 0 0) (.slice none 0 0) (.slice none 0 0))).get m2.next = some (qh false (.slice none 0 0) (.slice none 0 0) (.slice none 0 0)) := Mem.qk ..
  have n3 : (m2.add (qh false (.slice none 0 0) (.slice none 0 0) (.slice none 0 0))).next = m2.next + 1 := rfl
  have g3 := qA u3 (by omega) g2
  have h3 := qA u3 (by omega) h2
  generalize (m2.add (qh false (.slice none 0 0) (.slice none 0 0) (.slice none 0 0))) = m3 at u3 o3 n3 g3 h3
  have u03 : Upd [] m m3 := (u1.qD u2).qD u3
  unfold qB
  cases hl : n.leaf with
  | true =>
    rw [hl, if_pos rfl] at hn
    rw [hl] at g3
    have e1 : ((n.pairs.length : Int) > 1) = True := eq_true (by omega)
    simp -implicitDefEqProofs only [st0, qc, reduceIte, fa, qG g3 (o := 0 + 0) rfl, qG g3 (o := 0 + 1) rfl, qY a1]
    have e2 : decide ((1 : Int) < (n.pairs.length : Int)) = true := by simp; omega
    simp -implicitDefEqProofs only [st0, qc, reduceIte, e2]
    refine qo.2 ((Kj hf.pl hn hf.ps (a1.qt u03)).mono fun v4 m4 ⟨⟨va, vb, r4, ta, tb⟩, u4⟩ => ?_)
    subst r4
    obtain ⟨pa, ka, ia, rfl, qa1, qa2, qa3⟩ := ta.ex
    obtain ⟨pb, kb, ib, rfl, qb1, qb2, qb3⟩ := tb.ex
    have h4 := qA u4 (by omega) h3
    have o4 := qA u4 (by omega) o3
    have x4 := u4.next
    simp -implicitDefEqProofs only [st0, qc, reduceIte, (ex3 _ _ _).1, (ex3 _ _ _).2.1, (ex3 _ _ _).2.2, qX h4 _ qa1.one.2 qa2.one.2 qa3.one.2]
    have u5 : Upd [m1.next] m4 (m4.put m1.next (qh (Nd.lf (n.pairs.take (zn n.pairs))).leaf pa ka ia)) := Upd.put _ _ (by simp)
    have h5 : (m4.put m1.next (qh (Nd.lf (n.pairs.take (zn n.pairs))).leaf pa ka ia)).get m1.next = _ := Mem.qj ..
    have o5 : (m4.put m1.next (qh (Nd.lf (n.pairs.take (zn n.pairs))).leaf pa ka ia)).get m2.next = _ := (Mem.qn m4 _ (by omega)).trans o4
    generalize (m4.put m1.next (qh (Nd.lf (n.pairs.take (zn n.pairs))).leaf pa ka ia)) = m5 at u5 h5 o5
    simp -implicitDefEqProofs only [st0, qc, reduceIte, qX o5 _ qb1.one.2 qb2.one.2 qb3.one.2]
    have u6 : Upd [m2.next] m5 (m5.put m2.next (qh (Nd.lf (n.pairs.drop (zn n.pairs))).leaf pb kb ib)) := Upd.put _ _ (by simp)
    have o6 : (m5.put m2.next (qh (Nd.lf (n.pairs.drop (zn n.pairs))).leaf pb kb ib)).get m2.next = _ := Mem.qj ..
    have h6 : (m5.put m2.next (qh (Nd.lf (n.pairs.drop (zn n.pairs))).leaf pb kb ib)).get m1.next = _ := (Mem.qn m5 _ (by omega)).trans h5
    generalize (m5.put m2.next (qh (Nd.lf (n.pairs.drop (zn n.pairs))).leaf pb kb ib)) = m6 at u6 h6 o6
    simp -implicitDefEqProofs only [st0, qc, reduceIte, qF h6, qF o6]
    have hk : ∀ b ∈ [m1.next], b < m3.next := fun b hb => by simp at hb; omega
    have hk2 : ∀ b ∈ [m2.next], b < m3.next := fun b hb => by simp at hb; omega
    refine ⟨⟨_, _, rfl, ?_, ?_⟩, ((u03.qD u4).then' u5 (fun b hb => .inr (by simp at hb; omega))).then' u6 (fun b hb => .inr (by simp at hb; omega))⟩
    · exact ((ta.upd u5 hk).upd u6 hk2).low (by omega)
    · exact ((tb.upd u5 hk).upd u6 hk2).low (by omega)
  | false =>
    rw [hl, if_neg (by simp)] at hn
    rw [hl] at g3
    obtain ⟨hk3, hkl⟩ := hn
    have hh1 : 1 ≤ zl n.keys := Qo (by cases hx : n.keys with | nil => rw [hx] at hk3; simp at hk3 | cons a r => simp)
    have hh2 : zl n.keys ≤ n.keys.length - 2 := Qn (by omega)
    have hlt : zl n.keys < n.keys.length := by omega
    have hkk := hf.kl
    have e2 : decide ((2 : Int) < (n.keys.length : Int)) = true := by simp; omega
    have e3 : ((n.kids.length : Int) = ((n.keys.length + 1 : Nat) : Int)) = True := eq_true (by omega)
    have b2 := a2.qt u03
    have b3 := a3.qt u03
    simp -implicitDefEqProofs only [st0, qc, reduceIte, fa, qG g3 (o := 0 + 0) rfl, qG g3 (o := 0 + 2) rfl, qG g3 (o := 0 + 3) rfl, qY a2, qY a3, e2, qE (i := n.keys.length) (by omega), e3, qeJ hf.kl hk3 hf.ks b2]
    generalize hI : zl n.keys = i at hh1 hh2 hlt
    have bub : Upd [] m3 (m3.zv 14) := Upd.zv _ _ _
    have nbu : (m3.zv 14).next = m3.next + 14 := rfl
    have g4 := qA bub (by omega) g3
    have h4 := qA bub (by omega) h3
    have o4 := qA bub (by omega) o3
    generalize m3.zv 14 = m4 at bub nbu g4 h4 o4
    have c2 := b2.qt bub
    have c3 := b3.qt bub
    obtain ⟨w1, e5, k1⟩ := c2.qcj (k := i) (by omega)
    obtain ⟨w2, e6, k2⟩ := c3.qcj (k := i + 1) (by omega)
    rw [xm] at e5
    rw [jG] at e6
    simp -implicitDefEqProofs only [st0, qc, reduceIte, qG g4 (o := 0 + 2) rfl, e5]
    refine qo.2 ((JR k1 (by rw [List.length_take]; omega)).mono fun v5 m5 ⟨t5, u5, r5⟩ => ?_)
    have x5 := u5.next
    have g5 := qA u5 (by omega) g4
    have h5 := qA u5 (by omega) h4
    have o5 := qA u5 (by omega) o4
    simp -implicitDefEqProofs only [st0, qc, reduceIte, qG g5 (o := 0 + 3) rfl, qE (i := i) (by omega), e6]
    refine qo.2 ((JS (k2.qt u5) (by rw [List.length_take]; omega)).mono fun v6 m6 ⟨t6, u6, r6⟩ => ?_)
    have x6 := u6.next
    have g6 := qA u6 (by omega) g5
    have h6 := qA u6 (by omega) h5
    have o6 := qA u6 (by omega) o5
    have t56 := t5.ap.qt u6
    simp -implicitDefEqProofs only [st0, qc, reduceIte, KX v5 v6 t5.ap.one.1 t6.ap.one.1]
    have u7 : Upd [m3.next + 12] m6 (m6.put (m3.next + 12) (qh false (.slice none 0 0) (.slice none 0 0) (.slice none 0 0))) := Upd.put _ _ (by simp)
    have q7 : (m6.put (m3.next + 12) (qh false (.slice none 0 0) (.slice none 0 0) (.slice none 0 0))).get (m3.next + 12) = _ := Mem.qj ..
    generalize (m6.put (m3.next + 12) (qh false (.slice none 0 0) (.slice none 0 0) (.slice none 0 0))) = m7 at u7 q7
    simp -implicitDefEqProofs only [st0, qc, reduceIte, qX q7 false (sp' := .slice none 0 0) (sk' := v5) (si' := v6) rfl t5.ap.one.2 t6.ap.one.2]
    have u8 : Upd [m3.next + 12] m7 (m7.put (m3.next + 12) (qh false (.slice none 0 0) v5 v6)) := Upd.put _ _ (by simp)
    have q8 : (m7.put (m3.next + 12) (qh false (.slice none 0 0) v5 v6)).get (m3.next + 12) = _ := Mem.qj ..
    generalize (m7.put (m3.next + 12) (qh false (.slice none 0 0) v5 v6)) = m8 at u8 q8
    have u68 : Upd [m3.next + 12] m6 m8 := u7.trans u8
    have x7 := u7.next
    have x8 := u8.next
    have kp7 : ∀ {c : Nat} {x : ABlk}, c < m3.next → m6.get c = some x → m7.get c = some x := fun hc hx => (u7.same _ (by omega) (by simp; omega)).trans hx
    have kp8 : ∀ {c : Nat} {x : ABlk}, c < m3.next → m6.get c = some x → m8.get c = some x := fun hc hx => (u68.same _ (by omega) (by simp; omega)).trans hx
    have g7 := kp7 (by omega) g6
    have g8 := kp8 (by omega) g6
    have h8 := kp8 (by omega) h6
    have o8 := kp8 (by omega) o6
    have hd5 : ∀ b ∈ qe v5, b ∉ [m3.next + 12] := fun b hb hm => by simp at hm; have := r5 b hb; omega
    have hd6 : ∀ b ∈ qe v6, b ∉ [m3.next + 12] := fun b hb hm => by simp at hm; have := r6 b hb; omega
    have p8 : TAp zi 9 m8 v5 (n.keys.take i) := t56.upd u68 hd5
    have p8' : TAp zG 3 m8 v6 (n.kids.take (i + 1)) := t6.ap.upd u68 hd6
    have u08 : Upd [] m m8 := ((((u03.qD bub).qD u5).qD u6).then' u68 (fun b hb => .inr (by simp at hb; omega)))
    refine kz (fun r hr => ?_) ?_
    · simp only [List.mem_cons, List.not_mem_nil, or_false] at hr
      rcases hr with rfl | rfl | rfl | rfl
      · exact okR fun k _ hk' => by obtain rfl : k = 0 := by omega
                                    exact ⟨_, rfl, qG g4 rfl⟩
      · exact okR fun k _ hk' => by obtain rfl : k = 0 := by omega
                                    exact ⟨_, rfl, e5 _⟩
      · exact okR fun k _ hk' => by
          have : k = 0 ∨ k = 1 := by omega
          rcases this with rfl | rfl
          · exact ⟨_, rfl, qG g4 rfl⟩
          · exact ⟨_, rfl, qG g5 rfl⟩
      · exact okR fun k _ hk' => by
          have : k = 0 ∨ k = 1 := by omega
          rcases this with rfl | rfl <;> exact ⟨_, rfl, e6 _⟩
    have bu9 : Upd [] m8 (m8.zv 15) := Upd.zv _ _ _
    have n9 : (m8.zv 15).next = m8.next + 15 := rfl
    have g9 := qA bu9 (by omega) g8
    have h9 := qA bu9 (by omega) h8
    have o9 := qA bu9 (by omega) o8
    have q9 := qA bu9 (by omega) q8
    generalize m8.zv 15 = m9 at bu9 n9 g9 h9 o9 q9
    have u09 := u08.qD bu9
    have d2 := a2.qt u09
    have d3 := a3.qt u09
    obtain ⟨w3, e7, k3⟩ := d2.from (k := i + 1) (by omega)
    obtain ⟨w4, e8, k4⟩ := d3.from (k := i + 1) (by omega)
    rw [xm] at e7
    rw [jG] at e8
    simp -implicitDefEqProofs only [st0, qc, reduceIte, qG g9 (o := 0 + 2) rfl, qE (i := i) (by omega), e7 m9 (fun _ _ => rfl)]
    refine qo.2 ((JR k3 (by rw [List.length_drop]; omega)).mono fun v10 m10 ⟨t10, u10, r10⟩ => ?_)
    have x10 := u10.next
    have g10 := qA u10 (by omega) g9
    have h10 := qA u10 (by omega) h9
    have o10 := qA u10 (by omega) o9
    have q10 := qA u10 (by omega) q9
    have e8' := e8 m10 (fun b hb => u10.same b (d3.2 b hb).2 (by simp))
    simp -implicitDefEqProofs only [st0, qc, reduceIte, qG g10 (o := 0 + 3) rfl, qE (i := i) (by omega), e8']
    refine qo.2 ((JS (k4.qt u10) (by rw [List.length_drop]; omega)).mono fun v11 m11 ⟨t11, u11, r11⟩ => ?_)
    have x11 := u11.next
    have g11 := qA u11 (by omega) g10
    have h11 := qA u11 (by omega) h10
    have o11 := qA u11 (by omega) o10
    have q11 := qA u11 (by omega) q10
    have t1011 := t10.ap.qt u11
    simp -implicitDefEqProofs only [st0, qc, reduceIte, KX v10 v11 t10.ap.one.1 t11.ap.one.1]
    have u12 : Upd [m8.next + 13] m11 (m11.put (m8.next + 13) (qh false (.slice none 0 0) (.slice none 0 0) (.slice none 0 0))) := Upd.put _ _ (by simp)
    have q12 : (m11.put (m8.next + 13) (qh false (.slice none 0 0) (.slice none 0 0) (.slice none 0 0))).get (m8.next + 13) = _ := Mem.qj ..
    generalize (m11.put (m8.next + 13) (qh false (.slice none 0 0) (.slice none 0 0) (.slice none 0 0))) = m12 at u12 q12
    simp -implicitDefEqProofs only [st0, qc, reduceIte, qX q12 false (sp' := .slice none 0 0) (sk' := v10) (si' := v11) rfl t10.ap.one.2 t11.ap.one.2]
    have u13 : Upd [m8.next + 13] m12 (m12.put (m8.next + 13) (qh false (.slice none 0 0) v10 v11)) := Upd.put _ _ (by simp)
    have q13 : (m12.put (m8.next + 13) (qh false (.slice none 0 0) v10 v11)).get (m8.next + 13) = _ := Mem.qj ..
    generalize (m12.put (m8.next + 13) (qh false (.slice none 0 0) v10 v11)) = m13 at u13 q13
    have ub : Upd [m8.next + 13] m11 m13 := u12.trans u13
    have x12 := u12.next
    have x13 := u13.next
    have kp : ∀ {c : Nat} {x : ABlk}, c < m8.next → m11.get c = some x → m13.get c = some x := fun hc hx => (ub.same _ (by omega) (by simp; omega)).trans hx
    have g13 := kp (by omega) g11
    have h13 := kp (by omega) h11
    have o13 := kp (by omega) o11
    have p13 := kp (by omega) q11
    have hd10 : ∀ b ∈ qe v10, b ∉ [m8.next + 13] := fun b hb hm => by simp at hm; have := r10 b hb; omega
    have hd11 : ∀ b ∈ qe v11, b ∉ [m8.next + 13] := fun b hb hm => by simp at hm; have := r11 b hb; omega
    have z10 : TAp zi 9 m13 v10 (n.keys.drop (i + 1)) := t1011.upd ub hd10
    have z11 : TAp zG 3 m13 v11 (n.kids.drop (i + 1)) := t11.ap.upd ub hd11
    have u8' : Upd [m8.next + 13] m8 m13 := (((bu9.qD u10).qD u11).mono (fun b hb => by cases hb)).QD ub (fun b hb => .inl hb)
    have y5 : TAp zi 9 m13 v5 (n.keys.take i) := p8.upd u8' (fun b hb hm => by simp at hm; have := p8.lt b hb; omega)
    have y6 : TAp zG 3 m13 v6 (n.kids.take (i + 1)) := p8'.upd u8' (fun b hb hm => by simp at hm; have := p8'.lt b hb; omega)
    have u013 : Upd [] m m13 := ((u09.qD u10).qD u11).then' ub (fun b hb => .inr (by simp at hb; omega))
    refine kz (fun r hr => ?_) ?_
    · simp only [List.mem_cons, List.not_mem_nil, or_false] at hr
      rcases hr with rfl | rfl | rfl | rfl
      · exact okR fun k _ hk' => by obtain rfl : k = 0 := by omega
                                    exact ⟨_, rfl, qG g9 rfl⟩
      · exact okR fun k _ hk' => by obtain rfl : k = 0 := by omega
                                    exact ⟨_, rfl, e7 _ (fun _ _ => rfl)⟩
      · exact okR fun k _ hk' => by
          have : k = 0 ∨ k = 1 := by omega
          rcases this with rfl | rfl
          · exact ⟨_, rfl, qG g9 rfl⟩
          · exact ⟨_, rfl, qG g10 rfl⟩
      · exact okR fun k _ hk' => by
          have : k = 0 ∨ k = 1 := by omega
          rcases this with rfl | rfl
          · exact ⟨_, rfl, e8 _ (fun _ _ => rfl)⟩
          · exact ⟨_, rfl, e8'⟩
    have d13 := a2.qt u013
    obtain ⟨pt, f1, _, f2⟩ := d13.1.index .i64 (ja hlt)
    rw [xm] at f1
    have f2 := f2 (str n.keys[i]) rfl
    simp -implicitDefEqProofs only [st0, qc, reduceIte, qF p13, qF q13, qG g13 (o := 0 + 2) rfl, f1, f2, qX h13 false (sp' := .slice none 0 0) (sk' := v5) (si' := v6) rfl y5.one.2 y6.one.2]
    have u14 : Upd [m1.next] m13 (m13.put m1.next (qh false (.slice none 0 0) v5 v6)) := Upd.put _ _ (by simp)
    have h14 : (m13.put m1.next (qh false (.slice none 0 0) v5 v6)).get m1.next = _ := Mem.qj ..
    have o14 : (m13.put m1.next (qh false (.slice none 0 0) v5 v6)).get m2.next = _ := (Mem.qn m13 _ (by omega)).trans o13
    have p14 : (m13.put m1.next (qh false (.slice none 0 0) v5 v6)).get (m3.next + 12) = _ := (Mem.qn m13 _ (by omega)).trans p13
    have q14 : (m13.put m1.next (qh false (.slice none 0 0) v5 v6)).get (m8.next + 13) = _ := (Mem.qn m13 _ (by omega)).trans q13
    have g14 : (m13.put m1.next (qh false (.slice none 0 0) v5 v6)).get m.next = _ := (Mem.qn m13 _ (by omega)).trans g13
    generalize (m13.put m1.next (qh false (.slice none 0 0) v5 v6)) = m14 at u14 h14 o14 p14 q14 g14
    simp -implicitDefEqProofs only [st0, qc, reduceIte, qX o14 false (sp' := .slice none 0 0) (sk' := v10) (si' := v11) rfl z10.one.2 z11.one.2]
    have u15 : Upd [m2.next] m14 (m14.put m2.next (qh false (.slice none 0 0) v10 v11)) := Upd.put _ _ (by simp)
    have o15 : (m14.put m2.next (qh false (.slice none 0 0) v10 v11)).get m2.next = _ := Mem.qj ..
    have h15 : (m14.put m2.next (qh false (.slice none 0 0) v10 v11)).get m1.next = _ := (Mem.qn m14 _ (by omega)).trans h14
    have p15 : (m14.put m2.next (qh false (.slice none 0 0) v10 v11)).get (m3.next + 12) = _ := (Mem.qn m14 _ (by omega)).trans p14
    have q15 : (m14.put m2.next (qh false (.slice none 0 0) v10 v11)).get (m8.next + 13) = _ := (Mem.qn m14 _ (by omega)).trans q14
    have g15 : (m14.put m2.next (qh false (.slice none 0 0) v10 v11)).get m.next = _ := (Mem.qn m14 _ (by omega)).trans g14
    generalize (m14.put m2.next (qh false (.slice none 0 0) v10 v11)) = m15 at u15 h15 o15 p15 q15 g15
    have kx : ∀ {α : Type} {E : Enc α} {e : TypeId} {x : Value} {xs : List α}, TAp E e m13 x xs → (∀ b ∈ qe x, m3.next ≤ b) → TAp E e m15 x xs := fun ht hb => (ht.upd u14 (fun b hb' hm => by simp at hm; have := hb b hb'; omega)).upd u15 (fun b hb' hm => by simp at hm; have := hb b hb'; omega)
    have s5 : ∀ b ∈ qe v5, m3.next ≤ b := fun b hb => by have := r5 b hb; omega
    have s6 : ∀ b ∈ qe v6, m3.next ≤ b := fun b hb => by have := r6 b hb; omega
    have s10 : ∀ b ∈ qe v10, m3.next ≤ b := fun b hb => by have := r10 b hb; omega
    have s11 : ∀ b ∈ qe v11, m3.next ≤ b := fun b hb => by have := r11 b hb; omega
    have hxn : m.next ≤ m3.next := by omega
    have d14 := d13.zF u14 (fun b hb hm => by simp at hm; have := (a2.2 b hb).2; omega)
    have d15 := d14.zF u15 (fun b hb hm => by simp at hm; have := (a2.2 b hb).2; omega)
    simp -implicitDefEqProofs only [st0, qc, reduceIte, qF h15, qF o15]
    refine kz (fun r hr => ?_) (xI.2 ⟨⟨_, _, ?_, ⟨_, _, _, rfl, RSl.nil _ _ _, ((kx y5 s5).rsl s5).low hxn, ((kx y6 s6).rsl s6).low hxn⟩, ⟨_, _, _, rfl, RSl.nil _ _ _, ((kx z10 s10).rsl s10).low hxn, ((kx z11 s11).rsl s11).low hxn⟩⟩, ?_⟩)
    · simp only [List.mem_cons, List.not_mem_nil, or_false] at hr
      rcases hr with rfl | rfl | rfl | rfl
      · exact okR fun k _ hk' => by obtain rfl : k = 0 := by omega
                                    exact ⟨_, rfl, qF p13⟩
      · exact okR fun k _ hk' => by
          have : k = 0 ∨ k = 1 := by omega
          rcases this with rfl | rfl
          · exact ⟨_, rfl, qF q13⟩
          · exact ⟨_, rfl, qF q14⟩
      · exact okL (fun M hM => by
          simp only [List.mem_cons, List.not_mem_nil, or_false] at hM
          rcases hM with rfl | rfl | rfl
          · exact qG g13 rfl
          · exact qG g14 rfl
          · exact qG g15 rfl) (by simp)
      · refine okL (fun M hM => ?_) (by simp)
        have key : ∀ {M : Mem}, RSl lo zi M sk n.keys → qb pt M = some (str n.keys[i]) := fun hM => by
          obtain ⟨pt', y1, _, y2⟩ := hM.1.index .i64 (ja hlt)
          rw [xm, f1] at y1
          cases y1
          exact y2 (str n.keys[i]) rfl
        simp only [List.mem_cons, List.not_mem_nil, or_false] at hM
        rcases hM with rfl | rfl | rfl
        · exact key d13
        · exact key d14
        · exact key d15
    · rw [List.getElem?_eq_getElem hlt]; rfl
    · exact (u013.then' u14 (fun b hb => .inr (by simp at hb; omega))).then' u15 (fun b hb => .inr (by simp at hb; omega))
end Go.Fx.Tryz
