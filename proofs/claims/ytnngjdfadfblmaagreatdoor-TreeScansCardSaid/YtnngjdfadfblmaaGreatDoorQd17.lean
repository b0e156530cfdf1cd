/- Parts of a proof: TreeH, TreeI, TreeJ. Conditions: none. -/
import Derived.Test.YtnngjdfadfblmaaGreatDoorQd16
set_option linter.unusedSimpArgs false
set_option linter.unusedVariables false
namespace Go.Fx.Tryz
open Go Go.Fx
theorem Upd.zw (fp:List Nat) (m:Mem) (n:Nat):Upd fp m (m.zw n):=⟨by simp,fun b _ _=>rfl⟩
def qV (a b:Nd) (key:Bs):Nd:=if a.leaf then Nd.lf (a.pairs++b.pairs) else Nd.nd (a.keys++([key]++b.keys)) (a.kids++b.kids)
theorem qF {m:Mem} {b:Nat} {lf:Bool} {sp sk si:Value} (g:m.get b=some (qh lf sp sk si)):qm 4 (.pointer (some ⟨b,0,none⟩)) m=some (jQ lf sp sk si):=zO g rfl
theorem qG {m:Mem} {b:Nat} {lf:Bool} {sp sk si:Value} (g:m.get b=some (qh lf sp sk si)):∀ {o:Nat} {x:Value},[Value.bool lf,sp,sk,si][o]? = some x→qb (.pointer (some ⟨b,o,none⟩)) m=some x:=fun hx=>qu g hx
theorem qdx (x:Value) (hx:x.cells=#[x]):qz [.bool false,.slice none 0 0,.slice none 0 0,.slice none 0 0] [(0,1,.bool true),(1,1,x)]=some [.bool true,x,.slice none 0 0,.slice none 0 0]:=by
 simp only [qz,hx]; rfl
theorem Vn (x y:Value) (hx:x.cells=#[x]) (hy:y.cells=#[y]):qz [.bool false,.slice none 0 0,.slice none 0 0,.slice none 0 0] [(2,1,x),(3,1,y)]=some [.bool false,.slice none 0 0,x,y]:=by
 simp only [qz,hx,hy]; rfl
theorem _root_.Go.Fx.RSl.one {lo:Nat} {α:Type} {E:Enc α} {m:Mem} {v:Value} {l:List α} (h:RSl lo E m v l):v.cells=#[v]∧v.oneCell'=true:=by
 rcases yy h.1 with ⟨rfl,_⟩|⟨b,off,cap,rfl⟩<;>exact ⟨rfl,rfl⟩
theorem qgH (x y:Value) (hx:x.cells=#[x]) (hy:y.cells=#[y]):qz [.slice none 0 0,.slice none 0 0] [(0,1,x),(1,1,y)]=some [x,y]:=by
 simp only [qz,hx,hy]; rfl
theorem qja (x y z:Value) (hx:x.cells=#[x]) (hy:y.cells=#[y]) (hz:z.cells=#[z]):qz [.slice none 0 0,.slice none 0 0,.slice none 0 0] [(0,1,x),(1,1,y),(2,1,z)]=some [x,y,z]:=by
 simp only [qz,hx,hy,hz]; rfl
theorem qcU {lo:Nat} {va vb:Value} {a b:Nd} {m:Mem} (key:Bs) (ha:TN lo m va a) (hb:TN lo m vb b) (hfa:a.Fit) (hfb:b.Fit) (hlo:lo≤m.next) :
  W (Call S tab 160 [va,vb,str key] m) fun r m'=>TN m.next m' r (qV a b key)∧Upd [] m m':=by
 obtain ⟨sp,sk,si,rfl,a1,a2,a3⟩:=ha.ex
 obtain ⟨tp,tk,ti,rfl,b1,b2,b3⟩:=hb.ex
 rw [qjR]
 simp -implicitDefEqProofs only [st0,qc,reduceIte,qR]
 have u1:Upd [] m (m.add (qh a.leaf sp sk si)):=Upd.add _ _ _
 have g1:(m.add (qh a.leaf sp sk si)).get m.next=some (qh a.leaf sp sk si):=Mem.qk ..
 have n1:(m.add (qh a.leaf sp sk si)).next=m.next+1:=rfl
 generalize (m.add (qh a.leaf sp sk si))=m1 at u1 g1 n1
 have u2:Upd [] m1 (m1.add (qh b.leaf tp tk ti)):=Upd.add _ _ _
 have h2:(m1.add (qh b.leaf tp tk ti)).get m1.next=some (qh b.leaf tp tk ti):=Mem.qk ..
 have n2:(m1.add (qh b.leaf tp tk ti)).next=m1.next+1:=rfl
 have g2:=qx u2 (by omega) g1
 generalize (m1.add (qh b.leaf tp tk ti))=m2 at u2 h2 n2 g2
 have u3:Upd [] m2 (m2.add (qh false (.slice none 0 0) (.slice none 0 0) (.slice none 0 0))):=Upd.add _ _ _
 have o3:(m2.add (qh false (.slice none 0 0) (.slice none 0 0) (.slice none 0 0))).get m2.next=some (qh false (.slice none 0 0) (.slice none 0 0) (.slice none 0 0)):=Mem.qk ..
 have n3:(m2.add (qh false (.slice none 0 0) (.slice none 0 0) (.slice none 0 0))).next=m2.next+1:=rfl
 have g3:=qx u3 (by omega) g2
 have h3:=qx u3 (by omega) h2
 generalize (m2.add (qh false (.slice none 0 0) (.slice none 0 0) (.slice none 0 0)))=m3 at u3 o3 n3 g3 h3
 have u03:Upd [] m m3:=(u1.qE u2).qE u3
 unfold qV
 cases hl:a.leaf with
 | true =>
  rw [hl] at g3
  simp -implicitDefEqProofs only [st0,qc,reduceIte,fa,qG g3 (o:=0+0) rfl,qG g3 (o:=0+1) rfl,qG h3 (o:=0+1) rfl,qgH sp tp a1.one.1 b1.one.1]
  have g4:(m3.add ⟨.cells [sp,tp] 32,false,none⟩).get m3.next=some ⟨.cells [sp,tp] 32,false,none⟩:=Mem.qk ..
  have u4:Upd [] m3 (m3.add ⟨.cells [sp,tp] 32,false,none⟩):=Upd.add _ _ _
  have n4:(m3.add ⟨.cells [sp,tp] 32,false,none⟩).next=m3.next+1:=rfl
  have o4:=qx u4 (by omega) o3
  generalize (m3.add ⟨.cells [sp,tp] 32,false,none⟩)=m4 at g4 u4 n4 o4
  have u04:=u03.qE u4
  have hc:=Hs (lo:=lo) (vb:=m3.next) (by omega) [(sp,a.pairs),(tp,b.pairs)] (by simp) g4 (fun s hs=>by
   simp only [List.mem_cons,List.not_mem_nil,or_false] at hs
   rcases hs with rfl|rfl
   ·exact ⟨a1.qt u04,hfa.pl⟩
   ·exact ⟨b1.qt u04,hfb.pl⟩)
  simp only [List.length_cons,List.length_nil,Nat.zero_add,Nat.reduceAdd] at hc
  refine qn.2 (hc.mono fun v5 m5 ⟨t5,b5,u5⟩=>?_)
  have o5:=qx u5 (by omega) o4
  have x5:=u5.next
  simp -implicitDefEqProofs only [st0,qc,reduceIte,qdx v5 t5.one.1,qY o5 true (sp':=v5) (sk':=.slice none 0 0) (si':=.slice none 0 0) t5.one.2 rfl rfl,qF (Mem.qj m5 m2.next _)]
  have hput:Upd [m2.next] m5 (m5.put m2.next (qh true v5 (.slice none 0 0) (.slice none 0 0))):=Upd.put _ _ (by simp)
  have e5:([(sp,a.pairs),(tp,b.pairs)].map (·.2)).flatten=a.pairs++b.pairs:=by simp
  rw [e5] at t5
  exact ⟨⟨_,_,_,rfl,((t5.rsl b5).upd hput (fun b hb=>by simp at hb; omega)).low (by omega),RSl.nil _ _ _,RSl.nil _ _ _⟩,(u04.qE u5).jP _ (.inr (by omega))⟩
 | false =>
  rw [hl] at g3
  have eK:qz [.string ⟨#[]⟩] [(0,1,str key)]=some (zk.flat [key]):=by kernel_rfl
  have ubu:Upd [] m3 (m3.zw 16):=Upd.zw _ _ _
  have nbu:(m3.zw 16).next=m3.next+16:=rfl
  have gbu:=qx ubu (by omega) g3
  have hbu:=qx ubu (by omega) h3
  have obu:=qx ubu (by omega) o3
  simp -implicitDefEqProofs only [st0,qc,reduceIte,fa,qG g3 (o:=0+0) rfl,qG gbu (o:=0+2) rfl,eK]
  generalize hm4:m3.zw 16=m4 at ubu nbu gbu hbu obu
  have k5:(m4.add ⟨.cells (zk.flat [key]) 9,false,none⟩).get m4.next=some ⟨.cells (zk.flat [key]) 9,false,none⟩:=Mem.qk ..
  have u5:Upd [] m4 (m4.add ⟨.cells (zk.flat [key]) 9,false,none⟩):=Upd.add _ _ _
  have n5:(m4.add ⟨.cells (zk.flat [key]) 9,false,none⟩).next=m4.next+1:=rfl
  have tk5:TAp zk 9 (m4.add ⟨.cells (zk.flat [key]) 9,false,none⟩) (.slice (some ⟨m4.next,0,none⟩) [key].length [key].length) [key]:=TAp.fresh m4 [key]
  generalize (m4.add ⟨.cells (zk.flat [key]) 9,false,none⟩)=m5 at k5 u5 n5 tk5
  have g5:=qx u5 (by omega) gbu
  have h5:=qx u5 (by omega) hbu
  have o5:=qx u5 (by omega) obu
  have u05:Upd [] m m5:=(u03.qE ubu).qE u5
  simp -implicitDefEqProofs only [st0,qc,reduceIte,fa,qG h5 (o:=0+2) rfl,qja sk (.slice (some ⟨m4.next,0,none⟩) 1 1) tk a2.one.1 rfl b2.one.1]
  have u6:Upd [] m5 (m5.add ⟨.cells [sk,.slice (some ⟨m4.next,0,none⟩) 1 1,tk] 68,false,none⟩):=Upd.add _ _ _
  have q6:(m5.add ⟨.cells [sk,.slice (some ⟨m4.next,0,none⟩) 1 1,tk] 68,false,none⟩).get m5.next=some ⟨.cells [sk,.slice (some ⟨m4.next,0,none⟩) 1 1,tk] 68,false,none⟩:=Mem.qk ..
  have n6:(m5.add ⟨.cells [sk,.slice (some ⟨m4.next,0,none⟩) 1 1,tk] 68,false,none⟩).next=m5.next+1:=rfl
  generalize (m5.add ⟨.cells [sk,.slice (some ⟨m4.next,0,none⟩) 1 1,tk] 68,false,none⟩)=m6 at u6 q6 n6
  have g6:=qx u6 (by omega) g5
  have h6:=qx u6 (by omega) h5
  have o6:=qx u6 (by omega) o5
  have u06:Upd [] m m6:=u05.qE u6
  have hc:=Hr (lo:=lo) (vb:=m5.next) (by omega) [(sk,a.keys),(.slice (some ⟨m4.next,0,none⟩) 1 1,[key]),(tk,b.keys)] (by simp) q6 (fun s hs=>by
   simp only [List.mem_cons,List.not_mem_nil,or_false] at hs
   rcases hs with rfl|rfl|rfl
   ·exact ⟨a2.qt u06,hfa.kl⟩
   ·exact ⟨(tk5.rsl (fun b hb=>by simp [qg] at hb; omega)).qt u6,by simp⟩
   ·exact ⟨b2.qt u06,hfb.kl⟩)
  simp only [List.length_cons,List.length_nil,Nat.zero_add,Nat.reduceAdd] at hc
  refine qn.2 (hc.mono fun v7 m7 ⟨t7,b7,u7⟩=>?_)
  have x7:=u7.next
  have g7:=qx u7 (by omega) g6
  have h7:=qx u7 (by omega) h6
  have o7:=qx u7 (by omega) o6
  simp -implicitDefEqProofs only [st0,qc,reduceIte,fa,qG g7 (o:=0+3) rfl,qG h7 (o:=0+3) rfl,qgH si ti a3.one.1 b3.one.1]
  have u8:Upd [m3.next+12] m7 (m7.put (m3.next+12) ⟨.cells [si,ti] 69,false,none⟩):=Upd.put _ _ (by simp)
  have q8:(m7.put (m3.next+12) ⟨.cells [si,ti] 69,false,none⟩).get (m3.next+12)=some ⟨.cells [si,ti] 69,false,none⟩:=Mem.qj ..
  have n8:(m7.put (m3.next+12) ⟨.cells [si,ti] 69,false,none⟩).next=m7.next:=rfl
  generalize (m7.put (m3.next+12) ⟨.cells [si,ti] 69,false,none⟩)=m8 at u8 q8 n8
  have kp8:∀ {c:Nat} {x:ABlk},c<m3.next→m7.get c=some x→m8.get c=some x:=fun hc hx=>(u8.same _ (by omega) (by simp; omega)).trans hx
  have g8:=kp8 (by omega) g7
  have h8:=kp8 (by omega) h7
  have o8:=kp8 (by omega) o7
  have u08:Upd [] m m8:=(u06.qE u7).then' u8 (fun b hb=>.inr (by simp at hb; omega))
  have hc:=Ht (lo:=lo) (vb:=m3.next+12) (by omega) [(si,a.kids),(ti,b.kids)] (by simp) q8 (fun s hs=>by
   simp only [List.mem_cons,List.not_mem_nil,or_false] at hs
   rcases hs with rfl|rfl
   ·exact ⟨a3.qt u08,hfa.il⟩
   ·exact ⟨b3.qt u08,hfb.il⟩)
  simp only [List.length_cons,List.length_nil,Nat.zero_add,Nat.reduceAdd] at hc
  refine qn.2 (hc.mono fun v9 m9 ⟨t9,b9,u9⟩=>?_)
  have x9:=u9.next
  have g9:=qx u9 (by omega) g8
  have h9:=qx u9 (by omega) h8
  have o9:=qx u9 (by omega) o8
  have t79:TAp zk 9 m9 v7 _:=(t7.upd u8 (fun b hb hm=>by have:=b7 b hb; simp at hm; omega)).qt u9
  simp -implicitDefEqProofs only [st0,qc,reduceIte,Vn v7 v9 t7.one.1 t9.one.1,qY o9 false (sp':=.slice none 0 0) (sk':=v7) (si':=v9) rfl t7.one.2 t9.one.2,qF (Mem.qj m9 m2.next _)]
  have hput:Upd [m2.next] m9 (m9.put m2.next (qh false (.slice none 0 0) v7 v9)):=Upd.put _ _ (by simp)
  have e7:([(sk,a.keys),(.slice (some ⟨m4.next,0,none⟩) 1 1,[key]),(tk,b.keys)].map (·.2)).flatten=a.keys++([key]++b.keys):=by simp
  have e9:([(si,a.kids),(ti,b.kids)].map (·.2)).flatten=a.kids++b.kids:=by simp
  rw [e7] at t79
  rw [e9] at t9
  have g10:(m9.put m2.next (qh false (.slice none 0 0) v7 v9)).get m.next=_:=(Mem.qo m9 _ (by omega)).trans g9
  have h10:(m9.put m2.next (qh false (.slice none 0 0) v7 v9)).get m1.next=_:=(Mem.qo m9 _ (by omega)).trans h9
  refine kh (fun r hr=>?_) (xx.2 ⟨⟨_,_,_,rfl,RSl.nil _ _ _,((t79.rsl b7).upd hput (fun b hb=>by simp at hb; omega)).low (by omega),((t9.rsl b9).upd hput (fun b hb=>by simp at hb; omega)).low (by omega)⟩,(u08.qE u9).jP _ (.inr (by omega))⟩)
  simp only [List.mem_cons,List.not_mem_nil,or_false] at hr
  have hG:∀ M∈[m4,m5,m6,m7,m8,m9,m9.put m2.next (qh false (.slice none 0 0) v7 v9)],M.get m.next=some (qh false sp sk si)∧M.get m1.next=some (qh b.leaf tp tk ti):=by
   intro M hM
   simp only [List.mem_cons,List.not_mem_nil,or_false] at hM
   rcases hM with rfl|rfl|rfl|rfl|rfl|rfl|rfl
   ·exact ⟨gbu,hbu⟩
   ·exact ⟨g5,h5⟩
   ·exact ⟨g6,h6⟩
   ·exact ⟨g7,h7⟩
   ·exact ⟨g8,h8⟩
   ·exact ⟨g9,h9⟩
   ·exact ⟨g10,h10⟩
  rcases hr with rfl|rfl|rfl|rfl
  ·exact okL (fun M hM=>qG (hG M hM).1 rfl) (by simp)
  ·exact okL (fun M hM=>qG (hG M hM).2 rfl) (by simp)
  ·exact okL (fun M hM=>qG (hG M hM).1 rfl) (by simp)
  ·exact okL (fun M hM=>qG (hG M hM).2 rfl) (by simp)
end Go.Fx.Tryz
namespace Go.Fx.Tryz
open Go Go.Fx
def xz (w:List Nat) (most all:Nat):Nat→Nat→Nat→Nat
 | 0,i,_=>i
 | d+1,i,part=>if i=0∨(i<most∧2 * part<all) then xz w most all d (i+1) (part+w.getD i 0) else i
def kL (w:List Nat) (most:Nat):Nat:=xz w most w.sum w.length 0 0
def zo (ks:List Bs):Nat:=kL (ks.map fun k=>3+k.length) (ks.length - 2)
def zr (ps:List Pr):Nat:=kL (ps.map qL) (ps.length - 1)
def qC (n:Nd):Nd × Nd × Bs :=
 if n.leaf then (Nd.lf (n.pairs.take (zr n.pairs)),Nd.lf (n.pairs.drop (zr n.pairs)),((n.pairs[zr n.pairs]?).map (·.1)).getD [])
 else (Nd.nd (n.keys.take (zo n.keys)) (n.kids.take (zo n.keys+1)),Nd.nd (n.keys.drop (zo n.keys+1)) (n.kids.drop (zo n.keys+1)),(n.keys[zo n.keys]?).getD [])
theorem JZ (w:List Nat) (most all:Nat):∀ (d i part:Nat),xz w most all d i part≤max i (max 1 most)
 | 0,i,part=>by unfold xz; omega
 | d+1,i,part=>by
  unfold xz
  split
  ·rename_i h
   have:=JZ w most all d (i+1) (part+w.getD i 0)
   omega
  ·omega
theorem Zd (w:List Nat) (most all:Nat):∀ (d i part:Nat),i≤xz w most all d i part
 | 0,i,part=>by unfold xz; omega
 | d+1,i,part=>by
  unfold xz
  split
  ·have:=Zd w most all d (i+1) (part+w.getD i 0); omega
  ·omega
theorem Qx {w:List Nat} {most:Nat} (h:w≠[]):1≤kL w most:=by
 unfold kL
 cases w with
 | nil=>exact absurd rfl h
 | cons a l =>
  simp only [List.length_cons]
  unfold xz
  rw [if_pos (.inl rfl)]
  exact Zd ..
theorem Qw {w:List Nat} {most:Nat} (h:1≤most):kL w most≤most:=by
 have:=JZ w most w.sum w.length 0 0
 unfold kL; omega
theorem km (w:List Nat) {i:Nat} (h:i<w.length):(w.take (i+1)).sum=(w.take i).sum+w[i]:=by
 rw [List.take_succ_eq_append_getElem h,List.sum_append]; simp
theorem Zn (w:List Nat) (i:Nat):(w.take i).sum≤w.sum:=by
 have:=congrArg List.sum (List.take_append_drop i w)
 rw [List.sum_append] at this
 omega
theorem qdm {lo:Nat} {ks:List Bs} {sk:Value} (hl:ks.length≤65536) (hk:∀ k∈ks,k.length≤65536) (x4 x5:Value) {Q:Value→Mem→Prop} {m:Mem} (h:RSl lo zk m sk ks) (hQ:W (HD sk (.int .i64 (((ks.map fun k=>3+k.length).sum:Nat):Int)) x4 x5 m) Q) (hs:(ks.map fun k=>3+k.length).sum≤65536 * 65539) :
  ∀ (d i:Nat),ks.length - i=d→i≤ks.length→W (VE sk (.int .i64 ((((ks.map fun k=>3+k.length).take i).sum:Nat):Int)) x4 x5 sk (.int .i64 (ks.length:Int)) (.int .i64 (i:Int)) m) Q:=by
 intro d
 induction d with
 | zero =>
  intro i hd hi
  obtain rfl:i=ks.length:=by omega
  rw [P202_0_eq]
  simp -implicitDefEqProofs only [st0,qc,reduceIte,Int.lt_irrefl]
  rw [List.take_of_length_le (by simp)]
  exact hQ
 | succ d ih =>
  intro i hd hi
  have hlt:i<ks.length:=by omega
  have e1:((i:Int)<(ks.length:Int))=True:=eq_true (by omega)
  obtain ⟨p,h1,_,h2⟩:=h.1.index .i64 (xS hlt)
  rw [xp] at h1
  have h2:=h2 (str ks[i]) rfl
  have hki:=hk _ (List.getElem_mem hlt)
  have e3:arith .add (.int .i64 3) (.int .i64 (ks[i].length:Int))=some (.int .i64 ((3+ks[i].length:Nat):Int)):=addN (i:=3) (by omega)
  have hsum:=Zn (ks.map fun k=>3+k.length) i
  have ih':=ih (i+1) (by omega) hlt
  rw [km _ (by simpa using hlt),List.getElem_map] at ih'
  rw [P202_0_eq]
  simp -implicitDefEqProofs only [st0,qc,reduceIte,e1,h1,h2,zz,e3,addN (i:=((ks.map fun k=>3+k.length).take i).sum) (j:=3+ks[i].length) (by omega),qD (i:=i) (by omega)]
  exact ih'
theorem qbL {lo:Nat} {ks:List Bs} {sk:Value} (hl:ks.length≤65536) (h3:3≤ks.length) (hk:∀ k∈ks,k.length≤65536) {m:Mem} (h:RSl lo zk m sk ks) (all:Nat) (hall:all≤65536 * 65539):∀ (d i part:Nat),ks.length - i=d→i≤ks.length→part≤i * 65539 →
  W (VD sk (.int .i64 (all:Int)) (.int .i64 (part:Int)) (.int .i64 (i:Int)) m) fun r m'=>r=.int .i64 ((xz (ks.map fun k=>3+k.length) (ks.length - 2) all d i part:Nat):Int)∧m'=m:=by
 intro d
 induction d with
 | zero =>
  intro i part hd hi hp
  obtain rfl:i=ks.length:=by omega
  have e0:((ks.length:Int)=0)=False:=eq_false (by omega)
  have e1:arith .sub (.int .i64 (ks.length:Int)) (.int .i64 2)=some (.int .i64 ((ks.length:Int) - 2)):=zP (by omega) (by omega)
  have e2:((ks.length:Int)<(ks.length:Int) - 2)=False:=eq_false (by omega)
  rw [P202_2_eq]
  simp -implicitDefEqProofs only [st0,qc,reduceIte,e0,qS h,e1,e2,xz]
  exact ⟨trivial,trivial⟩
 | succ d ih =>
  intro i part hd hi hp
  have hlt:i<ks.length:=by omega
  have hi6:i * 65539≤65536 * 65539:=Nat.mul_le_mul_right _ (by omega)
  obtain ⟨p,h1,_,h2⟩:=h.1.index .i64 (xS hlt)
  rw [xp] at h1
  have h2:=h2 (str ks[i]) rfl
  have hki:=hk _ (List.getElem_mem hlt)
  have e3:arith .add (.int .i64 3) (.int .i64 (ks[i].length:Int))=some (.int .i64 ((3+ks[i].length:Nat):Int)):=addN (i:=3) (by omega)
  have ih':=ih (i+1) (part+(3+ks[i].length)) (by omega) hlt (by rw [Nat.add_mul]; omega)
  have hgd:(ks.map fun k=>3+k.length).getD i 0=3+ks[i].length:=by
   rw [List.getD_eq_getElem?_getD,List.getElem?_eq_getElem (by simpa using hlt)]; simp
  unfold xz
  rw [hgd]
  rw [P202_2_eq]
  by_cases h0:i=0
  ·rw [if_pos (.inl h0)]
   have e0:((i:Int)=0)=True:=eq_true (by omega)
   simp -implicitDefEqProofs only [st0,qc,reduceIte,e0,h1,h2,zz,e3,addN (i:=part) (j:=3+ks[i].length) (by omega),qD (i:=i) (by omega)]
   exact ih'
  ·have e0:((i:Int)=0)=False:=eq_false (by omega)
   have e1:arith .sub (.int .i64 (ks.length:Int)) (.int .i64 2)=some (.int .i64 ((ks.length:Int) - 2)):=zP (by omega) (by omega)
   have e4:arith .mul (.int .i64 2) (.int .i64 (part:Int))=some (.int .i64 ((2 * part:Nat):Int)):=by rw [qdR,wrap64 (by omega) (by omega)]; simp
   by_cases h4:i<ks.length - 2
   ·have e5:((i:Int)<(ks.length:Int) - 2)=True:=eq_true (by omega)
    by_cases h5:2 * part<all
    ·have e6:(((2 * part:Nat):Int)<(all:Int))=True:=eq_true (by omega)
     rw [if_pos (.inr ⟨h4,h5⟩)]
     simp -implicitDefEqProofs only [st0,qc,reduceIte,e0,qS h,e1,e4,e5,e6,h1,h2,zz,e3,addN (i:=part) (j:=3+ks[i].length) (by omega),qD (i:=i) (by omega)]
     exact ih'
    ·have e6:(((2 * part:Nat):Int)<(all:Int))=False:=eq_false (by omega)
     rw [if_neg (by omega)]
     simp -implicitDefEqProofs only [st0,qc,reduceIte,e0,qS h,e1,e4,e5,e6]
     exact ⟨trivial,trivial⟩
   ·have e5:((i:Int)<(ks.length:Int) - 2)=False:=eq_false (by omega)
    rw [if_neg (by omega)]
    simp -implicitDefEqProofs only [st0,qc,reduceIte,e0,qS h,e1,e5]
    exact ⟨trivial,trivial⟩
theorem kO {α:Type} (f:α→Nat) (c:Nat):∀ l:List α,(∀ a∈l,f a≤c)→(l.map f).sum≤l.length * c
 | [],_=>by simp
 | a::l,h=>by
  have:=kO f c l (fun s hs=>h s (by simp [hs]))
  have:=h a (by simp)
  rw [List.map_cons,List.sum_cons,List.length_cons,Nat.add_mul]; omega
theorem qeZ {lo:Nat} {ks:List Bs} {sk:Value} {m:Mem} (hl:ks.length≤65536) (h3:3≤ks.length) (hk:∀ k∈ks,k.length≤65536) (h:RSl lo zk m sk ks):Call S tab 202 [sk] m=some (.int .i64 ((zo ks:Nat):Int),m):=by
 refine W_eq ?_
 have hs:(ks.map fun k=>3+k.length).sum≤65536 * 65539:=Nat.le_trans (kO _ 65539 ks (fun k hk'=>by have:=hk k hk'; omega)) (Nat.mul_le_mul_right _ hl)
 rw [qjI]
 simp -implicitDefEqProofs only [st0,qc,reduceIte,qS h]
 refine qdm hl hk _ _ h ?_ hs _ 0 rfl (by omega)
 rw [P202_1_eq]
 have:=qbL hl h3 hk h _ hs _ 0 0 rfl (by omega) (by omega)
 simpa [zo,kL] using this
theorem qda {lo:Nat} {l:List Pr} {sp:Value} (hl:l.length≤65536) (hk:∀ p∈l,p.1.length≤65536∧p.2.length≤65536) (x2 x3 x6 x7:Value) {Q:Value→Mem→Prop} {m0:Mem} (hQ:∀ m,Upd [] m0 m→W (HF sp x2 x3 (.int .i64 (((l.map qL).sum:Nat):Int)) x6 x7 m) Q) (hs:(l.map qL).sum≤65536 * 131074) :
  ∀ (d i:Nat) (m:Mem),l.length - i=d→i≤l.length→RSl lo qI m sp l→Upd [] m0 m→W (VF sp x2 x3 (.int .i64 ((((l.map qL).take i).sum:Nat):Int)) x6 x7 sp (.int .i64 (l.length:Int)) (.int .i64 (i:Int)) m) Q:=by
 intro d
 induction d with
 | zero =>
  intro i m hd hi h hu
  obtain rfl:i=l.length:=by omega
  rw [P201_0_eq]
  simp -implicitDefEqProofs only [st0,qc,reduceIte,Int.lt_irrefl]
  rw [List.take_of_length_le (by simp)]
  exact hQ m hu
 | succ d ih =>
  intro i m hd hi h hu
  have hlt:i<l.length:=by omega
  have e1:((i:Int)<(l.length:Int))=True:=eq_true (by omega)
  obtain ⟨b,off,h1,h2⟩:=h.1.at .i64 (xS hlt)
  rw [qU] at h1 h2
  have h2:=h2 m h.1
  have hp:=hk _ (List.getElem_mem hlt)
  have hsum:=Zn (l.map qL) i
  have hw:qL l[i]≤131074:=by unfold qL; omega
  rw [P201_0_eq]
  simp -implicitDefEqProofs only [st0,qc,reduceIte,e1,h1,h2.1]
  refine xQ (c:=qI.cells l[i]) rfl rfl rfl fun m1 g1 u1 n1=>?_
  have lw:qm 2 (.pointer (some ⟨m.next,0,none⟩)) m1=some (qab l[i]):=zO g1 rfl
  simp -implicitDefEqProofs only [st0,qc,reduceIte,lw]
  refine qn.2 ((Xd l[i] m1 hp.1 hp.2).mono fun v2 m2 ⟨r2,u2⟩=>?_)
  subst r2
  have ih':=ih (i+1) m2 (by omega) hlt ((h.qt u1).qt u2) ((hu.qE u1).qE u2)
  rw [km _ (by simpa using hlt),List.getElem_map] at ih'
  simp -implicitDefEqProofs only [st0,qc,reduceIte,addN (i:=((l.map qL).take i).sum) (j:=qL l[i]) (by omega),qD (i:=i) (by omega)]
  exact ih'
theorem qbF {lo:Nat} {l:List Pr} {sp:Value} (hl:l.length≤65536) (h2l:2≤l.length) (hk:∀ p∈l,p.1.length≤65536∧p.2.length≤65536) (x2 x3:Value) {Q:Value→Mem→Prop} {m0:Mem} (all:Nat) (hall:all≤65536 * 131074) (r:Nat)
  (hQ:∀ m,Upd [] m0 m→W (HE sp x2 x3 (.int .i64 (r:Int)) m) Q):∀ (d i part:Nat) (m:Mem),l.length - i=d→i≤l.length→part≤i * 131074→RSl lo qI m sp l→Upd [] m0 m→xz (l.map qL) (l.length - 1) all d i part=r →
  W (Jn sp x2 x3 (.int .i64 (all:Int)) (.int .i64 (part:Int)) (.int .i64 (i:Int)) m) Q:=by
 intro d
 induction d with
 | zero =>
  intro i part m hd hi hp h hu hr
  obtain rfl:i=l.length:=by omega
  have e0:((l.length:Int)=0)=False:=eq_false (by omega)
  have e1:arith .sub (.int .i64 (l.length:Int)) (.int .i64 1)=some (.int .i64 ((l.length:Int) - 1)):=zP (by omega) (by omega)
  have e2:((l.length:Int)<(l.length:Int) - 1)=False:=eq_false (by omega)
  unfold xz at hr
  subst hr
  rw [P201_2_eq]
  simp -implicitDefEqProofs only [st0,qc,reduceIte,e0,qS h,e1,e2]
  exact hQ m hu
 | succ d ih =>
  intro i part m hd hi hp h hu hr
  have hlt:i<l.length:=by omega
  have hi6:i * 131074≤65536 * 131074:=Nat.mul_le_mul_right _ (by omega)
  obtain ⟨b,off,h1,h2⟩:=h.1.at .i64 (xS hlt)
  rw [qU] at h1 h2
  have h2:=h2 m h.1
  have hpi:=hk _ (List.getElem_mem hlt)
  have hw:qL l[i]≤131074:=by unfold qL; omega
  have hgd:(l.map qL).getD i 0=qL l[i]:=by
   rw [List.getD_eq_getElem?_getD,List.getElem?_eq_getElem (by simpa using hlt)]; simp
  unfold xz at hr
  rw [hgd] at hr
  have step:xz (l.map qL) (l.length - 1) all d (i+1) (part+qL l[i])=r→W ((Call S tab 113 [qab l[i]] m).bind fun p22=>(arith .add (.int .i64 (part:Int)) p22.1).bind fun v23=>(arith .add (.int .i64 (i:Int)) (.int .i64 1)).bind fun v24=>Jn sp x2 x3 (.int .i64 (all:Int)) v23 v24 p22.2) Q:=by
   intro hr'
   refine qn.2 ((Xd l[i] m hpi.1 hpi.2).mono fun v2 m2 ⟨r2,u2⟩=>?_)
   subst r2
   simp -implicitDefEqProofs only [st0,qc,reduceIte,addN (i:=part) (j:=qL l[i]) (by omega),qD (i:=i) (by omega)]
   exact ih (i+1) _ m2 (by omega) hlt (by rw [Nat.add_mul]; omega) (h.qt u2) (hu.qE u2) hr'
  rw [P201_2_eq]
  by_cases h0:i=0
  ·rw [if_pos (.inl h0)] at hr
   have e0:((i:Int)=0)=True:=eq_true (by omega)
   simp -implicitDefEqProofs only [st0,qc,reduceIte,e0,h1,h2.1]
   exact step hr
  ·have e0:((i:Int)=0)=False:=eq_false (by omega)
   have e1:arith .sub (.int .i64 (l.length:Int)) (.int .i64 1)=some (.int .i64 ((l.length:Int) - 1)):=zP (by omega) (by omega)
   have e4:arith .mul (.int .i64 2) (.int .i64 (part:Int))=some (.int .i64 ((2 * part:Nat):Int)):=by rw [qdR,wrap64 (by omega) (by omega)]; simp
   by_cases h4:i<l.length - 1
   ·have e5:((i:Int)<(l.length:Int) - 1)=True:=eq_true (by omega)
    by_cases h5:2 * part<all
    ·have e6:(((2 * part:Nat):Int)<(all:Int))=True:=eq_true (by omega)
     rw [if_pos (.inr ⟨h4,h5⟩)] at hr
     simp -implicitDefEqProofs only [st0,qc,reduceIte,e0,qS h,e1,e4,e5,e6,h1,h2.1]
     exact step hr
    ·have e6:(((2 * part:Nat):Int)<(all:Int))=False:=eq_false (by omega)
     rw [if_neg (by omega)] at hr
     subst hr
     simp -implicitDefEqProofs only [st0,qc,reduceIte,e0,qS h,e1,e4,e5,e6]
     exact hQ m hu
   ·have e5:((i:Int)<(l.length:Int) - 1)=False:=eq_false (by omega)
    rw [if_neg (by omega)] at hr
    subst hr
    simp -implicitDefEqProofs only [st0,qc,reduceIte,e0,qS h,e1,e5]
    exact hQ m hu
theorem KA {lo:Nat} {l:List Pr} {sp:Value} {m:Mem} (hl:l.length≤65536) (h2l:2≤l.length) (hk:∀ p∈l,p.1.length≤65536∧p.2.length≤65536) (h:RSl lo qI m sp l) :
  W (Call S tab 201 [sp] m) fun r m'=>(∃ va vb,r=.tuple #[va,vb,str (((l[zr l]?).map (·.1)).getD [])]∧TN m.next m' va (Nd.lf (l.take (zr l)))∧TN m.next m' vb (Nd.lf (l.drop (zr l))))∧Upd [] m m':=by
 have hs:(l.map qL).sum≤65536 * 131074:=Nat.le_trans (kO _ 131074 l (fun p hp=>by have:=hk p hp; unfold qL; omega)) (Nat.mul_le_mul_right _ hl)
 have hh1:1≤zr l:=Qx (by cases l with|nil=>simp at h2l|cons a r=>simp)
 have hh2:zr l≤l.length - 1:=Qw (by omega)
 have hlt:zr l<l.length:=by omega
 rw [qjJ]
 simp -implicitDefEqProofs only [st0,qc,reduceIte,qS h]
 have u1:Upd [] m (m.add (qh false (.slice none 0 0) (.slice none 0 0) (.slice none 0 0))):=Upd.add _ _ _
 have g1:(m.add (qh false (.slice none 0 0) (.slice none 0 0) (.slice none 0 0))).get m.next=some (qh false (.slice none 0 0) (.slice none 0 0) (.slice none 0 0)):=Mem.qk ..
 have n1:(m.add (qh false (.slice none 0 0) (.slice none 0 0) (.slice none 0 0))).next=m.next+1:=rfl
 generalize (m.add (qh false (.slice none 0 0) (.slice none 0 0) (.slice none 0 0)))=m1 at u1 g1 n1
 have u2:Upd [] m1 (m1.add (qh false (.slice none 0 0) (.slice none 0 0) (.slice none 0 0))):=Upd.add _ _ _
 have h2:(m1.add (qh false (.slice none 0 0) (.slice none 0 0) (.slice none 0 0))).get m1.next=some (qh false (.slice none 0 0) (.slice none 0 0) (.slice none 0 0)):=Mem.qk ..
 have n2:(m1.add (qh false (.slice none 0 0) (.slice none 0 0) (.slice none 0 0))).next=m1.next+1:=rfl
 have g2:=qx u2 (by omega) g1
 generalize (m1.add (qh false (.slice none 0 0) (.slice none 0 0) (.slice none 0 0)))=m2 at u2 h2 n2 g2
 have u02:=u1.qE u2
 refine qda (m0:=m2) hl hk _ _ _ _ (fun m3 u3=>?_) hs _ 0 m2 rfl (by omega) (h.qt u02) (Upd.refl _ _)
 rw [P201_1_eq]
 refine qbF (m0:=m2) hl h2l hk _ _ _ hs (zr l) (fun m4 u4=>?_) _ 0 0 m3 rfl (by omega) (by omega) ((h.qt u02).qt u3) u3 (by simp [zr,kL])
 have g4:=qx u4 (by omega) g2
 have h4:=qx u4 (by omega) h2
 have k4:=(h.qt u02).qt u4
 have x4:=u4.next
 have u04:=u02.qE u4
 obtain ⟨va,ea,ka⟩:=k4.qcw (k:=zr l) (by omega)
 obtain ⟨vb,eb,kb⟩:=k4.from (k:=zr l) (by omega)
 rw [qU] at ea eb
 rw [P201_3_eq]
 simp -implicitDefEqProofs only [st0,qc,reduceIte,ea]
 refine qn.2 ((Zg ka (by rw [List.length_take]; omega)).mono fun v5 m5 ⟨t5,u5,b5⟩=>?_)
 have k5:=k4.qt u5
 have eb5:=eb m5 (fun b hb=>u5.same b (k4.2 b hb).2 (by simp))
 simp -implicitDefEqProofs only [st0,qc,reduceIte,qdx v5 t5.ap.one.1,eb5]
 refine qn.2 ((Zg (kb.qt u5) (by rw [List.length_drop]; omega)).mono fun v6 m6 ⟨t6,u6,b6⟩=>?_)
 have k6:=k5.qt u6
 obtain ⟨b,off,q1,q2⟩:=k6.1.at .i64 (xS hlt)
 rw [qU] at q1
 have qv:∀ {M:Mem},RSl lo qI M sp l→qb (.pointer (some ⟨b,off+0,none⟩)) M=some (str l[zr l].1):=fun hM=>(q2 _ hM.1).2 0 (str l[zr l].1) rfl
 have x5:=u5.next
 have x6:=u6.next
 have g6:=qx u6 (by omega) (qx u5 (by omega) g4)
 have h6:=qx u6 (by omega) (qx u5 (by omega) h4)
 simp -implicitDefEqProofs only [st0,qc,reduceIte,qdx v6 t6.ap.one.1,q1,fa,qv k6,qY g6 true (sp':=v5) (sk':=.slice none 0 0) (si':=.slice none 0 0) t5.ap.one.2 rfl rfl]
 have g7:(m6.put m.next (qh true v5 (.slice none 0 0) (.slice none 0 0))).get m.next=_:=Mem.qj ..
 have h7:(m6.put m.next (qh true v5 (.slice none 0 0) (.slice none 0 0))).get m1.next=_:=(Mem.qo m6 _ (by omega)).trans h6
 have u7:Upd [m.next] m6 (m6.put m.next (qh true v5 (.slice none 0 0) (.slice none 0 0))):=Upd.put _ _ (by simp)
 generalize (m6.put m.next (qh true v5 (.slice none 0 0) (.slice none 0 0)))=m7 at g7 h7 u7
 simp -implicitDefEqProofs only [st0,qc,reduceIte,qY h7 true (sp':=v6) (sk':=.slice none 0 0) (si':=.slice none 0 0) t6.ap.one.2 rfl rfl]
 have h8:(m7.put m1.next (qh true v6 (.slice none 0 0) (.slice none 0 0))).get m1.next=_:=Mem.qj ..
 have g8:(m7.put m1.next (qh true v6 (.slice none 0 0) (.slice none 0 0))).get m.next=_:=(Mem.qo m7 _ (by omega)).trans g7
 have u8:Upd [m1.next] m7 (m7.put m1.next (qh true v6 (.slice none 0 0) (.slice none 0 0))):=Upd.put _ _ (by simp)
 generalize (m7.put m1.next (qh true v6 (.slice none 0 0) (.slice none 0 0)))=m8 at g8 h8 u8
 have x7:=u7.next
 have x8:=u8.next
 have hnk:∀ {c:Nat},m.next≤c→c<m4.next→∀ b∈qg sp,b≠c:=fun hc1 hc2 b hb=>by have:=(h.2 b hb).2; omega
 have k7:=k6.zE u7 (fun b hb hm=>by simp at hm; have:=(h.2 b hb).2; omega)
 have k8:=k7.zE u8 (fun b hb hm=>by simp at hm; have:=(h.2 b hb).2; omega)
 have ta:TAp qI 61 m8 v5 (l.take (zr l)):=((t5.ap.qt u6).upd u7 (fun b hb hm=>by simp at hm; have:=b5 b hb; omega)).upd u8 (fun b hb hm=>by simp at hm; have:=b5 b hb; omega)
 have tb:TAp qI 61 m8 v6 (l.drop (zr l)):=(t6.ap.upd u7 (fun b hb hm=>by simp at hm; have:=b6 b hb; omega)).upd u8 (fun b hb hm=>by simp at hm; have:=b6 b hb; omega)
 simp -implicitDefEqProofs only [st0,qc,reduceIte,qF g8,qF h8]
 refine kh (fun r hr=>?_) (xx.2 ⟨⟨_,_,?_,⟨_,_,_,rfl,ta.rsl (fun b hb=>by have:=b5 b hb; omega),RSl.nil _ _ _,RSl.nil _ _ _⟩,⟨_,_,_,rfl,tb.rsl (fun b hb=>by have:=b6 b hb; omega),RSl.nil _ _ _,RSl.nil _ _ _⟩⟩,?_⟩)
 ·simp only [List.mem_cons,List.not_mem_nil,or_false] at hr
  rcases hr with rfl|rfl|rfl
  ·exact okR fun k _ hk'=>by
    obtain rfl:k=0:=by omega
    exact ⟨_,rfl,ea _⟩
  ·exact okR fun k _ hk'=>by
    have:k=0∨k=1:=by omega
    rcases this with rfl|rfl
    ·exact ⟨_,rfl,eb _ (fun _ _=>rfl)⟩
    ·exact ⟨_,rfl,eb5⟩
  ·exact okL (fun M hM=>by
    simp only [List.mem_cons,List.not_mem_nil,or_false] at hM
    rcases hM with rfl|rfl|rfl|rfl|rfl
    ·exact qv k4
    ·exact qv k5
    ·exact qv k6
    ·exact qv k7
    ·exact qv k8) (by simp)
 ·rw [List.getElem?_eq_getElem hlt]; rfl
 ·exact (((u04.qE u5).qE u6).then' u7 (fun b hb=>.inr (by simp at hb; omega))).then' u8 (fun b hb=>.inr (by simp at hb; omega))
end Go.Fx.Tryz
namespace Go.Fx.Tryz
open Go Go.Fx
theorem ex3 (a b c:Value):qd 0 (.tuple #[a,b,c])=some a∧qd 1 (.tuple #[a,b,c])=some b∧qd 2 (.tuple #[a,b,c])=some c:=⟨rfl,rfl,rfl⟩
theorem JR {lo : Nat} {v : Value} {n : Nd} {m : Mem} (h : TN lo m v n) (hf : n.Fit) (hn : if n.leaf then 2 ≤ n.pairs.length else 3 ≤ n.keys.length ∧ n.kids.length = n.keys.length + 1) :
    W (Call S tab 156 [v] m) fun r m' => (∃ va vb, r = .tuple #[va, vb, str (qC n).2.2] ∧ TN m.next m' va (qC n).1 ∧ TN m.next m' vb (qC n).2.1) ∧ Upd [] m m' := by
  obtain ⟨sp, sk, si, rfl, a1, a2, a3⟩ := h.ex
  rw [qjV]
  simp -implicitDefEqProofs only [st0, qc, reduceIte, qR]
  have u1 : Upd [] m (m.add (qh n.leaf sp sk si)) := Upd.add _ _ _
  have g1 : (m.add (qh n.leaf sp sk si)).get m.next = some (qh n.leaf sp sk si) := Mem.qk ..
  have n1 : (m.add (qh n.leaf sp sk si)).next = m.next + 1 := rfl
  generalize (m.add (qh n.leaf sp sk si)) = m1 at u1 g1 n1
  have u2 : Upd [] m1 (m1.add (qh false (.slice none 0 0) (.slice none 0 0) (.slice none 0 0))) := Upd.add _ _ _
  have h2 : (m1.add (qh false (.slice none 0 0) (.slice none 0 0) (.slice none 0 0))).get m1.next = some (qh false (.slice none 0 0) (.slice none 0 0) (.slice none 0 0)) := Mem.qk ..
  have n2 : (m1.add (qh false (.slice none 0 0) (.slice none 0 0) (.slice none 0 0))).next = m1.next + 1 := rfl
  have g2 := qx u2 (by omega) g1
  generalize (m1.add (qh false (.slice none 0 0) (.slice none 0 0) (.slice none 0 0))) = m2 at u2 h2 n2 g2
  have u3 : Upd [] m2 (m2.add (qh false (.slice none 0 0) (.slice none 0 0) (.slice none 0 0))) := Upd.add _ _ _
  have o3 : (m2.add (qh false (.slice none 0 0) (.slice none 0 0) (.slice none 0 0))).get m2.next = some (qh false (.slice none 0 0) (.slice none 0 0) (.slice none 0 0)) := Mem.qk ..
  have n3 : (m2.add (qh false (.slice none 0 0) (.slice none 0 0) (.slice none 0 0))).next = m2.next + 1 := rfl
  have g3 := qx u3 (by omega) g2
  have h3 := qx u3 (by omega) h2
  generalize (m2.add (qh false (.slice none 0 0) (.slice none 0 0) (.slice none 0 0))) = m3 at u3 o3 n3 g3 h3
  have u03 : Upd [] m m3 := (u1.qE u2).qE u3
  unfold qC
  cases hl : n.leaf with
  | true =>
    rw [hl, if_pos rfl] at hn
    rw [hl] at g3
    have e1 : ((n.pairs.length : Int) > 1) = True := eq_true (by omega)
    simp -implicitDefEqProofs only [st0, qc, reduceIte, fa, qG g3 (o := 0 + 0) rfl, qG g3 (o := 0 + 1) rfl, qS a1]
    have e2 : decide ((1 : Int) < (n.pairs.length : Int)) = true := by simp; omega
    simp -implicitDefEqProofs only [st0, qc, reduceIte, e2]
    refine qn.2 ((KA hf.pl hn hf.ps (a1.qt u03)).mono fun v4 m4 ⟨⟨va, vb, r4, ta, tb⟩, u4⟩ => ?_)
    subst r4
    obtain ⟨pa, ka, ia, rfl, qa1, qa2, qa3⟩ := ta.ex
    obtain ⟨pb, kb, ib, rfl, qb1, qb2, qb3⟩ := tb.ex
    have h4 := qx u4 (by omega) h3
    have o4 := qx u4 (by omega) o3
    have x4 := u4.next
    simp -implicitDefEqProofs only [st0, qc, reduceIte, (ex3 _ _ _).1, (ex3 _ _ _).2.1, (ex3 _ _ _).2.2, qY h4 _ qa1.one.2 qa2.one.2 qa3.one.2]
    have u5 : Upd [m1.next] m4 (m4.put m1.next (qh (Nd.lf (n.pairs.take (zr n.pairs))).leaf pa ka ia)) := Upd.put _ _ (by simp)
    have h5 : (m4.put m1.next (qh (Nd.lf (n.pairs.take (zr n.pairs))).leaf pa ka ia)).get m1.next = _ := Mem.qj ..
    have o5 : (m4.put m1.next (qh (Nd.lf (n.pairs.take (zr n.pairs))).leaf pa ka ia)).get m2.next = _ := (Mem.qo m4 _ (by omega)).trans o4
    generalize (m4.put m1.next (qh (Nd.lf (n.pairs.take (zr n.pairs))).leaf pa ka ia)) = m5 at u5 h5 o5
    simp -implicitDefEqProofs only [st0, qc, reduceIte, qY o5 _ qb1.one.2 qb2.one.2 qb3.one.2]
    have u6 : Upd [m2.next] m5 (m5.put m2.next (qh (Nd.lf (n.pairs.drop (zr n.pairs))).leaf pb kb ib)) := Upd.put _ _ (by simp)
    have o6 : (m5.put m2.next (qh (Nd.lf (n.pairs.drop (zr n.pairs))).leaf pb kb ib)).get m2.next = _ := Mem.qj ..
    have h6 : (m5.put m2.next (qh (Nd.lf (n.pairs.drop (zr n.pairs))).leaf pb kb ib)).get m1.next = _ := (Mem.qo m5 _ (by omega)).trans h5
    generalize (m5.put m2.next (qh (Nd.lf (n.pairs.drop (zr n.pairs))).leaf pb kb ib)) = m6 at u6 h6 o6
    simp -implicitDefEqProofs only [st0, qc, reduceIte, qF h6, qF o6]
    have hk : ∀ b ∈ [m1.next], b < m3.next := fun b hb => by simp at hb; omega
    have hk2 : ∀ b ∈ [m2.next], b < m3.next := fun b hb => by simp at hb; omega
    refine ⟨⟨_, _, rfl, ?_, ?_⟩, ((u03.qE u4).then' u5 (fun b hb => .inr (by simp at hb; omega))).then' u6 (fun b hb => .inr (by simp at hb; omega))⟩
    · exact ((ta.upd u5 hk).upd u6 hk2).low (by omega)
    · exact ((tb.upd u5 hk).upd u6 hk2).low (by omega)
  | false =>
    rw [hl, if_neg (by simp)] at hn
    rw [hl] at g3
    obtain ⟨hk3, hkl⟩ := hn
    have hh1 : 1 ≤ zo n.keys := Qx (by cases hx : n.keys with | nil => rw [hx] at hk3; simp at hk3 | cons a r => simp)
    have hh2 : zo n.keys ≤ n.keys.length - 2 := Qw (by omega)
    have hlt : zo n.keys < n.keys.length := by omega
    have hkk := hf.kl
    have e2 : decide ((2 : Int) < (n.keys.length : Int)) = true := by simp; omega
    have e3 : ((n.kids.length : Int) = ((n.keys.length + 1 : Nat) : Int)) = True := eq_true (by omega)
    have b2 := a2.qt u03
    have b3 := a3.qt u03
    simp -implicitDefEqProofs only [st0, qc, reduceIte, fa, qG g3 (o := 0 + 0) rfl, qG g3 (o := 0 + 2) rfl, qG g3 (o := 0 + 3) rfl, qS a2, qS a3, e2, qD (i := n.keys.length) (by omega), e3, qeZ hf.kl hk3 hf.ks b2]
    generalize hI : zo n.keys = i at hh1 hh2 hlt
    have bub : Upd [] m3 (m3.zw 14) := Upd.zw _ _ _
    have nbu : (m3.zw 14).next = m3.next + 14 := rfl
    have g4 := qx bub (by omega) g3
    have h4 := qx bub (by omega) h3
    have o4 := qx bub (by omega) o3
    generalize m3.zw 14 = m4 at bub nbu g4 h4 o4
    have c2 := b2.qt bub
    have c3 := b3.qt bub
    obtain ⟨w1, e5, k1⟩ := c2.qcw (k := i) (by omega)
    obtain ⟨w2, e6, k2⟩ := c3.qcw (k := i + 1) (by omega)
    rw [xp] at e5
    rw [jK] at e6
    simp -implicitDefEqProofs only [st0, qc, reduceIte, qG g4 (o := 0 + 2) rfl, e5]
    refine qn.2 ((Kg k1 (by rw [List.length_take]; omega)).mono fun v5 m5 ⟨t5, u5, r5⟩ => ?_)
    have x5 := u5.next
    have g5 := qx u5 (by omega) g4
    have h5 := qx u5 (by omega) h4
    have o5 := qx u5 (by omega) o4
    simp -implicitDefEqProofs only [st0, qc, reduceIte, qG g5 (o := 0 + 3) rfl, qD (i := i) (by omega), e6]
    refine qn.2 ((Kh (k2.qt u5) (by rw [List.length_take]; omega)).mono fun v6 m6 ⟨t6, u6, r6⟩ => ?_)
    have x6 := u6.next
    have g6 := qx u6 (by omega) g5
    have h6 := qx u6 (by omega) h5
    have o6 := qx u6 (by omega) o5
    have t56 := t5.ap.qt u6
    simp -implicitDefEqProofs only [st0, qc, reduceIte, Vn v5 v6 t5.ap.one.1 t6.ap.one.1]
    have u7 : Upd [m3.next + 12] m6 (m6.put (m3.next + 12) (qh false (.slice none 0 0) (.slice none 0 0) (.slice none 0 0))) := Upd.put _ _ (by simp)
    have q7 : (m6.put (m3.next + 12) (qh false (.slice none 0 0) (.slice none 0 0) (.slice none 0 0))).get (m3.next + 12) = _ := Mem.qj ..
    generalize (m6.put (m3.next + 12) (qh false (.slice none 0 0) (.slice none 0 0) (.slice none 0 0))) = m7 at u7 q7
    simp -implicitDefEqProofs only [st0, qc, reduceIte, qY q7 false (sp' := .slice none 0 0) (sk' := v5) (si' := v6) rfl t5.ap.one.2 t6.ap.one.2]
    have u8 : Upd [m3.next + 12] m7 (m7.put (m3.next + 12) (qh false (.slice none 0 0) v5 v6)) := Upd.put _ _ (by simp)
    have q8 : (m7.put (m3.next + 12) (qh false (.slice none 0 0) v5 v6)).get (m3.next + 12) = _ := Mem.qj ..
    generalize (m7.put (m3.next + 12) (qh false (.slice none 0 0) v5 v6)) = m8 at u8 q8
    have u68 : Upd [m3.next + 12] m6 m8 := u7.trans u8
    have x7 := u7.next
    have x8 := u8.next
    have kp7 : ∀ {c : Nat} {x : ABlk}, c < m3.next → m6.get c = some x → m7.get c = some x := fun hc hx => (u7.same _ (by omega) (by simp; omega)).trans hx
    have kp8 : ∀ {c : Nat} {x : ABlk}, c < m3.next → m6.get c = some x → m8.get c = some x := fun hc hx => (u68.same _ (by omega) (by simp; omega)).trans hx
    have g7 := kp7 (by omega) g6
    have g8 := kp8 (by omega) g6
    have h8 := kp8 (by omega) h6
    have o8 := kp8 (by omega) o6
    have hd5 : ∀ b ∈ qg v5, b ∉ [m3.next + 12] := fun b hb hm => by simp at hm; have := r5 b hb; omega
    have hd6 : ∀ b ∈ qg v6, b ∉ [m3.next + 12] := fun b hb hm => by simp at hm; have := r6 b hb; omega
    have p8 : TAp zk 9 m8 v5 (n.keys.take i) := t56.upd u68 hd5
    have p8' : TAp zI 3 m8 v6 (n.kids.take (i + 1)) := t6.ap.upd u68 hd6
    have u08 : Upd [] m m8 := ((((u03.qE bub).qE u5).qE u6).then' u68 (fun b hb => .inr (by simp at hb; omega)))
    refine kh (fun r hr => ?_) ?_
    · simp only [List.mem_cons, List.not_mem_nil, or_false] at hr
      rcases hr with rfl | rfl | rfl | rfl
      · exact okR fun k _ hk' => by obtain rfl : k = 0 := by omega
                                    exact ⟨_, rfl, qG g4 rfl⟩
      · exact okR fun k _ hk' => by obtain rfl : k = 0 := by omega
                                    exact ⟨_, rfl, e5 _⟩
      · exact okR fun k _ hk' => by
          have : k = 0 ∨ k = 1 := by omega
          rcases this with rfl | rfl
          · exact ⟨_, rfl, qG g4 rfl⟩
          · exact ⟨_, rfl, qG g5 rfl⟩
      · exact okR fun k _ hk' => by
          have : k = 0 ∨ k = 1 := by omega
          rcases this with rfl | rfl <;> exact ⟨_, rfl, e6 _⟩
    have bu9 : Upd [] m8 (m8.zw 15) := Upd.zw _ _ _
    have n9 : (m8.zw 15).next = m8.next + 15 := rfl
    have g9 := qx bu9 (by omega) g8
    have h9 := qx bu9 (by omega) h8
    have o9 := qx bu9 (by omega) o8
    have q9 := qx bu9 (by omega) q8
    generalize m8.zw 15 = m9 at bu9 n9 g9 h9 o9 q9
    have u09 := u08.qE bu9
    have d2 := a2.qt u09
    have d3 := a3.qt u09
    obtain ⟨w3, e7, k3⟩ := d2.from (k := i + 1) (by omega)
    obtain ⟨w4, e8, k4⟩ := d3.from (k := i + 1) (by omega)
    rw [xp] at e7
    rw [jK] at e8
    simp -implicitDefEqProofs only [st0, qc, reduceIte, qG g9 (o := 0 + 2) rfl, qD (i := i) (by omega), e7 m9 (fun _ _ => rfl)]
    refine qn.2 ((Kg k3 (by rw [List.length_drop]; omega)).mono fun v10 m10 ⟨t10, u10, r10⟩ => ?_)
    have x10 := u10.next
    have g10 := qx u10 (by omega) g9
    have h10 := qx u10 (by omega) h9
    have o10 := qx u10 (by omega) o9
    have q10 := qx u10 (by omega) q9
    have e8' := e8 m10 (fun b hb => u10.same b (d3.2 b hb).2 (by simp))
    simp -implicitDefEqProofs only [st0, qc, reduceIte, qG g10 (o := 0 + 3) rfl, qD (i := i) (by omega), e8']
    refine qn.2 ((Kh (k4.qt u10) (by rw [List.length_drop]; omega)).mono fun v11 m11 ⟨t11, u11, r11⟩ => ?_)
    have x11 := u11.next
    have g11 := qx u11 (by omega) g10
    have h11 := qx u11 (by omega) h10
    have o11 := qx u11 (by omega) o10
    have q11 := qx u11 (by omega) q10
    have t1011 := t10.ap.qt u11
    simp -implicitDefEqProofs only [st0, qc, reduceIte, Vn v10 v11 t10.ap.one.1 t11.ap.one.1]
    have u12 : Upd [m8.next + 13] m11 (m11.put (m8.next + 13) (qh false (.slice none 0 0) (.slice none 0 0) (.slice none 0 0))) := Upd.put _ _ (by simp)
    have q12 : (m11.put (m8.next + 13) (qh false (.slice none 0 0) (.slice none 0 0) (.slice none 0 0))).get (m8.next + 13) = _ := Mem.qj ..
    generalize (m11.put (m8.next + 13) (qh false (.slice none 0 0) (.slice none 0 0) (.slice none 0 0))) = m12 at u12 q12
    simp -implicitDefEqProofs only [st0, qc, reduceIte, qY q12 false (sp' := .slice none 0 0) (sk' := v10) (si' := v11) rfl t10.ap.one.2 t11.ap.one.2]
    have u13 : Upd [m8.next + 13] m12 (m12.put (m8.next + 13) (qh false (.slice none 0 0) v10 v11)) := Upd.put _ _ (by simp)
    have q13 : (m12.put (m8.next + 13) (qh false (.slice none 0 0) v10 v11)).get (m8.next + 13) = _ := Mem.qj ..
    generalize (m12.put (m8.next + 13) (qh false (.slice none 0 0) v10 v11)) = m13 at u13 q13
    have ub : Upd [m8.next + 13] m11 m13 := u12.trans u13
    have x12 := u12.next
    have x13 := u13.next
    have kp : ∀ {c : Nat} {x : ABlk}, c < m8.next → m11.get c = some x → m13.get c = some x := fun hc hx => (ub.same _ (by omega) (by simp; omega)).trans hx
    have g13 := kp (by omega) g11
    have h13 := kp (by omega) h11
    have o13 := kp (by omega) o11
    have p13 := kp (by omega) q11
    have hd10 : ∀ b ∈ qg v10, b ∉ [m8.next + 13] := fun b hb hm => by simp at hm; have := r10 b hb; omega
    have hd11 : ∀ b ∈ qg v11, b ∉ [m8.next + 13] := fun b hb hm => by simp at hm; have := r11 b hb; omega
    have z10 : TAp zk 9 m13 v10 (n.keys.drop (i + 1)) := t1011.upd ub hd10
    have z11 : TAp zI 3 m13 v11 (n.kids.drop (i + 1)) := t11.ap.upd ub hd11
    have u8' : Upd [m8.next + 13] m8 m13 := (((bu9.qE u10).qE u11).mono (fun b hb => by cases hb)).QO ub (fun b hb => .inl hb)
    have y5 : TAp zk 9 m13 v5 (n.keys.take i) := p8.upd u8' (fun b hb hm => by simp at hm; have := p8.lt b hb; omega)
    have y6 : TAp zI 3 m13 v6 (n.kids.take (i + 1)) := p8'.upd u8' (fun b hb hm => by simp at hm; have := p8'.lt b hb; omega)
    have u013 : Upd [] m m13 := ((u09.qE u10).qE u11).then' ub (fun b hb => .inr (by simp at hb; omega))
    refine kh (fun r hr => ?_) ?_
    · simp only [List.mem_cons, List.not_mem_nil, or_false] at hr
      rcases hr with rfl | rfl | rfl | rfl
      · exact okR fun k _ hk' => by obtain rfl : k = 0 := by omega
                                    exact ⟨_, rfl, qG g9 rfl⟩
      · exact okR fun k _ hk' => by obtain rfl : k = 0 := by omega
                                    exact ⟨_, rfl, e7 _ (fun _ _ => rfl)⟩
      · exact okR fun k _ hk' => by
          have : k = 0 ∨ k = 1 := by omega
          rcases this with rfl | rfl
          · exact ⟨_, rfl, qG g9 rfl⟩
          · exact ⟨_, rfl, qG g10 rfl⟩
      · exact okR fun k _ hk' => by
          have : k = 0 ∨ k = 1 := by omega
          rcases this with rfl | rfl
          · exact ⟨_, rfl, e8 _ (fun _ _ => rfl)⟩
          · exact ⟨_, rfl, e8'⟩
    have d13 := a2.qt u013
    obtain ⟨pt, f1, _, f2⟩ := d13.1.index .i64 (xS hlt)
    rw [xp] at f1
    have f2 := f2 (str n.keys[i]) rfl
    simp -implicitDefEqProofs only [st0, qc, reduceIte, qF p13, qF q13, qG g13 (o := 0 + 2) rfl, f1, f2, qY h13 false (sp' := .slice none 0 0) (sk' := v5) (si' := v6) rfl y5.one.2 y6.one.2]
    have u14 : Upd [m1.next] m13 (m13.put m1.next (qh false (.slice none 0 0) v5 v6)) := Upd.put _ _ (by simp)
    have h14 : (m13.put m1.next (qh false (.slice none 0 0) v5 v6)).get m1.next = _ := Mem.qj ..
    have o14 : (m13.put m1.next (qh false (.slice none 0 0) v5 v6)).get m2.next = _ := (Mem.qo m13 _ (by omega)).trans o13
    have p14 : (m13.put m1.next (qh false (.slice none 0 0) v5 v6)).get (m3.next + 12) = _ := (Mem.qo m13 _ (by omega)).trans p13
    have q14 : (m13.put m1.next (qh false (.slice none 0 0) v5 v6)).get (m8.next + 13) = _ := (Mem.qo m13 _ (by omega)).trans q13
    have g14 : (m13.put m1.next (qh false (.slice none 0 0) v5 v6)).get m.next = _ := (Mem.qo m13 _ (by omega)).trans g13
    generalize (m13.put m1.next (qh false (.slice none 0 0) v5 v6)) = m14 at u14 h14 o14 p14 q14 g14
    simp -implicitDefEqProofs only [st0, qc, reduceIte, qY o14 false (sp' := .slice none 0 0) (sk' := v10) (si' := v11) rfl z10.one.2 z11.one.2]
    have u15 : Upd [m2.next] m14 (m14.put m2.next (qh false (.slice none 0 0) v10 v11)) := Upd.put _ _ (by simp)
    have o15 : (m14.put m2.next (qh false (.slice none 0 0) v10 v11)).get m2.next = _ := Mem.qj ..
    have h15 : (m14.put m2.next (qh false (.slice none 0 0) v10 v11)).get m1.next = _ := (Mem.qo m14 _ (by omega)).trans h14
    have p15 : (m14.put m2.next (qh false (.slice none 0 0) v10 v11)).get (m3.next + 12) = _ := (Mem.qo m14 _ (by omega)).trans p14
    have q15 : (m14.put m2.next (qh false (.slice none 0 0) v10 v11)).get (m8.next + 13) = _ := (Mem.qo m14 _ (by omega)).trans q14
    have g15 : (m14.put m2.next (qh false (.slice none 0 0) v10 v11)).get m.next = _ := (Mem.qo m14 _ (by omega)).trans g14
    generalize (m14.put m2.next (qh false (.slice none 0 0) v10 v11)) = m15 at u15 h15 o15 p15 q15 g15
    have kx : ∀ {α : Type} {E : Enc α} {e : TypeId} {x : Value} {xs : List α}, TAp E e m13 x xs → (∀ b ∈ qg x, m3.next ≤ b) → TAp E e m15 x xs := fun ht hb => (ht.upd u14 (fun b hb' hm => by simp at hm; have := hb b hb'; omega)).upd u15 (fun b hb' hm => by simp at hm; have := hb b hb'; omega)
    have s5 : ∀ b ∈ qg v5, m3.next ≤ b := fun b hb => by have := r5 b hb; omega
    have s6 : ∀ b ∈ qg v6, m3.next ≤ b := fun b hb => by have := r6 b hb; omega
    have s10 : ∀ b ∈ qg v10, m3.next ≤ b := fun b hb => by have := r10 b hb; omega
    have s11 : ∀ b ∈ qg v11, m3.next ≤ b := fun b hb => by have := r11 b hb; omega
    have hxn : m.next ≤ m3.next := by omega
    have d14 := d13.zE u14 (fun b hb hm => by simp at hm; have := (a2.2 b hb).2; omega)
    have d15 := d14.zE u15 (fun b hb hm => by simp at hm; have := (a2.2 b hb).2; omega)
    simp -implicitDefEqProofs only [st0, qc, reduceIte, qF h15, qF o15]
    refine kh (fun r hr => ?_) (xx.2 ⟨⟨_, _, ?_, ⟨_, _, _, rfl, RSl.nil _ _ _, ((kx y5 s5).rsl s5).low hxn, ((kx y6 s6).rsl s6).low hxn⟩, ⟨_, _, _, rfl, RSl.nil _ _ _, ((kx z10 s10).rsl s10).low hxn, ((kx z11 s11).rsl s11).low hxn⟩⟩, ?_⟩)
    · simp only [List.mem_cons, List.not_mem_nil, or_false] at hr
      rcases hr with rfl | rfl | rfl | rfl
      · exact okR fun k _ hk' => by obtain rfl : k = 0 := by omega
                                    exact ⟨_, rfl, qF p13⟩
      · exact okR fun k _ hk' => by
          have : k = 0 ∨ k = 1 := by omega
          rcases this with rfl | rfl
          · exact ⟨_, rfl, qF q13⟩
          · exact ⟨_, rfl, qF q14⟩
      · exact okL (fun M hM => by
          simp only [List.mem_cons, List.not_mem_nil, or_false] at hM
          rcases hM with rfl | rfl | rfl
          · exact qG g13 rfl
          · exact qG g14 rfl
          · exact qG g15 rfl) (by simp)
      · refine okL (fun M hM => ?_) (by simp)
        have key : ∀ {M : Mem}, RSl lo zk M sk n.keys → qb pt M = some (str n.keys[i]) := fun hM => by
          obtain ⟨pt', y1, _, y2⟩ := hM.1.index .i64 (xS hlt)
          rw [xp, f1] at y1
          cases y1
          exact y2 (str n.keys[i]) rfl
        simp only [List.mem_cons, List.not_mem_nil, or_false] at hM
        rcases hM with rfl | rfl | rfl
        · exact key d13
        · exact key d14
        · exact key d15
    · rw [List.getElem?_eq_getElem hlt]; rfl
    · exact (u013.then' u14 (fun b hb => .inr (by simp at hb; omega))).then' u15 (fun b hb => .inr (by simp at hb; omega))
end Go.Fx.Tryz
