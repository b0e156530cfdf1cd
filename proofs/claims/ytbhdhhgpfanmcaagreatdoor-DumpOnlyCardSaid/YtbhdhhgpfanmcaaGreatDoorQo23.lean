/- Parts of a proof: DuI, DuJ, DuK, DuL. Conditions: none. -/
import Derived.Test.YtbhdhhgpfanmcaaGreatDoorQo22
set_option linter.unusedSimpArgs false
set_option linter.unusedVariables false
namespace Go.Fx.Tryz
open Go Go.Fx
theorem stp {m:Mem} {b o:Nat} {c:List Value} {e:TypeId} {lo:Option Nat} {v:Value} {k:Mem→O} {Q:Value→Mem→Prop} (g:m.get b=some ⟨.cells c e,false,lo⟩) (ho:o<c.length) (hv:v.cells=#[v]) (h1:v.oneCell'=true)
  (h:∀ m',Upd [b] m m'→m'.next=m.next→m'.get b=some ⟨.cells (c.set o v) e,false,lo⟩→W (k m') Q):W ((qg 1 (.pointer (some ⟨b,o,none⟩)) v m).bind k) Q:=by
 rw [zy g ho hv h1]
 exact h _ (Upd.put _ _ (by simp)) rfl (Mem.qi ..)
abbrev caB (p cm:Nat) (a b:Value) (sz ht ms:Nat):ABlk:=⟨.cells [.pointer (some ⟨p,0,none⟩),.int .i64 16,a,b,.int .i64 0,.string ⟨#[]⟩,.int .i64 (sz:Int),.map (some cm),.int .i64 (ht:Int),.int .i64 (ms:Int)] 184,false,none⟩
abbrev lkB (a b:Value):ABlk:=⟨.cells [a,b,.int .i64 0,str (qp 256)] 180,false,none⟩
abbrev hdP (c:Nat):Value:=.pointer (some ⟨c,0+2+0,none⟩)
abbrev en0 (lk:Nat):MapEntry:={ key:=.int .i64 0,val:=.pointer (some ⟨lk,0,none⟩),born:=0 }
theorem qjt (p cm:Nat):qy [.pointer none,.int .i64 0,.pointer none,.pointer none,.int .i64 0,.string ⟨#[]⟩,.int .i64 0,.map none,.int .i64 0,.int .i64 0] [(0,1,.pointer (some ⟨p,0,none⟩)),(1,1,.int .i64 16),(7,1,.map (some cm))] =
  some [.pointer (some ⟨p,0,none⟩),.int .i64 16,.pointer none,.pointer none,.int .i64 0,.string ⟨#[]⟩,.int .i64 0,.map (some cm),.int .i64 0,.int .i64 0]:=by kernel_rfl
theorem qfp (p:Nat) (m:Mem):W (Call S tab 53 [.pointer (some ⟨p,0,none⟩),.int .i64 16] m) fun r m'=>∃ c cm,r=.pointer (some ⟨c,0,none⟩)∧m'.get c=some (caB p cm (hdP c) (hdP c) 0 0 0)∧m'.get cm=some ⟨.map [] 0,false,none⟩∧c<m'.next∧cm<m'.next∧c≠cm∧m.next≤c∧m.next≤cm∧Upd [] m m':=by
 have e1:((0:Int) > 16)=False:=eq_false (by omega)
 have e2:((64:Int)<16)=False:=eq_false (by omega)
 rw [C53]
 simp -implicitDefEqProofs only [st0,qb,reduceIte,vd,e1,e2,zA,qjt,qR]
 have u1:Upd [] m (m.add ⟨.map [] 0,false,none⟩):=Upd.add _ _ _
 have g1:(m.add ⟨.map [] 0,false,none⟩).get m.next=some ⟨.map [] 0,false,none⟩:=Mem.qh ..
 have n1:(m.add ⟨.map [] 0,false,none⟩).next=m.next+1:=rfl
 generalize (m.add ⟨.map [] 0,false,none⟩)=m1 at u1 g1 n1
 have eb:(⟨.cells [.pointer (some ⟨p,0,none⟩),.int .i64 16,.pointer none,.pointer none,.int .i64 0,.string ⟨#[]⟩,.int .i64 0,.map (some m.next),.int .i64 0,.int .i64 0] 184,false,none⟩:ABlk)=caB p m.next (.pointer none) (.pointer none) 0 0 0:=rfl
 rw [eb]
 have u2:Upd [] m1 (m1.add (caB p m.next (.pointer none) (.pointer none) 0 0 0)):=Upd.add _ _ _
 have g2:(m1.add (caB p m.next (.pointer none) (.pointer none) 0 0 0)).get m1.next=some (caB p m.next (.pointer none) (.pointer none) 0 0 0):=Mem.qh ..
 have n2:(m1.add (caB p m.next (.pointer none) (.pointer none) 0 0 0)).next=m1.next+1:=rfl
 have k2:=qA u2 (by omega) g1
 generalize (m1.add (caB p m.next (.pointer none) (.pointer none) 0 0 0))=m2 at u2 g2 n2 k2
 simp -implicitDefEqProofs only [st0,qb,reduceIte,nck,fa]
 rw [qkQ]
 simp -implicitDefEqProofs only [st0,qb,reduceIte,nck,fa]
 refine qo.2 ?_
 refine stp g2 (by simp) rfl rfl fun m3 u3 n3 g3=>?_
 refine stp g3 (by simp) rfl rfl fun m4 u4 n4 g4=>?_
 have k4:=((u4.same m.next (by omega) (by simp; omega)).trans (u3.same m.next (by omega) (by simp; omega))).trans k2
 exact zs.2 (zs.2 ⟨m1.next,m.next,rfl,g4,k4,by show m1.next<m4.next; omega,by show m.next<m4.next; omega,by omega,by omega,by omega,(u1.qz u2).then' (u3.trans u4) fun b hb=>.inr (by simp at hb; omega)⟩)
theorem qcv {c cm p lk ht ms:Nat} {a b:Value} {m:Mem} (gc:m.get c=some (caB p cm (hdP c) (hdP c) 0 ht ms)) (gl:m.get lk=some (lkB a b)) (gm:m.get cm=some ⟨.map [] 0,false,none⟩∨m.get cm=some ⟨.map [en0 lk] 1,false,none⟩) (hlt:c<m.next∧cm<m.next∧lk<m.next) (hne:c≠cm∧c≠lk∧cm≠lk) :
  W (Call S tab 143 [.pointer (some ⟨c,0,none⟩),.pointer (some ⟨lk,0,none⟩)] m) fun r m'=>m'.get c=some (caB p cm (.pointer (some ⟨lk,0,none⟩)) (.pointer (some ⟨lk,0,none⟩)) 1 ht ms)∧m'.get lk=some (lkB (hdP c) (hdP c))∧m'.get cm=some ⟨.map [en0 lk] 1,false,none⟩∧Upd [c,cm,lk] m m':=by
 obtain ⟨l1,l2,l3⟩:=hlt
 obtain ⟨ne1,ne2,ne3⟩:=hne
 have e01:arith .add (.int .i64 0) (.int .i64 1)=some (.int .i64 1):=rfl
 rw [qkx]
 simp -implicitDefEqProofs only [st0,qb,reduceIte,nck,fa]
 rw [qkh]
 have h1:qc (.pointer (some ⟨c,0+2+0+1,none⟩)) m=some (hdP c):=qs gc rfl
 simp -implicitDefEqProofs only [st0,qb,reduceIte,nck,fa,h1]
 refine qo.2 ?_
 refine stp gl (by simp) rfl rfl fun m1 u1 n1 g1=>?_
 refine stp g1 (by simp) rfl rfl fun m2 u2 n2 g2=>?_
 have c2:=(((u1.trans u2).same c l1 (by simp; exact ne2)).trans gc)
 have h2:qc (.pointer (some ⟨lk,0+0,none⟩)) m2=some (hdP c):=qs g2 rfl
 have h3:qc (.pointer (some ⟨lk,0+1,none⟩)) m2=some (hdP c):=qs g2 rfl
 simp -implicitDefEqProofs only [st0,qb,reduceIte,nck,fa,h2,h3]
 refine stp c2 (by simp) rfl rfl fun m3 u3 n3 c3=>?_
 refine stp c3 (by simp) rfl rfl fun m4 u4 n4 c4=>?_
 have h4:qc (.pointer (some ⟨c,0+2+4,none⟩)) m4=some (.int .i64 0):=qs c4 rfl
 simp -implicitDefEqProofs only [st0,qb,reduceIte,nck,fa,h4,e01]
 refine stp c4 (by simp) rfl rfl fun m5 u5 n5 c5=>?_
 have u35:=(u3.trans u4).trans u5
 have g5:=(u35.same lk (by omega) (by simp; exact fun e=>ne2 e.symm)).trans g2
 have c5:m5.get c=some (caB p cm (.pointer (some ⟨lk,0,none⟩)) (.pointer (some ⟨lk,0,none⟩)) 1 ht ms):=c5
 have g5:m5.get lk=some (lkB (hdP c) (hdP c)):=g5
 have u05:Upd [c,cm,lk] m m5:=((u1.trans u2).mono fun b hb _=>by simp at hb; simp [hb]).trans (u35.mono fun b hb _=>by simp at hb; simp [hb])
 have km:m5.get cm=m.get cm:=((u35.same cm (by omega) (by simp; omega)).trans ((u1.trans u2).same cm l2 (by simp; exact ne3)))
 have hmu:zn .int (.map (some cm)) (.int .i64 0) (.pointer (some ⟨lk,0,none⟩)) m5=some (m5.put cm ⟨.map [en0 lk] 1,false,none⟩):=by
  rcases gm with gm|gm
  ·have:m5.jo cm=some ([],0,none):=by simp [Mem.jo,km,gm]
   simp only [zn,this,Option.bind_some,Qi,if_true]; rfl
  ·have:m5.jo cm=some ([en0 lk],1,none):=by simp [Mem.jo,km,gm]
   simp only [zn,this,Option.bind_some,Qi,if_true]; rfl
 have h5:qc (.pointer (some ⟨c,0+7,none⟩)) m5=some (.map (some cm)):=qs c5 rfl
 have h6:qc (.pointer (some ⟨lk,0+2+0,none⟩)) m5=some (.int .i64 0):=qs g5 rfl
 have c6:(m5.put cm ⟨.map [en0 lk] 1,false,none⟩).get c=_:=(Mem.qu m5 _ ne1).trans c5
 have h7:qc (.pointer (some ⟨c,0+2+4,none⟩)) (m5.put cm ⟨.map [en0 lk] 1,false,none⟩)=some (.int .i64 1):=qs c6 rfl
 have h8:qc (.pointer (some ⟨c,0+1,none⟩)) (m5.put cm ⟨.map [en0 lk] 1,false,none⟩)=some (.int .i64 16):=qs c6 rfl
 have e16:((16:Int)<1)=False:=eq_false (by omega)
 simp -implicitDefEqProofs only [st0,qb,reduceIte,nck,fa,h5,h6,hmu,h7,h8,e16]
 exact ⟨c6,(Mem.qu m5 _ (fun e=>ne3 e.symm)).trans g5,Mem.qi ..,u05.kr _ (.inl (by simp))⟩
structure Rd1 (c cm lk p ht:Nat) (m:Mem):Prop where
 gc:m.get c=some (caB p cm (.pointer (some ⟨lk,0,none⟩)) (.pointer (some ⟨lk,0,none⟩)) 1 ht 1)
 gl:m.get lk=some (lkB (hdP c) (hdP c))
 gm:m.get cm=some ⟨.map [en0 lk] 1,false,none⟩
 lt:c<m.next∧cm<m.next∧lk<m.next
 ne:c≠cm∧c≠lk∧cm≠lk
theorem Rd1.qx {c cm lk p ht:Nat} {m m':Mem} (h:Rd1 c cm lk p ht m) (u:Upd [] m m'):Rd1 c cm lk p ht m':=by
 have hx:=u.next
 obtain ⟨l1,l2,l3⟩:=h.lt
 exact ⟨qA u l1 h.gc,qA u l3 h.gl,qA u l2 h.gm,⟨by omega,by omega,by omega⟩,h.ne⟩
theorem qhz:qy [.int .i64 0,.string ⟨#[]⟩] [(0,1,.int .i64 0),(1,1,str (qp 256))]=some [.int .i64 0,str (qp 256)]:=by
 simp only [qy]; rfl
theorem qhy (s:Bs):qy [.pointer none,.pointer none,.int .i64 0,.string ⟨#[]⟩] [(2,2,.agg [.int .i64 0,str s].toArray)]=some [.pointer none,.pointer none,.int .i64 0,str s]:=by kernel_rfl
theorem qca {c cm p d n:Nat} {v:Value} {m:Mem} (gc:m.get c=some (caB p cm (hdP c) (hdP c) 0 0 0)) (gm:m.get cm=some ⟨.map [] 0,false,none⟩) (gp:m.get p=some (pgB d v)) (hv:TAp encS 9 m v (List.replicate n (qp 256))) (hn:1≤n) (hlt:c<m.next∧cm<m.next∧p<m.next) (hne:c≠cm∧c≠p∧cm≠p) :
  W (Call S tab 103 [.pointer (some ⟨c,0,none⟩),.int .i64 0] m) fun r m'=>r=.tuple #[str (qp 256),.int .i64 0]∧Upd [c,cm] m m'∧∃ lk,Rd1 c cm lk p 0 m'∧m.next≤lk:=by
 obtain ⟨lc,lm,lp⟩:=hlt
 obtain ⟨ne1,ne2,ne3⟩:=hne
 have hr:RSl 0 encS m v (List.replicate n (qp 256)):=hv.rsl fun b _=>Nat.zero_le _
 have hget:(List.replicate n (qp 256))[0]? = some (qp 256):=by rw [List.getElem?_replicate,if_pos (by omega)]
 obtain ⟨pk,y1,y2⟩:=qdr hr hget
 have y1:qq 1 v (.int .i64 0)=some pk:=y1
 have y2:=y2 m hr
 have hl:=zv hr
 rw [List.length_replicate] at hl
 have e1:((n:Int)≤0)=False:=eq_false (by omega)
 have lpg:qc (.pointer (some ⟨p,0+1,none⟩)) m=some v:=qs gp rfl
 have hread:Call S tab 144 [.pointer (some ⟨p,0,none⟩),.int .i64 0] m=some (.tuple #[str (qp 256),.int .i64 0],m):=by
  refine W_eq ?_
  have e0:((0:Int)<0)=False:=eq_false (by omega)
  rw [qkw]
  simp -implicitDefEqProofs only [st0,qb,reduceIte,vd,e0,nck,fa,lpg,hl,e1,y1,y2]
  exact ⟨trivial,trivial⟩
 have d0:decide ((0:Int)=0)=true:=rfl
 have l0:qc (.pointer (some ⟨c,0+0,none⟩)) m=some (.pointer (some ⟨p,0,none⟩)):=qs gc rfl
 have l7:qc (.pointer (some ⟨c,0+7,none⟩)) m=some (.map (some cm)):=qs gc rfl
 have l9:qc (.pointer (some ⟨c,0+9,none⟩)) m=some (.int .i64 0):=qs gc rfl
 have lk:zb .int (.pointer none) true (.map (some cm)) (.int .i64 0) m=some (.tuple #[.pointer none,.bool false]):=by
  have:m.zY cm=some ([],0):=by simp [Mem.zY,gm]
  simp only [zb,this,Option.bind_some]; rfl
 have e01:arith .add (.int .i64 0) (.int .i64 1)=some (.int .i64 1):=rfl
 rw [qjJ]
 simp -implicitDefEqProofs only [st0,qb,reduceIte,vd,nck,fa,l7,lk,xt0,xt1,l0,hread,d0,l9,e01]
 refine stp gc (by simp) rfl rfl fun m1 u1 n1 g1=>?_
 have k1:=(u1.same cm lm (by simp; exact fun e=>ne1 e.symm)).trans gm
 simp -implicitDefEqProofs only [st0,qb,reduceIte,qhz,qhy,qR]
 have u2:Upd [] m1 (m1.add (lkB (.pointer none) (.pointer none))):=Upd.add _ _ _
 have j2:(m1.add (lkB (.pointer none) (.pointer none))).get m1.next=some (lkB (.pointer none) (.pointer none)):=Mem.qh ..
 have n2:(m1.add (lkB (.pointer none) (.pointer none))).next=m1.next+1:=rfl
 have g2:=qA u2 (by omega) g1
 have k2:=qA u2 (by omega) k1
 generalize (m1.add (lkB (.pointer none) (.pointer none)))=m2 at u2 j2 n2 g2 k2
 have g2:m2.get c=some (caB p cm (hdP c) (hdP c) 0 0 1):=g2
 refine qo.2 ((qcv g2 j2 (.inl k2) ⟨by omega,by omega,by omega⟩ ⟨ne1,by omega,by omega⟩).mono fun r3 m3 ⟨q1,q2,q3,u3⟩=>?_)
 have x3:=u3.next
 exact zs.2 ⟨rfl,((u1.mono fun b hb _=>by simp at hb; simp [hb]).qz u2).then' u3 fun b hb=>by
   simp only [List.mem_cons,List.not_mem_nil,or_false] at hb
   rcases hb with h|h|h
   ·left; simp [h]
   ·left; simp [h]
   ·right; omega,m1.next,⟨q1,q2,q3,⟨by show c<m3.next; omega,by show cm<m3.next; omega,by show m1.next<m3.next; omega⟩,⟨ne1,by omega,by omega⟩⟩,by omega⟩
theorem qbZ {c cm lk p:Nat} {m:Mem} (h:Rd1 c cm lk p 0 m):W (Call S tab 103 [.pointer (some ⟨c,0,none⟩),.int .i64 0] m) fun r m'=>r=.tuple #[str (qp 256),.int .i64 0]∧Upd [c,cm,lk] m m'∧Rd1 c cm lk p 1 m':=by
 obtain ⟨l1,l2,l3⟩:=h.lt
 obtain ⟨ne1,ne2,ne3⟩:=h.ne
 have l7:qc (.pointer (some ⟨c,0+7,none⟩)) m=some (.map (some cm)):=qs h.gc rfl
 have l8:qc (.pointer (some ⟨c,0+8,none⟩)) m=some (.int .i64 0):=qs h.gc rfl
 have hlk:zb .int (.pointer none) true (.map (some cm)) (.int .i64 0) m=some (.tuple #[.pointer (some ⟨lk,0,none⟩),.bool true]):=by
  have:m.zY cm=some ([en0 lk],1):=by simp [Mem.zY,h.gm]
  simp only [zb,this,Option.bind_some]; rfl
 have e01:arith .add (.int .i64 0) (.int .i64 1)=some (.int .i64 1):=rfl
 have e10:arith .sub (.int .i64 1) (.int .i64 1)=some (.int .i64 0):=rfl
 rw [qjJ]
 simp -implicitDefEqProofs only [st0,qb,reduceIte,vd,nck,fa,l7,hlk,xt0,xt1,l8,e01]
 refine stp h.gc (by simp) rfl rfl fun m1 u1 n1 g1=>?_
 have j1:=(u1.same lk l3 (by simp; exact fun e=>ne2 e.symm)).trans h.gl
 have k1:=(u1.same cm l2 (by simp; exact fun e=>ne1 e.symm)).trans h.gm
 have a0:qc (.pointer (some ⟨lk,0+0,none⟩)) m1=some (hdP c):=qs j1 rfl
 have a1:qc (.pointer (some ⟨lk,0+1,none⟩)) m1=some (hdP c):=qs j1 rfl
 rw [qky]
 simp -implicitDefEqProofs only [st0,qb,reduceIte,nck,fa,a0,a1]
 refine qo.2 ?_
 refine stp g1 (by simp) rfl rfl fun m2 u2 n2 g2=>?_
 refine stp g2 (by simp) rfl rfl fun m3 u3 n3 g3=>?_
 have h4:qc (.pointer (some ⟨c,0+2+4,none⟩)) m3=some (.int .i64 1):=qs g3 rfl
 simp -implicitDefEqProofs only [st0,qb,reduceIte,nck,fa,h4,e10]
 refine stp g3 (by simp) rfl rfl fun m4 u4 n4 g4=>?_
 have u24:=(u2.trans u3).trans u4
 have j4:=(u24.same lk (by omega) (by simp; exact fun e=>ne2 e.symm)).trans j1
 have k4:=(u24.same cm (by omega) (by simp; exact fun e=>ne1 e.symm)).trans k1
 have g4:m4.get c=some (caB p cm (hdP c) (hdP c) 0 1 1):=g4
 refine zs.2 (qo.2 ((qcv g4 j4 (.inr k4) ⟨by omega,by omega,by omega⟩ ⟨ne1,ne2,ne3⟩).mono fun r5 m5 ⟨q1,q2,q3,u5⟩=>?_))
 have x5:=u5.next
 have ld:qc (.pointer (some ⟨lk,0+2+1,none⟩)) m5=some (str (qp 256)):=qs q2 rfl
 simp -implicitDefEqProofs only [st0,qb,reduceIte,nck,fa,ld]
 exact ⟨trivial,((u1.trans u24).mono fun b hb _=>by simp at hb; simp [hb]).trans u5,⟨q1,q2,q3,⟨by omega,by omega,by omega⟩,h.ne⟩⟩
theorem qhw (s:Bs) (b:Nat):qy [.int .u8 0,.int .u8 0,.int .u8 0,.int .u8 0,.int .u8 0,.int .u8 0,.int .u8 0,.int .u8 0,.int .u8 0,.int .u8 0,.int .u8 0,.int .u8 0,.int .u8 0,.int .u8 0,.int .u8 0,.int .u8 0,.int .u8 0,.int .u8 0,.int .u8 0,.int .u8 0,.string ⟨#[]⟩,.map none] [(20,1,str s),(21,1,.map (some b))]=some [.int .u8 0,.int .u8 0,.int .u8 0,.int .u8 0,.int .u8 0,.int .u8 0,.int .u8 0,.int .u8 0,.int .u8 0,.int .u8 0,.int .u8 0,.int .u8 0,.int .u8 0,.int .u8 0,.int .u8 0,.int .u8 0,.int .u8 0,.int .u8 0,.int .u8 0,.int .u8 0,str s,.map (some b)]:=by kernel_rfl
theorem qhv (c:Nat) (s:Bs) (b:Nat):qy [.pointer none,.int .u8 0,.int .u8 0,.int .u8 0,.int .u8 0,.int .u8 0,.int .u8 0,.int .u8 0,.int .u8 0,.int .u8 0,.int .u8 0,.int .u8 0,.int .u8 0,.int .u8 0,.int .u8 0,.int .u8 0,.int .u8 0,.int .u8 0,.int .u8 0,.int .u8 0,.int .u8 0,.string ⟨#[]⟩,.map none,.slice none 0 0,.bool false] [(0,1,.pointer (some ⟨c,0,none⟩)),(1,22,.agg [.int .u8 0,.int .u8 0,.int .u8 0,.int .u8 0,.int .u8 0,.int .u8 0,.int .u8 0,.int .u8 0,.int .u8 0,.int .u8 0,.int .u8 0,.int .u8 0,.int .u8 0,.int .u8 0,.int .u8 0,.int .u8 0,.int .u8 0,.int .u8 0,.int .u8 0,.int .u8 0,str s,.map (some b)].toArray)] =
  some [.pointer (some ⟨c,0,none⟩),.int .u8 0,.int .u8 0,.int .u8 0,.int .u8 0,.int .u8 0,.int .u8 0,.int .u8 0,.int .u8 0,.int .u8 0,.int .u8 0,.int .u8 0,.int .u8 0,.int .u8 0,.int .u8 0,.int .u8 0,.int .u8 0,.int .u8 0,.int .u8 0,.int .u8 0,.int .u8 0,str s,.map (some b),.slice none 0 0,.bool false]:=by kernel_rfl
abbrev jq (w pm c p P:Nat):Wo:=⟨w,pm,c,p,P,qp 20,qp 236,.slice none 0 0,[]⟩
theorem YY (w pm c p P:Nat):[.pointer (some ⟨c,0,none⟩),.int .u8 0,.int .u8 0,.int .u8 0,.int .u8 0,.int .u8 0,.int .u8 0,.int .u8 0,.int .u8 0,.int .u8 0,.int .u8 0,.int .u8 0,.int .u8 0,.int .u8 0,.int .u8 0,.int .u8 0,.int .u8 0,.int .u8 0,.int .u8 0,.int .u8 0,.int .u8 0,str (qp 236),.map (some pm),.slice none 0 0,.bool false]=(jq w pm c p P).cells:=by kernel_rfl
set_option maxRecDepth 4000 in
theorem qdV {c p d n:Nat} {v:Value} {m:Mem} {fp:List Nat} {X:Mem→Prop} (hX:∀ {m m'},X m→Upd [] m m'→X m')
  (hr:W (Call S tab 103 [.pointer (some ⟨c,0,none⟩),.int .i64 0] m) fun r m'=>r=.tuple #[str (qp 256),.int .i64 0]∧Upd fp m m'∧X m'∧∃ rs,m'.get c=some ⟨.cells (.pointer (some ⟨p,0,none⟩)::rs) 184,false,none⟩)
  (gp:m.get p=some (pgB d v)) (hv:TAp encS 9 m v (List.replicate n (qp 256))) (hn:1≤n) (hn2:n≤160) (hlt:c<m.next∧p<m.next) (hne:c≠p) (hpf:p∉fp) :
  W (Call S tab 56 [.pointer (some ⟨c,0,none⟩)] m) fun r m'=>∃ w pm,r=.tuple #[.pointer (some ⟨w,0,none⟩),.int .i64 0]∧WI (jq w pm c p n) [] m'∧m.next≤w∧m.next≤pm∧Upd fp m m'∧X m':=by
 have d0:decide ((0:Int)=0)=true:=rfl
 have hs:zz (str (qp 256)) (some (.int .i64 20)) none=some (str (qp 236)):=wk (l:=qp 256) (a:=20) (by rw [xj]; omega) .i64
 rw [C56]
 simp -implicitDefEqProofs only [st0,qb,reduceIte,vd]
 refine qo.2 (hr.mono fun r1 m1 ⟨r1e,u1,hx1,rs,gc1⟩=>?_)
 subst r1e
 have x1:=u1.next
 obtain ⟨lc,lp⟩:=hlt
 have gp1:m1.get p=_:=(u1.same p lp hpf).trans gp
 simp -implicitDefEqProofs only [st0,qb,reduceIte,xt0,xt1,d0,hs,zA,qhw,qhv,qR,YY m1.next m1.next c p n]
 have u2:Upd [] m1 (m1.add ⟨.map [] 0,false,none⟩):=Upd.add _ _ _
 have g2:(m1.add ⟨.map [] 0,false,none⟩).get m1.next=some ⟨.map [] 0,false,none⟩:=Mem.qh ..
 have n2:(m1.add ⟨.map [] 0,false,none⟩).next=m1.next+1:=rfl
 have gc2:=qA u2 (by omega) gc1
 have gp2:=qA u2 (by omega) gp1
 generalize (m1.add ⟨.map [] 0,false,none⟩)=m2 at u2 g2 n2 gc2 gp2
 have u3:Upd [] m2 (m2.add ⟨.cells (jq m1.next m1.next c p n).cells 155,false,none⟩):=Upd.add _ _ _
 have g3:(m2.add ⟨.cells (jq m1.next m1.next c p n).cells 155,false,none⟩).get m2.next=some ⟨.cells (jq m1.next m1.next c p n).cells 155,false,none⟩:=Mem.qh ..
 have n3:(m2.add ⟨.cells (jq m1.next m1.next c p n).cells 155,false,none⟩).next=m2.next+1:=rfl
 have k3:=qA u3 (by omega) g2
 have gc3:=qA u3 (by omega) gc2
 have gp3:=qA u3 (by omega) gp2
 generalize (m2.add ⟨.cells (jq m1.next m1.next c p n).cells 155,false,none⟩)=m3 at u3 g3 n3 k3 gc3 gp3
 have hcp:kH 1 (.slice (some ⟨m2.next,0+1+0,none⟩) 20 20) 256 (xo.flat (qp 256)) m3=some (.int .i64 20,m3.put m2.next ⟨.cells (jq m1.next m1.next c p n).cells 155,false,none⟩):=by
  have how:m3.jk m2.next=some ((jq m1.next m1.next c p n).cells,155,none):=by simp [Mem.jk,g3]
  have hlen:(jq m1.next m1.next c p n).cells.length=25:=Wo.len (xj 20)
  have hfl:(xo.flat (qp 256)).length=256:=by rw [Enc.qV,xj]; rfl
  have hmin:Nat.min 256 20=20:=rfl
  have hset:qJ (jq m1.next m1.next c p n).cells (0+1+0) ((xo.flat (qp 256)).take (20 * 1))=(jq m1.next m1.next c p n).cells:=by kernel_rfl
  simp only [kH,hmin,how,Option.bind_some]
  rw [if_neg (by omega),if_pos ⟨by rw [hlen]; omega,by omega,by rw [hfl],Enc.vC ..⟩,hset]
  rfl
 simp -implicitDefEqProofs only [st0,qb,reduceIte,nck,fa,slA g3,HJ,xj,hcp]
 have u4:Upd [m2.next] m3 (m3.put m2.next ⟨.cells (jq m1.next m1.next c p n).cells 155,false,none⟩):=Upd.put _ _ (by simp)
 have g4:(m3.put m2.next ⟨.cells (jq m1.next m1.next c p n).cells 155,false,none⟩).get m2.next=some ⟨.cells (jq m2.next m1.next c p n).cells 155,false,none⟩:=Mem.qi ..
 have n4:(m3.put m2.next ⟨.cells (jq m1.next m1.next c p n).cells 155,false,none⟩).next=m3.next:=rfl
 have k4:=(u4.same m1.next (by omega) (by simp; omega)).trans k3
 have gc4:=(u4.same c (by omega) (by simp; omega)).trans gc3
 have gp4:=(u4.same p (by omega) (by simp; omega)).trans gp3
 have hbit:∀ k,xX (qp 20) k=false:=fun k=>by
  unfold xX
  rw [List.getD_eq_getElem?_getD,qp,List.getElem?_replicate]
  split<;>simp
 have hvf:∃ a cap,v=.slice a n cap:=by
  rcases hv with ⟨_,h0⟩|⟨b,cap,rest,lo,hv,_⟩
  ·have:=congrArg List.length h0; simp at this; omega
  ·exact ⟨_,cap,by rw [hv,List.length_replicate]⟩
 obtain ⟨a,cap,rfl⟩:=hvf
 refine ⟨m2.next,m1.next,rfl,⟨⟨g4,xj 20,⟨0,none,k4⟩,⟨rs,_,_,_,gc4⟩,⟨_,a,cap,_,_,_,_,gp4⟩,hn2,by show m2.next<_; omega,by show m1.next<_; omega,by show c<_; omega,by show p<_; omega,⟨by show m2.next≠m1.next; omega,by show m2.next≠c; omega,by show m2.next≠p; omega,by show m1.next≠c; omega,by show m1.next≠p; omega⟩⟩,TAp.nil _,fun b hb=>by simp [qf] at hb,fun k=>?_⟩,by omega,by omega,((u1.qz u2).qz u3).then' u4 fun b hb=>.inr (by simp at hb; omega),hX hx1 ((u2.qz u3).then' u4 fun b hb=>.inr (by simp at hb; omega))⟩
 simp [Wo.s,Wo.has,hbit]
end Go.Fx.Tryz
namespace Go.Fx.Tryz
open Go Go.Fx
theorem qdR (m:Mem):W (Call S tab 57 [str (qp 236)] m) fun r m'=>∃ tm,r=.tuple #[.map (some tm),.bool true]∧m'.get tm=some ⟨.map [] 0,false,none⟩∧m.next≤tm∧tm<m'.next∧Upd [] m m':=by
 rw [C57]
 simp -implicitDefEqProofs only [st0,qb,reduceIte,KZ,zA]
 have u1:Upd [] m (m.add (rdB (qp 236))):=Upd.add _ _ _
 have g1:(m.add (rdB (qp 236))).get m.next=some (rdB (qp 236)):=Mem.qh ..
 have n1:(m.add (rdB (qp 236))).next=m.next+1:=rfl
 generalize (m.add (rdB (qp 236)))=m1 at u1 g1 n1
 have u2:Upd [] m1 (m1.add ⟨.map [] 0,false,none⟩):=Upd.add _ _ _
 have g2:(m1.add ⟨.map [] 0,false,none⟩).get m1.next=some ⟨.map [] 0,false,none⟩:=Mem.qh ..
 have n2:(m1.add ⟨.map [] 0,false,none⟩).next=m1.next+1:=rfl
 have r2:=qA u2 (by omega) g1
 generalize (m1.add ⟨.map [] 0,false,none⟩)=m2 at u2 g2 n2 r2
 have r2:m2.get m.next=some (rdB (0::qp 235)):=r2
 refine qo.2 ((vv r2 (by omega) (by rw [List.length_cons,xj]; omega)).mono fun r3 m3 ⟨e3,r3,u3⟩=>?_)
 subst e3
 have x3:=u3.next
 have k3:=(u3.same m1.next (by omega) (by simp; omega)).trans g2
 have e0:(((0:UInt8).toNat:Nat):Int)=0:=rfl
 have c0:((0:Int)<0)=False:=eq_false (by omega)
 rw [P57_0_eq]
 simp -implicitDefEqProofs only [st0,qb,reduceIte,e0,c0]
 rw [P57_1_eq]
 have d0:decide ((0:Int)=0)=true:=rfl
 have c12:((0:Int)≤12)=True:=eq_true (by omega)
 have hl:(qp 235).length=235:=xj 235
 have hraw:=HP r3 (by rw [hl]; omega)
 have eq0:arith .eql (str []) (.string ⟨#[]⟩)=some (.bool true):=kI [] []
 have htr:Call S tab 108 [str (qp 235),.string ⟨#[0]⟩] (m3.put m.next (rdB []))=some (str [],m3.put m.next (rdB [])):=HE 235 (by omega) _
 simp -implicitDefEqProofs only [st0,qb,reduceIte,Wl r3,hraw,yY (Mem.qi m3 m.next _),d0,c12,htr,eq0]
 have u4:Upd [m.next] m3 (m3.put m.next (rdB [])):=Upd.put _ _ (by simp)
 exact ⟨m1.next,rfl,(u4.same m1.next (by omega) (by simp; omega)).trans k3,by omega,by show m1.next<m3.next; omega,((u1.qz u2).then' u3 fun b hb=>.inr (by simp at hb; omega)).then' u4 fun b hb=>.inr (by simp at hb; omega)⟩
theorem qcu {o:Wo} {m:Mem} (h:WR o m):Call S tab 58 [.pointer (some ⟨o.w,0,none⟩)] m=some (str o.hd,m):=by
 refine W_eq ?_
 have d0:decide ((0:Int)=0)=true:=rfl
 have l:qc (.pointer (some ⟨o.w,0+1+20,none⟩)) m=some (str o.hd):=qs h.hw (Wo.at h.hu).2.2.1
 rw [C58]
 simp -implicitDefEqProofs only [st0,qb,reduceIte,wy h,d0,nck,fa,l]
 exact ⟨trivial,trivial⟩
abbrev baB (c:Nat) (busy:Bool):ABlk:=⟨.cells [.pointer (some ⟨c,0,none⟩),.bool busy,.bool false] 119,false,none⟩
theorem qhu (b w tm:Nat):qy [.pointer none,.pointer none,.map none,.slice none 0 0,.bool false] [(0,1,.pointer (some ⟨b,0,none⟩)),(1,1,.pointer (some ⟨w,0,none⟩)),(2,1,.map (some tm))]=some [.pointer (some ⟨b,0,none⟩),.pointer (some ⟨w,0,none⟩),.map (some tm),.slice none 0 0,.bool false]:=rfl
abbrev qby (t b tm:Nat) (o:Wo):To:=⟨t,b,tm,.slice none 0 0,[],o,[],[],0⟩
theorem Ka {b c p d n:Nat} {v:Value} {m:Mem} {fp:List Nat} {X:Mem→Prop} (hX:∀ {m m'},X m→Upd [] m m'→X m') (hXb:∀ {m m'},X m→Upd [b] m m'→X m') (gb:m.get b=some (baB c false)) (lb:b<m.next)
  (hr:W (Call S tab 103 [.pointer (some ⟨c,0,none⟩),.int .i64 0] m) fun r m'=>r=.tuple #[str (qp 256),.int .i64 0]∧Upd fp m m'∧X m'∧∃ rs,m'.get c=some ⟨.cells (.pointer (some ⟨p,0,none⟩)::rs) 184,false,none⟩)
  (gp:m.get p=some (pgB d v)) (hv:TAp encS 9 m v (List.replicate n (qp 256))) (hn:1≤n) (hn2:n≤160) (hlt:c<m.next∧p<m.next) (hne:c≠p) (hpf:p∉fp) (hbf:b∉fp) (hbn:b≠c∧b≠p) (hfl:∀ q∈fp,q<m.next) :
  W (Call S tab 25 [.pointer (some ⟨b,0,none⟩)] m) fun r m'=>∃ t tm w pm,r=.tuple #[.pointer (some ⟨t,0,none⟩),.int .i64 0]∧TR (qby t b tm (jq w pm c p n)) [] m'∧m'.get b=some (baB c true)∧m.next≤t∧(∀ q∈To.fp (qby t b tm (jq w pm c p n)),m.next≤q)∧Upd (b::fp) m m'∧X m':=by
 have d0:decide ((0:Int)=0)=true:=rfl
 have l0:qc (.pointer (some ⟨b,0+0,none⟩)) m=some (.pointer (some ⟨c,0,none⟩)):=qs gb rfl
 have l1:qc (.pointer (some ⟨b,0+1,none⟩)) m=some (.bool false):=qs gb rfl
 have l2:qc (.pointer (some ⟨b,0+2,none⟩)) m=some (.bool false):=qs gb rfl
 rw [C25]
 simp -implicitDefEqProofs only [st0,qb,reduceIte,vd,nck,fa,l0,l1,l2]
 refine qo.2 ((qdV hX hr gp hv hn hn2 hlt hne hpf).mono fun r1 m1 ⟨w,pm,e1,wi1,w1,w2,u1,hx1⟩=>?_)
 subst e1
 have x1:=u1.next
 have gb1:=(u1.same b lb hbf).trans gb
 simp -implicitDefEqProofs only [st0,qb,reduceIte,xt0,xt1,d0,qcu wi1.wr]
 refine qo.2 ((qdR m1).mono fun r2 m2 ⟨tm,e2,gt2,t1,t2,u2⟩=>?_)
 subst e2
 have x2:=u2.next
 have gb2:=qA u2 (by omega) gb1
 simp -implicitDefEqProofs only [st0,qb,reduceIte,xt0,xt1,nck,fa]
 refine stp gb2 (by simp) rfl rfl fun m3 u3 n3 g3=>?_
 have g3:m3.get b=some (baB c true):=g3
 have k3:=(u3.same tm (by omega) (by simp; omega)).trans gt2
 simp -implicitDefEqProofs only [st0,qb,reduceIte,qhu,qR]
 have u4:Upd [] m3 (m3.add ⟨.cells [.pointer (some ⟨b,0,none⟩),.pointer (some ⟨w,0,none⟩),.map (some tm),.slice none 0 0,.bool false] 97,false,none⟩):=Upd.add _ _ _
 have g4:(m3.add ⟨.cells [.pointer (some ⟨b,0,none⟩),.pointer (some ⟨w,0,none⟩),.map (some tm),.slice none 0 0,.bool false] 97,false,none⟩).get m3.next=some (txB (qby m3.next b tm (jq w pm c p n))):=Mem.qh ..
 have n4:(m3.add ⟨.cells [.pointer (some ⟨b,0,none⟩),.pointer (some ⟨w,0,none⟩),.map (some tm),.slice none 0 0,.bool false] 97,false,none⟩).next=m3.next+1:=rfl
 have wl:=wi1.lt
 have hw:=wi1.wr
 have lw:w<m1.next:=hw.lw
 have lpm:pm<m1.next:=hw.lm
 have hwb:∀ q∈[b],q∉(jq w pm c p n).zr∧q≠(jq w pm c p n).c∧q≠(jq w pm c p n).p:=fun q hq=>by
  simp at hq; subst hq
  refine ⟨fun hm=>?_,hbn.1,hbn.2⟩
  simp [Wo.zr,qf] at hm
  omega
 have wi4:=((wi1.qx u2).upd u3 hwb).qx u4
 have nf:∀ q,m1.next≤q→q∉(jq w pm c p n).zr:=fun q h1 hm=>by have:=wl q hm; omega
 have fl:∀ q∈(jq w pm c p n).zr,m.next≤q:=fun q hq=>by
  simp [Wo.zr,qf] at hq
  omega
 obtain ⟨lc,lp⟩:=hlt
 have us:∀ k,Wo.s (jq w pm c p n) k=none:=fun k=>by
  have:=wi1.fu k
  cases hs:Wo.s (jq w pm c p n) k with
  | none=>rfl
  | some x =>
   have e:Wo.s (jq w pm c p n) k=(if Wo.has (jq w pm c p n) k then lkL [] k else none):=rfl
   rw [hs] at e
   split at e
   ·cases e
   ·cases e
 refine ⟨m3.next,tm,w,pm,rfl,⟨g4,qA u4 (by show tm<m3.next; omega) k3,wi4,TAp.nil _,⟨.refl _,.nil⟩,⟨by simp,by simp,.nil,by simp,by simp⟩,rfl,fun t ht=>by simp at ht,.nil,fun k hk=>absurd (us k) hk,⟨by show m3.next<m3.next+1; omega,by show tm<m3.next+1; omega⟩,⟨by show m3.next≠tm; omega,⟨nf m3.next (by omega),by show m3.next≠c; omega,by show m3.next≠p; omega⟩,nf tm t1,by show tm≠c; omega,by show tm≠p; omega⟩,fun q hq=>by simp [qf] at hq⟩,qA u4 (by omega) g3,by omega,fun q hq=>?_,?_,hX (hXb (hX hx1 u2) u3) u4⟩
 ·simp only [To.fp,List.mem_cons] at hq
  rcases hq with h|h|h
  ·omega
  ·omega
  ·exact fl q h
 ·exact (((u1.mono fun q hq _=>by simp [hq]).qz u2).trans (u3.mono fun q hq _=>by simp at hq; simp [hq])).qz u4
theorem Rd1.upd {c cm lk p ht:Nat} {m m':Mem} {fp:List Nat} (h:Rd1 c cm lk p ht m) (u:Upd fp m m') (hf:c∉fp∧cm∉fp∧lk∉fp):Rd1 c cm lk p ht m':=by
 have hx:=u.next
 obtain ⟨l1,l2,l3⟩:=h.lt
 exact ⟨(u.same _ l1 hf.1).trans h.gc,(u.same _ l3 hf.2.2).trans h.gl,(u.same _ l2 hf.2.1).trans h.gm,⟨by omega,by omega,by omega⟩,h.ne⟩
theorem qaY {x:To} {T:List Tb} {c:Nat} {m:Mem} (h:TR x T m) (gb:m.get x.b=some (baB c true)) (hbl:x.b<m.next) (hne:x.b≠x.t):W (Call S tab 54 [x.v] m) fun r m'=>r=.int .i64 0∧m'.get x.b=some (baB c false)∧Upd [x.t,x.b] m m':=by
 have d0:decide ((0:Int)=0)=true:=rfl
 have l0:qc (.pointer (some ⟨x.t,0+0,none⟩)) m=some (.pointer (some ⟨x.b,0,none⟩)):=qs h.tx rfl
 rw [C54]
 simp -implicitDefEqProofs only [st0,qb,reduceIte,vE h,d0]
 rw [qkP]
 simp -implicitDefEqProofs only [st0,qb,reduceIte,nck,fa,l0]
 refine qo.2 ?_
 refine stp h.tx (by simp) rfl rfl fun m1 u1 n1 g1=>?_
 have gb1:=(u1.same x.b hbl (by simp; exact hne)).trans gb
 refine stp gb1 (by simp) rfl rfl fun m2 u2 n2 g2=>?_
 exact zs.2 (zs.2 ⟨rfl,g2,(u1.mono fun b hb _=>by simp at hb; simp [hb]).trans (u2.mono fun b hb _=>by simp at hb; simp [hb])⟩)
set_option maxRecDepth 4000 in
theorem qdU {n d sb um:Nat} (hn1:1≤n) (hn:n≤160) {m:Mem} (hdv:Dv d sb um (126+4 * n) m) (hd1:d<m.next):W (Call S tab 22 [.pointer (some ⟨d,0,none⟩),.int .i64 (n:Int)] m) fun r m'=>∃ b c cm p lk v,r=.tuple #[.pointer (some ⟨b,0,none⟩),.int .i64 0]∧m'.get b=some (baB c false)∧b<m'.next∧Rd1 c cm lk p 0 m'∧m'.get p=some (pgB d v)∧p<m'.next∧TAp encS 9 m' v (List.replicate n (qp 256))∧(m.next≤b∧m.next≤c∧m.next≤cm∧m.next≤p∧m.next≤lk)∧(b≠c∧b≠cm∧b≠p∧b≠lk∧c≠p∧cm≠p∧lk≠p)∧Upd [] m m':=by
 have d0:decide ((0:Int)=0)=true:=rfl
 rw [C22]
 refine qo.2 ((qcZ hn1 hn hdv).mono fun r2 m2 ⟨p,v,e,gp,lp,hv,hp1,u2⟩=>?_)
 subst e
 have x2:=u2.next
 simp -implicitDefEqProofs only [st0,qb,reduceIte,xt0,xt1,d0]
 refine qo.2 ((qfp p m2).mono fun r3 m3 ⟨c,cm,e,gc,gm,lc,lm,hcm,hc1,hc2,u3⟩=>?_)
 subst e
 have x3:=u3.next
 have gp3:=qA u3 lp gp
 have fb:qy [.pointer none,.bool false,.bool false] [(0,1,.pointer (some ⟨c,0,none⟩))]=some [.pointer (some ⟨c,0,none⟩),.bool false,.bool false]:=rfl
 simp -implicitDefEqProofs only [st0,qb,reduceIte,fb,qR]
 have u4:Upd [] m3 (m3.add (baB c false)):=Upd.add _ _ _
 have g4:(m3.add (baB c false)).get m3.next=some (baB c false):=Mem.qh ..
 have n4:(m3.add (baB c false)).next=m3.next+1:=rfl
 have gc4:=qA u4 lc gc
 have gm4:=qA u4 lm gm
 have gp4:=qA u4 (by omega) gp3
 have hv4:=(hv.qx u3).qx u4
 generalize (m3.add (baB c false))=m4 at u4 g4 n4 gc4 gm4 gp4 hv4
 have hr:=qca gc4 gm4 gp4 hv4 hn1 ⟨by omega,by omega,by omega⟩ ⟨hcm,by omega,by omega⟩
 refine qo.2 ((Ka (X:=fun M=>∃ lk,Rd1 c cm lk p 0 M∧m4.next≤lk) (fun ⟨lk,h1,h2⟩ u=>⟨lk,h1.qx u,h2⟩) (fun ⟨lk,h1,h2⟩ u=>⟨lk,h1.upd u (by simp; omega),h2⟩) g4 (by omega) (hr.mono fun r M ⟨q1,q2,lk,q3,q4⟩=>⟨q1,q2,⟨lk,q3,q4⟩,_,q3.gc⟩) gp4 hv4 hn1 hn ⟨by omega,by omega⟩ (by omega) (by simp; omega) (by simp; omega) ⟨by omega,by omega⟩ (fun q hq=>by simp at hq; omega)).mono fun r5 m5 ⟨t,tm,w,pm,e,tr,gb5,ht,hfp,u5,lk,hrd,hlk⟩=>?_)
 subst e
 have x5:=u5.next
 have tl:=tr.lt.1
 have tl:t<m5.next:=tl
 simp -implicitDefEqProofs only [st0,qb,reduceIte,xt0,xt1,d0]
 refine qo.2 ((qaY tr gb5 (by show m3.next<m5.next; omega) (by show m3.next≠t; omega)).mono fun r6 m6 ⟨e,g6,u6⟩=>?_)
 subst e
 have x6:=u6.next
 have u6:Upd [t,m3.next] m5 m6:=u6
 have tfp:t∈To.fp (qby t m3.next tm (jq w pm c p n)):=by simp [To.fp]
 have tne:=tr.ne.2.1
 have rl:=hrd.lt
 have gp5:=(u5.same p (by omega) (by simp; omega)).trans gp4
 have gp6:=(u6.same p (by omega) (by simp; omega)).trans gp5
 have hvl:=hv4.lt
 have hvn:∀ q∈qf v,q≠c∧q≠cm∧q≠m3.next:=fun q hq=>by have:=hv.lt q hq; omega
 have hv5:=hv4.upd u5 fun q hq hm=>by have:=hvn q hq; simp at hm; omega
 have hv6:=hv5.upd u6 fun q hq hm=>by have:=hvn q hq; have:=hvl q hq; simp at hm; omega
 have lkt:lk≠t:=fun e=>by
  have h1:=hrd.gl
  have h2:m5.get t=some (txB (qby t m3.next tm (jq w pm c p n))):=tr.tx
  rw [e,h2] at h1
  simp at h1
 refine zs.2 ⟨m3.next,c,cm,p,lk,v,rfl,g6,by show m3.next<m6.next; omega,hrd.upd u6 (by simp; omega),gp6,by show p<m6.next; omega,hv6,⟨by omega,by omega,by omega,by omega,by omega⟩,⟨by omega,by omega,by omega,by omega,by omega,by omega,by omega⟩,((((u2.qz u3).qz u4).then' u5 fun q hq=>.inr (by simp at hq; omega)).then' u6 fun q hq=>.inr (by simp at hq; omega))⟩
set_option maxRecDepth 4000 in
theorem Yf {n:Nat} (hn1:1≤n) (hn:n≤160) (m:Mem):W (Call S tab 8 [.int .i64 (n:Int)] m) fun r m'=>∃ x,TR x [] m'∧r=x.v∧x.ns=[]∧x.nts=[]∧x.ts=[]∧x.nb=.slice none 0 0∧x.o.P=n∧(∀ q∈x.fp,m.next≤q)∧m.next≤x.o.c∧m.next≤x.o.p∧Upd [] m m':=by
 have d0:decide ((0:Int)=0)=true:=rfl
 rw [C8]
 simp -implicitDefEqProofs only [st0,qb,reduceIte,qab n (by omega)]
 refine qo.2 ((qfm n hn m).mono fun r1 m1 ⟨d,sb,um,e,hdv,hd1,u1⟩=>?_)
 subst e
 have x1:=u1.next
 refine qo.2 ((qdU hn1 hn hdv hd1).mono fun r2 m2 ⟨b,c,cm,p,lk,v,e,gb,lb,hrd,gp,lp,hv,⟨b1,b2,b3,b4,b5⟩,⟨k1,k2,k3,k4,k5,k6,k7⟩,u2⟩=>?_)
 subst e
 have x2:=u2.next
 have rl:=hrd.lt
 simp -implicitDefEqProofs only [st0,qb,reduceIte,xt0,xt1,d0]
 refine qo.2 ((Ka (X:=fun _=>True) (fun _ _=>trivial) (fun _ _=>trivial) gb lb ((qbZ hrd).mono fun r M ⟨q1,q2,q3⟩=>⟨q1,q2,trivial,_,q3.gc⟩) gp hv hn1 hn ⟨rl.1,lp⟩ k5 (by simp [Ne.symm k5,Ne.symm k6,Ne.symm k7]) (by simp [k1,k2,k4]) ⟨k1,k3⟩ (fun q hq=>by simp at hq; rcases hq with h|h|h<;>rw [h]; exact rl.1; exact rl.2.1; exact rl.2.2)).mono fun r5 m5 ⟨t,tm,w,pm,e,tr,gb5,ht,hfp,u5,_⟩=>?_)
 subst e
 simp -implicitDefEqProofs only [st0,qb,reduceIte,xt0,xt1,d0]
 clear k1 k2 k3 k4 k5 k6 k7
 exact ⟨qby t b tm (jq w pm c p n),tr,rfl,rfl,rfl,rfl,rfl,rfl,fun q hq=>by have:=hfp q hq; omega,by show m.next≤c; omega,by show m.next≤p; omega,(u1.qz u2).then' u5 fun q hq=>.inr (by simp at hq; omega)⟩
end Go.Fx.Tryz
namespace Go.Fx.Tryz
open Go Go.Fx
theorem Wv (l:List Pr):zU l [] []=l:=by
 unfold zU
 refine List.filter_eq_self.2 fun p _=>?_
 have:ltB p.1 []=false:=by rw [qac]; exact List.not_lt_nil _
 simp [inF,this]
abbrev pB (l:List Pr):Bs:=(l.map xz).flatten
theorem qdd {l:List Pr} (h:rowP l):(pB l).length≤74 * l.length:=by
 have:∀ k:List Pr,(∀ p∈k,p.1.length≤32∧p.2.length≤40)→(pB k).length≤74 * k.length:=by
  intro k
  induction k with
  | nil=>intro _; simp
  | cons p k ih =>
   intro hk
   have h1:=hk p (by simp)
   have h2:=ih fun q hq=>hk q (by simp [hq])
   simp only [pB,List.map_cons,List.flatten_cons,List.length_append,List.length_cons] at h2 ⊢
   rw [QL]; unfold qI; omega
 refine this l fun p hp=>⟨?_,h.2 p hp⟩
 obtain ⟨i,hi,e⟩:=List.mem_iff_getElem.1 hp
 have:=(zK h.1 i (by simpa using hi)).2.1
 rw [List.getElem_map,e] at this; exact this
theorem qcT {l:List Pr} (h:rowP l):∀ p∈l,p.1.length≤255∧p.2.length≤255:=fun p hp=>by
 obtain ⟨i,hi,e⟩:=List.mem_iff_getElem.1 hp
 have h1:=(zK h.1 i (by simpa using hi)).2.1
 rw [List.getElem_map,e] at h1
 have h2:=h.2 p hp
 omega
theorem qcS {l:List Pr} (h:rowP l) (i:Nat):rowP (l.take i):=⟨by rw [List.map_take]; exact xF _ _ h.1,fun p hp=>h.2 p (List.mem_of_mem_take hp)⟩
theorem qdL {lo:Nat} {l:List Pr} {sp x0 x24 x25 x26:Value} {k0:Bs} (hr:rowP l) (hl:l.length≤65535) (hk:k0.length≤2 ^ 38) {m0:Mem} {Q:Value→Mem→Prop}
  (hQ:∀ m v,TAp xo 5 m v (k0++pB l)→(∀ b∈qf v,m0.next≤b)→Upd [] m0 m→W ((arith .add x26 (.int .i64 1)).bind fun w=>Yn x0 v x24 x25 w m) Q):∀ (d i:Nat) (m:Mem) (v:Value),l.length - i=d→i≤l.length→RSl lo qN m sp l→(∀ b∈qf sp,b∉qf v)→TAp xo 5 m v (k0++pB (l.take i))→(∀ b∈qf v,m0.next≤b)→Upd [] m0 m →
  W (qaN x0 v x24 x25 x26 sp (.int .i64 (l.length:Int)) (.int .i64 (i:Int)) m) Q:=by
 intro d
 induction d with
 | zero =>
  intro i m v hd hi h hdj hv hvb hu
  obtain rfl:i=l.length:=by omega
  rw [List.take_length] at hv
  rw [P10_1_eq]
  simp -implicitDefEqProofs only [st0,qb,reduceIte,Int.lt_irrefl]
  exact hQ m v hv hvb hu
 | succ d ih =>
  intro i m v hd hi h hdj hv hvb hu
  have hlt:i<l.length:=by omega
  have hp:=qcT hr _ (List.getElem_mem hlt)
  have hkl:=qdd (qcS hr i)
  rw [List.length_take] at hkl
  have hk1:(k0++pB (l.take i)).length≤2 ^ 38+5000000:=by rw [List.length_append]; omega
  have e1:((i:Int)<(l.length:Int))=True:=eq_true (by omega)
  rw [P10_1_eq]
  obtain ⟨b,off,h1,h2⟩:=h.1.at .i64 (jE hlt)
  rw [zc] at h1 h2
  have h2:=h2 m h.1
  simp -implicitDefEqProofs only [st0,qb,reduceIte,e1,h1,h2.1]
  refine jJ (c:=qN.cells l[i]) rfl rfl rfl fun m1 g1 u1 n1=>?_
  have ld:∀ {m2:Mem},m2.get m.next=some ⟨.cells (qN.cells l[i]) 81,false,none⟩→qc (.pointer (some ⟨m.next,0+0,none⟩)) m2=some (str l[i].1)∧qc (.pointer (some ⟨m.next,0+1,none⟩)) m2=some (str l[i].2):=fun g=>⟨qs g rfl,qs g rfl⟩
  simp -implicitDefEqProofs only [st0,qb,reduceIte,fa,(ld g1).1]
  refine (wW l[i].1 (hv.qx u1) (by omega) hp.1).bind fun v2 m2 w2=>?_
  have hnb:m.next∉qf v:=fun hb=>by have:=hv.lt _ hb; omega
  have g2:=w2.box g1 n1 hnb
  simp -implicitDefEqProofs only [st0,qb,reduceIte,fa,(ld g2).2]
  have hkl2:((k0++pB (l.take i))++xa l[i].1).length=(k0++pB (l.take i)).length+(l[i].1.length+1):=by rw [List.length_append]; simp [xa]
  refine (wW l[i].2 w2.ap (by omega) hp.2).bind fun v3 m3 w3=>?_
  have hnb2:m.next∉qf v2:=fun hb=>by
   rcases w2.own _ hb with h|h
   ·exact hnb h
   ·omega
  have g3:=w3.box g2 (Nat.lt_of_lt_of_le n1 w2.upd.next) hnb2
  refine kJ (fun r hr=>?_) ?_
  ·simp only [List.mem_cons,List.not_mem_nil,or_false] at hr
   rcases hr with rfl|rfl
   ·exact okL (fun M hM=>by simp only [List.mem_cons,List.not_mem_nil,or_false] at hM; rcases hM with rfl|rfl|rfl<;>exact (ld (by assumption)).1) (by simp)
   ·exact okL (fun M hM=>by simp only [List.mem_cons,List.not_mem_nil,or_false] at hM; rcases hM with rfl|rfl|rfl<;>exact (ld (by assumption)).2) (by simp)
  simp -implicitDefEqProofs only [st0,qb,reduceIte,qH (i:=i) (by omega)]
  have w3':=(w2.trans w3).ahead u1
  have ev:((k0++pB (l.take i))++xa l[i].1)++xa l[i].2=k0++pB (l.take (i+1)):=by
   rw [List.take_succ_eq_append_getElem hlt]
   have e:pB (l.take i++[l[i]])=pB (l.take i)++(xa l[i].1++xa l[i].2):=by simp only [pB,List.map_append,List.flatten_append,List.map_cons,List.map_nil,List.flatten_cons,List.flatten_nil,List.append_nil,xz]
   rw [e]; simp only [List.append_assoc]
  rw [ev] at w3'
  refine ih (i+1) m3 v3 (by omega) hlt (w3'.sl h hdj) (fun b hb hm=>(w3'.own b hm).elim (hdj b hb) fun h4=>by have:=(h.lt b hb).2; omega) w3'.ap (fun b hb=>?_) (hu.then' w3'.upd (fun b hb=>.inr (hvb b hb)))
  rcases w3'.own b hb with h|h
  ·exact hvb b h
  ·exact Nat.le_trans hu.next h
section
variable {x:To} {T:List Tb} {m:Mem}
theorem TR.qhn (h:TR x T m):∀ t∈x.ts,t.nm≠[]:=fun t ht e=>by
 have:=h.va.right _ (h.mo.mem ht)
 rw [show ((t.nm,t.l):Tb).1=[] from e] at this
 cases this
theorem qax (h:TR x T m):W (Call S tab 26 [x.v] m) fun r m'=>r=.int .i64 0∧Upd [] m m':=by
 have d7:decide ((7:Int)=7)=true:=rfl
 have hc:W (Call S tab 46 [x.v,.string ⟨#[]⟩] m) fun r m'=>r=.tuple #[.int .i64 0,.int .i64 7]∧Upd [] m m':=qdP (nm:=[]) h h.qhn
 rw [C26]
 refine qo.2 (hc.mono fun r m1 ⟨e,u⟩=>?_)
 subst e
 simp -implicitDefEqProofs only [st0,qb,reduceIte,xt0,xt1,d7]
 exact ⟨trivial,u⟩
theorem TR.find (h:TR x T m) {t:Tb} (ht:t∈T):∃ a q b,x.ts=a++q::b∧q.nm=t.1∧q.l=t.2:=by
 obtain ⟨q,hq,e⟩:=List.mem_map.1 (h.mo.perm.mem_iff.2 ht)
 obtain ⟨a,b,hab⟩:=List.append_of_mem hq
 exact ⟨a,q,b,hab,by rw [← e],by rw [← e]⟩
theorem qeC {T:List Tb} (h:Valid T):∀ i,((T.take i).map yq).flatten.length≤5000000 * (T.take i).length:=by
 have:∀ k:List Tb,(∀ t∈k,xu t.1=true∧rowP t.2∧t.2.length≤65535)→(k.map yq).flatten.length≤5000000 * k.length:=by
  intro k
  induction k with
  | nil=>intro _; simp
  | cons t k ih =>
   intro hk
   obtain ⟨h1,h2,h3⟩:=hk t (by simp)
   have h4:=ih fun q hq=>hk q (by simp [hq])
   have h5:=qdd h2
   have h6:=(vw h1).2
   simp only [List.map_cons,List.flatten_cons,List.length_append,List.length_cons] at h4 ⊢
   have h7:(yq t).length=t.1.length+3+(pB t.2).length:=by
    show (xa t.1++(xU t.2.length++pB t.2)).length=_
    simp only [xa,xU,List.length_append,List.length_cons,List.length_nil]; omega
   omega
 exact fun i=>this _ fun t ht=>⟨h.right t (List.mem_of_mem_take ht),h.row t (List.mem_of_mem_take ht),h.few t (List.mem_of_mem_take ht)⟩
theorem qfl (h:TR x T m) {nv:Value} {lo:Nat} (hn:RSl lo encS m nv (T.map (·.1))):∀ (d i:Nat) (M:Mem) (v:Value),T.length - i=d→i≤T.length→TAp xo 5 M v (UInt8.ofNat T.length::((T.take i).map yq).flatten)→(∀ b∈qf v,m.next≤b)→Upd [] m M →
  W (Yn x.v v nv (.int .i64 (T.length:Int)) (.int .i64 (i:Int)) M) fun r m'=>r=.tuple #[str (Jq T),.int .i64 0]∧Upd [] m m':=by
 intro d
 induction d with
 | zero =>
  intro i M v hd hi hv hvb hu
  obtain rfl:i=T.length:=by omega
  rw [List.take_length] at hv
  rw [P10_0_eq]
  simp -implicitDefEqProofs only [st0,qb,reduceIte,Int.lt_irrefl,Ho hv.tsl]
  exact ⟨rfl,hu⟩
 | succ d ih =>
  intro i M v hd hi hv hvb hu
  have hlt:i<T.length:=by omega
  have hT12:=h.va.len
  have hM:=h.qx hu
  have e1:((i:Int)<(T.length:Int))=True:=eq_true (by omega)
  have d0:decide ((0:Int)=0)=true:=rfl
  obtain ⟨a,q,b,he,q1,q2⟩:=hM.find (List.getElem_mem hlt)
  have hnM:=hn.qx hu
  obtain ⟨pk,y1,y2⟩:=qdr hnM (show (T.map (·.1))[i]? = some q.nm by rw [List.getElem?_map,List.getElem?_eq_getElem hlt,q1]; rfl)
  have hrow:=h.va.row _ (List.getElem_mem hlt)
  have hfew:=h.va.few _ (List.getElem_mem hlt)
  have hrt:=(vw (h.va.right _ (List.getElem_mem hlt))).2
  rw [← q2] at hrow hfew
  rw [← q1] at hrt
  have hsc:W (Call S tab 14 [x.v,str q.nm,.string ⟨#[]⟩,.string ⟨#[]⟩] M) _:=qcC hM he [] []
  rw [P10_0_eq]
  simp -implicitDefEqProofs only [st0,qb,reduceIte,e1,y1,y2 M hnM]
  refine qo.2 (hsc.mono fun r1 m1 ⟨w,e,tw,wb,u1⟩=>?_)
  subst e
  rw [Wv] at tw
  have x1:=u1.next
  have hx:=hu.next
  have tl:=qeC h.va i
  rw [List.length_take] at tl
  have hkl:(UInt8.ofNat T.length::((T.take i).map yq).flatten).length≤70000000:=by rw [List.length_cons]; omega
  simp -implicitDefEqProofs only [st0,qb,reduceIte,xt0,xt1,d0]
  refine (wW q.nm (hv.qx u1) (by omega) (by omega)).bind fun v2 m2 w2=>?_
  have hvlt:=hv.lt
  have twd:∀ c∈qf w,c∉qf v:=fun c hc hm=>by have:=wb c hc; have:=hvlt c hm; omega
  have rw1:RSl 0 qN m1 w q.l:=tw.rsl fun _ _=>Nat.zero_le _
  have rw2:=w2.sl rw1 twd
  have l2:=zv rw2
  simp -implicitDefEqProofs only [st0,qb,reduceIte,l2,QW .i64 q.l.length (by omega)]
  have hkl2:((UInt8.ofNat T.length::((T.take i).map yq).flatten)++xa q.nm).length≤80000000:=by rw [List.length_append]; simp [xa] at hkl ⊢; omega
  refine (YW q.l.length w2.ap (by omega)).bind fun v3 m3 w3=>?_
  have w23:=w2.trans w3
  have rw3:=w23.sl rw1 twd
  have l3:=zv rw3
  simp -implicitDefEqProofs only [st0,qb,reduceIte,l3]
  have hkl3:(((UInt8.ofNat T.length::((T.take i).map yq).flatten)++xa q.nm)++xU q.l.length).length≤90000000:=by rw [List.length_append]; simp [xU] at hkl2 ⊢; omega
  have w13:Gw M v m3 v3 _:=w23.ahead u1
  have v3b:∀ c∈qf v3,m.next≤c:=fun c hc=>(w13.own c hc).elim (hvb c) fun h=>by omega
  have u3:Upd [] m m3:=hu.then' w13.upd fun c hc=>.inr (hvb c hc)
  refine qdL (m0:=m) (k0:=((UInt8.ofNat T.length::((T.take i).map yq).flatten)++xa q.nm)++xU q.l.length) hrow hfew (by omega) (fun m4 v4 t4 b4 u4=>?_) _ 0 m3 v3 rfl (Nat.zero_le _) rw3 (fun c hc hm=>?_) (by rw [List.take_zero]; show TAp _ _ _ _ (_++[]); rw [List.append_nil]; exact w13.ap) v3b u3
  ·simp -implicitDefEqProofs only [st0,qb,reduceIte,qH (i:=i) (by omega)]
   refine ih (i+1) m4 v4 (by omega) hlt ?_ b4 u4
   have e:(((UInt8.ofNat T.length::((T.take i).map yq).flatten)++xa q.nm)++xU q.l.length)++pB q.l=UInt8.ofNat T.length::((T.take (i+1)).map yq).flatten:=by
    rw [List.take_succ_eq_append_getElem hlt]
    have e:yq T[i]=xa q.nm++(xU q.l.length++pB q.l):=by rw [q1,q2]; rfl
    simp only [List.map_append,List.flatten_append,List.map_cons,List.map_nil,List.flatten_cons,List.flatten_nil,List.append_nil,e,List.append_assoc,List.cons_append]
   rw [e] at t4; exact t4
  ·rcases w23.own c hm with h4|h4
   ·exact twd c hc h4
   ·have:=tw.lt c hc; omega
theorem yh (h:TR x T m):W (Call S tab 10 [x.v] m) fun r m'=>r=.tuple #[str (Jq T),.int .i64 0]∧Upd [] m m':=by
 have d0:decide ((0:Int)=0)=true:=rfl
 rw [C10]
 refine qo.2 ((qax h).mono fun r1 m1 ⟨e,u1⟩=>?_)
 subst e
 simp -implicitDefEqProofs only [st0,qb,reduceIte,d0]
 refine qo.2 ((Jt (h.qx u1)).mono fun nv m2 ⟨tn,nb,u2⟩=>?_)
 have ln:=tn.tsl.len
 rw [List.length_map] at ln
 simp -implicitDefEqProofs only [st0,qb,reduceIte,ln,yi,Vb]
 have u3:Upd [] m2 (m2.add ⟨.cells (xo.flat [UInt8.ofNat T.length]) 5,false,none⟩):=Upd.add _ _ _
 have tv:TAp xo 5 (m2.add ⟨.cells (xo.flat [UInt8.ofNat T.length]) 5,false,none⟩) (.slice (some ⟨m2.next,0,none⟩) 1 1) [UInt8.ofNat T.length]:=TAp.fresh m2 [UInt8.ofNat T.length]
 have u02:=u1.qz u2
 have x2:=u02.next
 have h2:=h.qx u02
 refine (qfl h2 (lo:=0) (tn.rsl fun _ _=>Nat.zero_le _) T.length 0 _ _ (by omega) (Nat.zero_le _) (by simpa using tv) (fun b hb=>by simp [qf] at hb; omega) u3).mono fun r m' ⟨h1,h2⟩=>⟨h1,u02.qz h2⟩
end
end Go.Fx.Tryz
namespace Go.Fx.Tryz
open Go Go.Fx
abbrev rdE (rest:Bs) (e:Int):ABlk:=⟨.cells [str rest,.int .i64 e] 134,false,none⟩
def qcm (b:Nat) (m:Mem):Prop:=∃ q e,e≠0∧m.get b=some (rdE q e)
section
variable {m:Mem} {b:Nat} {rest:Bs}
theorem qeN {q:Bs} {e:Int} (h:m.get b=some (rdE q e)):qc (.pointer (some ⟨b,0+1,none⟩)) m=some (.int .i64 e):=qs h rfl
theorem qhf {q:Bs} {e:Int} (h:m.get b=some (rdE q e)) (he:e≠0) (k:Value):Call S tab 111 [.pointer (some ⟨b,0,none⟩),k] m=some (.tuple #[.string ⟨#[]⟩,.bool false],m):=by
 refine W_eq ?_
 have d:decide (e=0)=false:=decide_eq_false he
 rw [qhR]
 simp -implicitDefEqProofs only [st0,qb,reduceIte,vd,nck,fa,qeN h,d]
 exact ⟨trivial,trivial⟩
theorem vf (h:m.get b=some (rdB rest)) {k:Nat} (hk:rest.length<k):Call S tab 111 [.pointer (some ⟨b,0,none⟩),.int .i64 (k:Int)] m=some (.tuple #[.string ⟨#[]⟩,.bool false],m.put b (rdE rest 2)):=by
 refine W_eq ?_
 have e1:((rest.length:Int)<(k:Int))=True:=eq_true (by omega)
 have e2:qg 1 (.pointer (some ⟨b,0+1,none⟩)) (.int .i64 2) m=some (m.put b (rdE rest 2)):=zy h (by simp) rfl rfl
 rw [qhR]
 simp -implicitDefEqProofs only [st0,qb,reduceIte,vd,nck,fa,rd0 h,rd1 h,YZ,zN,e1,e2]
 exact ⟨trivial,trivial⟩
theorem qid (h:qcm b m) (k:Value):Call S tab 104 [.pointer (some ⟨b,0,none⟩),k] m=some (str [],m):=by
 obtain ⟨q,e,he,h⟩:=h
 refine W_eq ?_
 have d:decide (e=0)=false:=decide_eq_false he
 rw [qhS]
 simp -implicitDefEqProofs only [st0,qb,reduceIte,vd,nck,fa,qeN h,d]
 exact ⟨trivial,trivial⟩
theorem Ws {q:Bs} {e:Int} (h:m.get b=some (rdE q e)):Call S tab 107 [.pointer (some ⟨b,0,none⟩)] m=some (.int .i64 e,m):=by
 refine W_eq ?_
 rw [qjI]
 simp -implicitDefEqProofs only [st0,qb,reduceIte,vd,nck,fa,qeN h]
 exact ⟨trivial,trivial⟩
theorem qet (k:Nat) (h1:1≤k) (h2:k≤8) (m:Mem):Call S tab 65 [.int .i64 (k:Int)] m=some (.int .i64 (k:Int),m):=by
 refine W_eq ?_
 rw [C65]
 have h1:((1:Int) > (k:Int))=False:=eq_false (by omega)
 have h8:((8:Int)<(k:Int))=False:=eq_false (by omega)
 simp -implicitDefEqProofs only [st0,qb,reduceIte,h1,h8]
 exact ⟨trivial,trivial⟩
theorem QJ {k:Nat} {m1:Mem} (h1:1≤k) (h2:k≤8) (ht:Call S tab 111 [.pointer (some ⟨b,0,none⟩),.int .i64 (k:Int)] m=some (.tuple #[.string ⟨#[]⟩,.bool false],m1)) :
  W (Call S tab 61 [.pointer (some ⟨b,0,none⟩),.int .i64 (k:Int)] m) fun r m'=>r=.int .u64 0∧Upd [] m1 m':=by
 have hs:yB 5 (.string ⟨#[]⟩) m1=some (.slice (some ⟨m1.next,0,none⟩) 0 0,m1.add ⟨.cells (xo.flat []) 5,false,some 1⟩):=HM [] m1
 have hl:qj (.slice (some ⟨m1.next,0,none⟩) 0 0)=some (.int .i64 0):=rfl
 have h0:((0:Int)<0)=False:=eq_false (by omega)
 rw [C61,qet k h1 h2]
 simp -implicitDefEqProofs only [st0,qb,reduceIte,ht,xt0,xt1,hs,hl]
 rw [P61_0_eq]
 simp -implicitDefEqProofs only [st0,qb,reduceIte,h0]
 exact ⟨trivial,Upd.add _ _ _⟩
theorem qie (h:qcm b m) {k:Nat} (h1:1≤k) (h2:k≤8):W (Call S tab 61 [.pointer (some ⟨b,0,none⟩),.int .i64 (k:Int)] m) fun r m'=>r=.int .u64 0∧Upd [] m m':=by
 obtain ⟨q,e,he,h⟩:=h
 exact QJ h1 h2 (qhf h he _)
theorem qcR (h:m.get b=some (rdB rest)) (hb:b<m.next) (hr:rest.length<2 ^ 62):W (Call S tab 104 [.pointer (some ⟨b,0,none⟩),.int .i64 255] m) fun v m'=>Upd [b] m m' ∧
  ((∃ s r,rdS rest=some (s,r)∧v=str s∧m'.get b=some (rdB r))∨(rdS rest=none∧v=str []∧qcm b m')):=by
 cases hs:rdS rest with
 | some p =>
  obtain ⟨s,r⟩:=p
  obtain ⟨h1,rfl⟩:=wV hs
  exact (ZH (most:=255) h hb h1 (Nat.le_refl _) hr).mono fun v m' ⟨k1,k2,k3⟩=>⟨k3,.inl ⟨s,r,rfl,k1,k2⟩⟩
 | none =>
  refine W.mono (Q:=fun v m'=>v=str []∧qcm b m'∧Upd [b] m m') ?_ fun v m' ⟨k1,k2,k3⟩=>⟨k3,.inr ⟨rfl,k1,k2⟩⟩
  rw [qhS]
  cases rest with
  | nil =>
   have ht:Call S tab 111 [.pointer (some ⟨b,0,none⟩),.int .i64 1] m=_:=vf h (k:=1) (by simp)
   simp -implicitDefEqProofs only [st0,qb,reduceIte,vd,nck,fa,rd0 h,rd1 h,YZ,ht,xt0,xt1]
   exact ⟨trivial,⟨_,2,by omega,Mem.qi ..⟩,Upd.put _ _ (by simp)⟩
  | cons c r =>
   have hc:r.length<c.toNat:=by
    simp only [rdS] at hs
    split at hs
    ·cases hs
    ·omega
   have hcl:=c.toNat_lt
   have t1:=wq h (k:=1) (by simp) hr
   have t1:Call S tab 111 [.pointer (some ⟨b,0,none⟩),.int .i64 1] m=some (.tuple #[str [c],.bool true],m.put b (rdB r)):=t1
   have e3:zG (str [c]) (.int .i64 0)=some (.int .u8 (c.toNat:Int)):=KW (i:=0) rfl
   have e4:zk .i64 (.int .u8 (c.toNat:Int))=some (.int .i64 (c.toNat:Int)):=by rw [Qs .u8 (by omega) (by omega)]
   have e5:((255:Int)<(c.toNat:Int))=False:=eq_false (by omega)
   have g1:(m.put b (rdB r)).get b=some (rdB r):=Mem.qi ..
   have u1:Upd [b] m (m.put b (rdB r)):=Upd.put _ _ (by simp)
   have t2:=vf g1 hc
   have g2:((m.put b (rdB r)).put b (rdE r 2)).get b=some (rdE r 2):=Mem.qi ..
   have e6:qg 1 (.pointer (some ⟨b,0+0,none⟩)) (str (c::r)) ((m.put b (rdB r)).put b (rdE r 2))=some (((m.put b (rdB r)).put b (rdE r 2)).put b (rdE (c::r) 2)):=zy g2 (by simp) rfl rfl
   simp -implicitDefEqProofs only [st0,qb,reduceIte,vd,nck,fa,rd0 h,rd1 h,YZ,t1,xt0,xt1,e3,e4,e5,t2,e6]
   exact ⟨trivial,⟨_,2,by omega,Mem.qi ..⟩,(u1.trans (Upd.put _ _ (by simp))).trans (Upd.put _ _ (by simp))⟩
theorem qhg (h:m.get b=some (rdB rest)) (hb:b<m.next) (hr:rest.length<2 ^ 62):W (Call S tab 61 [.pointer (some ⟨b,0,none⟩),.int .i64 2] m) fun v m'=>Upd [b] m m' ∧
  ((∃ n r,rd2 rest=some (n,r)∧v=.int .u64 (n:Int)∧m'.get b=some (rdB r))∨(rd2 rest=none∧v=.int .u64 0∧qcm b m')):=by
 cases hs:rd2 rest with
 | some p =>
  obtain ⟨n,r⟩:=p
  obtain ⟨h1,rfl⟩:=ZJ hs
  exact (Xy h1 h hb hr).mono fun v m' ⟨k1,k2,k3⟩=>⟨k3,.inl ⟨n,r,rfl,k1,k2⟩⟩
 | none =>
  have hl:rest.length<2:=by
   match rest,hs with
   | [],_=>simp
   | [_],_=>simp
   | _::_::_,hs=>cases hs
  refine (QJ (k:=2) (by omega) (by omega) (vf h hl)).mono fun v m' ⟨k1,k2⟩=>⟨(Upd.put _ _ (by simp)).qz k2,.inr ⟨rfl,k1,rest,2,by omega,qA k2 (by show b<m.next; exact hb) (Mem.qi ..)⟩⟩
theorem qhh (h:m.get b=some (rdB rest)) (hb:b<m.next) (hr:rest.length<2 ^ 62):W (Call S tab 61 [.pointer (some ⟨b,0,none⟩),.int .i64 1] m) fun v m'=>Upd [b] m m' ∧
  ((∃ c r,rest=c::r∧v=.int .u64 (c.toNat:Int)∧m'.get b=some (rdB r))∨(rest=[]∧v=.int .u64 0∧qcm b m')):=by
 cases rest with
 | cons c r=>exact (vv h hb hr).mono fun v m' ⟨k1,k2,k3⟩=>⟨k3,.inl ⟨c,r,rfl,k1,k2⟩⟩
 | nil =>
  refine (QJ (k:=1) (by omega) (by omega) (vf h (by simp))).mono fun v m' ⟨k1,k2⟩=>⟨(Upd.put _ _ (by simp)).qz k2,.inr ⟨rfl,k1,[],2,by omega,qA k2 (by show b<m.next; exact hb) (Mem.qi ..)⟩⟩
theorem qcV (h:m.get b=some (rdB rest)):Call S tab 63 [.pointer (some ⟨b,0,none⟩)] m=some (.int .i64 (if rest=[] then 0 else 5),m):=by
 refine W_eq ?_
 have nn:qP .ptr true (.pointer (some ⟨b,0,none⟩)) (.pointer none)=some (.bool true):=rfl
 have eq0:arith .neq (str rest) (.string ⟨#[]⟩)=some (.bool (decide (¬ rest=[]))):=Qc rest []
 rw [C63]
 by_cases hc:rest=[]
 ·have d:decide (¬ rest=[])=false:=decide_eq_false (fun h=>h hc)
  simp -implicitDefEqProofs only [st0,qb,reduceIte,nn,nck,fa,rd0 h,rd1 h,YZ,eq0,d,yY h]
  rw [if_pos hc]
  exact ⟨rfl,trivial⟩
 ·have d:decide (¬ rest=[])=true:=decide_eq_true hc
  simp -implicitDefEqProofs only [st0,qb,reduceIte,nn,nck,fa,rd0 h,rd1 h,YZ,eq0,d]
  rw [if_neg hc]
  exact ⟨rfl,trivial⟩
theorem qhi {q:Bs} {e:Int} (h:m.get b=some (rdE q e)) (he:e≠0):Call S tab 63 [.pointer (some ⟨b,0,none⟩)] m=some (.int .i64 e,m):=by
 refine W_eq ?_
 have nn:qP .ptr true (.pointer (some ⟨b,0,none⟩)) (.pointer none)=some (.bool true):=rfl
 have d:decide (e=0)=false:=decide_eq_false he
 rw [C63]
 simp -implicitDefEqProofs only [st0,qb,reduceIte,nn,nck,fa,qeN h,d,Ws h]
 exact ⟨trivial,trivial⟩
theorem ZN (e:Int) (m:Mem):Call S tab 112 [.int .i64 e] m=some (.int .i64 (if e=1∨e=11∨e=3 then 10 else e),m):=by
 refine W_eq ?_
 rw [qkL]
 by_cases c1:e=1
 ·have d:decide (e=1)=true:=decide_eq_true c1
  simp -implicitDefEqProofs only [st0,qb,reduceIte,d]
  rw [P112_0_eq,if_pos (.inl c1)]
  exact zs.2 ⟨rfl,rfl⟩
 ·have d:decide (e=1)=false:=decide_eq_false c1
  by_cases c2:e=11
  ·have d2:decide (e=11)=true:=decide_eq_true c2
   simp -implicitDefEqProofs only [st0,qb,reduceIte,d,d2]
   rw [P112_0_eq,if_pos (.inr (.inl c2))]
   exact zs.2 ⟨rfl,rfl⟩
  ·have d2:decide (e=11)=false:=decide_eq_false c2
   by_cases c3:e=3
   ·have d3:decide (e=3)=true:=decide_eq_true c3
    simp -implicitDefEqProofs only [st0,qb,reduceIte,d,d2,d3]
    rw [P112_0_eq,if_pos (.inr (.inr c3))]
    exact zs.2 ⟨rfl,rfl⟩
   ·have d3:decide (e=3)=false:=decide_eq_false c3
    simp -implicitDefEqProofs only [st0,qb,reduceIte,d,d2,d3]
    rw [P112_0_eq,if_neg (by omega)]
    exact zs.2 ⟨rfl,rfl⟩
end
end Go.Fx.Tryz
