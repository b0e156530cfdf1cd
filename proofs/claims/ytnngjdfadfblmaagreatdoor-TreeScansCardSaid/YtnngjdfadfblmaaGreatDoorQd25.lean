/- Parts of a proof: TreeFt, TreeRf, TreeRg. Conditions: none. -/
import Derived.Test.YtnngjdfadfblmaaGreatDoorQd24
set_option linter.unusedSimpArgs false
set_option linter.unusedVariables false
namespace Go.Fx.Tryz
open Go Go.Fx
abbrev caB (p cm:Nat) (a b:Value) (sz ms:Nat):ABlk:=⟨.cells [.pointer (some ⟨p,0,none⟩),.int .i64 8,a,b,.int .i64 0,.string ⟨#[]⟩,.int .i64 (sz:Int),.map (some cm),.int .i64 0,.int .i64 (ms:Int)] 172,false,none⟩
theorem qiZ (p cm:Nat):qz [.pointer none,.int .i64 0,.pointer none,.pointer none,.int .i64 0,.string ⟨#[]⟩,.int .i64 0,.map none,.int .i64 0,.int .i64 0] [(0,1,.pointer (some ⟨p,0,none⟩)),(1,1,.int .i64 8),(7,1,.map (some cm))] =
  some [.pointer (some ⟨p,0,none⟩),.int .i64 8,.pointer none,.pointer none,.int .i64 0,.string ⟨#[]⟩,.int .i64 0,.map (some cm),.int .i64 0,.int .i64 0]:=by kernel_rfl
theorem qfu (p:Nat) (m:Mem):W (Call S tab 41 [.pointer (some ⟨p,0,none⟩),.int .i64 8] m) fun r m'=>∃ c cm,r=.pointer (some ⟨c,0,none⟩)∧m'.get c=some (caB p cm (.pointer (some ⟨c,0+2+0,none⟩)) (.pointer (some ⟨c,0+2+0,none⟩)) 0 0)∧m'.get cm=some ⟨.map [] 0,false,none⟩∧c<m'.next∧cm<m'.next∧c≠cm∧m.next≤c∧m.next≤cm∧Upd [] m m':=by
 have e1:((0:Int) > 8)=False:=eq_false (by omega)
 have e2:((64:Int)<8)=False:=eq_false (by omega)
 rw [C41]
 simp -implicitDefEqProofs only [st0,qc,reduceIte,yT,e1,e2,zK,qiZ,qR]
 have u1:Upd [] m (m.add ⟨.map [] 0,false,none⟩):=Upd.add _ _ _
 have g1:(m.add ⟨.map [] 0,false,none⟩).get m.next=some ⟨.map [] 0,false,none⟩:=Mem.qk ..
 have n1:(m.add ⟨.map [] 0,false,none⟩).next=m.next+1:=rfl
 generalize (m.add ⟨.map [] 0,false,none⟩)=m1 at u1 g1 n1
 have u2:Upd [] m1 (m1.add (caB p m.next (.pointer none) (.pointer none) 0 0)):=Upd.add _ _ _
 have g2:(m1.add (caB p m.next (.pointer none) (.pointer none) 0 0)).get m1.next=some (caB p m.next (.pointer none) (.pointer none) 0 0):=Mem.qk ..
 have n2:(m1.add (caB p m.next (.pointer none) (.pointer none) 0 0)).next=m1.next+1:=rfl
 have k2:=qx u2 (by omega) g1
 have eb:(⟨.cells [.pointer (some ⟨p,0,none⟩),.int .i64 8,.pointer none,.pointer none,.int .i64 0,.string ⟨#[]⟩,.int .i64 0,.map (some m.next),.int .i64 0,.int .i64 0] 172,false,none⟩:ABlk)=caB p m.next (.pointer none) (.pointer none) 0 0:=rfl
 rw [eb]
 generalize (m1.add (caB p m.next (.pointer none) (.pointer none) 0 0))=m2 at u2 g2 n2 k2
 have s1:qi 1 (.pointer (some ⟨m1.next,0+2+0+0,none⟩)) (.pointer (some ⟨m1.next,0+2+0,none⟩)) m2=some (m2.put m1.next (caB p m.next (.pointer (some ⟨m1.next,0+2+0,none⟩)) (.pointer none) 0 0)):=zt g2 (by simp) rfl rfl
 have g3:(m2.put m1.next (caB p m.next (.pointer (some ⟨m1.next,0+2+0,none⟩)) (.pointer none) 0 0)).get m1.next=_:=Mem.qj ..
 have k3:(m2.put m1.next (caB p m.next (.pointer (some ⟨m1.next,0+2+0,none⟩)) (.pointer none) 0 0)).get m.next=_:=(Mem.qo m2 _ (by omega)).trans k2
 have s2:qi 1 (.pointer (some ⟨m1.next,0+2+0+1,none⟩)) (.pointer (some ⟨m1.next,0+2+0,none⟩)) (m2.put m1.next (caB p m.next (.pointer (some ⟨m1.next,0+2+0,none⟩)) (.pointer none) 0 0))=some ((m2.put m1.next (caB p m.next (.pointer (some ⟨m1.next,0+2+0,none⟩)) (.pointer none) 0 0)).put m1.next (caB p m.next (.pointer (some ⟨m1.next,0+2+0,none⟩)) (.pointer (some ⟨m1.next,0+2+0,none⟩)) 0 0)):=zt g3 (by simp) rfl rfl
 simp -implicitDefEqProofs only [st0,qc,reduceIte,nck,fa,C95,s1,s2]
 refine ⟨m1.next,m.next,rfl,Mem.qj ..,(Mem.qo _ _ (by omega)).trans k3,by show m1.next<m2.next; omega,by show m.next<m2.next; omega,by omega,by omega,by omega,((u1.qE u2).jP _ (.inr (by omega))).jP _ (.inr (by omega))⟩
theorem qhm:qz [.int .i64 0,.string ⟨#[]⟩] [(0,1,.int .i64 0),(1,1,str (qs 256))]=some [.int .i64 0,str (qs 256)]:=by
 simp only [qz]; rfl
theorem qhl (s:Bs):qz [.pointer none,.pointer none,.int .i64 0,.string ⟨#[]⟩] [(2,2,.agg [.int .i64 0,str s].toArray)]=some [.pointer none,.pointer none,.int .i64 0,str s]:=by kernel_rfl
set_option maxRecDepth 4000 in
theorem qdK {c cm p d n:Nat} {v:Value} {m:Mem} (gc:m.get c=some (caB p cm (.pointer (some ⟨c,0+2+0,none⟩)) (.pointer (some ⟨c,0+2+0,none⟩)) 0 0)) (gm:m.get cm=some ⟨.map [] 0,false,none⟩) (gp:m.get p=some (pgB d v)) (hv:TAp zk 9 m v (List.replicate n (qs 256))) (hn:1≤n) (hlt:c<m.next∧cm<m.next∧p<m.next) (hne:c≠cm∧c≠p∧cm≠p) :
  W (Call S tab 94 [.pointer (some ⟨c,0,none⟩),.int .i64 0] m) fun r m'=>r=.tuple #[str (qs 256),.int .i64 0]∧(∃ rs,m'.get c=some ⟨.cells (.pointer (some ⟨p,0,none⟩)::rs) 172,false,none⟩)∧Upd [c,cm] m m':=by
 obtain ⟨lc,lm,lp⟩:=hlt
 obtain ⟨ne1,ne2,ne3⟩:=hne
 have hr:RSl 0 zk m v (List.replicate n (qs 256)):=hv.rsl fun b _=>Nat.zero_le _
 have hget:(List.replicate n (qs 256))[0]? = some (qs 256):=by rw [List.getElem?_replicate,if_pos (by omega)]
 obtain ⟨pk,y1,y2⟩:=Vk hr hget
 have y1:ql 1 v (.int .i64 0)=some pk:=y1
 have y2:=y2 m hr
 have hl:=qS hr
 rw [List.length_replicate] at hl
 have e1:((n:Int)≤0)=False:=eq_false (by omega)
 have lpg:qb (.pointer (some ⟨p,0+1,none⟩)) m=some v:=qu gp rfl
 have hread:Call S tab 148 [.pointer (some ⟨p,0,none⟩),.int .i64 0] m=some (.tuple #[str (qs 256),.int .i64 0],m):=by
  refine W_eq ?_
  have e0:((0:Int)<0)=False:=eq_false (by omega)
  rw [qkc]
  simp -implicitDefEqProofs only [st0,qc,reduceIte,yT,e0,nck,fa,lpg,hl,e1,y1,y2]
  exact ⟨trivial,trivial⟩
 have d0:decide ((0:Int)=0)=true:=rfl
 have l0:qb (.pointer (some ⟨c,0+0,none⟩)) m=some (.pointer (some ⟨p,0,none⟩)):=qu gc rfl
 have l7:∀ {M:Mem} {a b:Value} {s t:Nat},M.get c=some (caB p cm a b s t)→qb (.pointer (some ⟨c,0+7,none⟩)) M=some (.map (some cm)):=fun g=>qu g rfl
 have l9:qb (.pointer (some ⟨c,0+9,none⟩)) m=some (.int .i64 0):=qu gc rfl
 have lk:zG .int (.pointer none) true (.map (some cm)) (.int .i64 0) m=some (.tuple #[.pointer none,.bool false]):=by
  have:m.xO cm=some ([],0):=by simp [Mem.xO,gm]
  simp only [zG,this,Option.bind_some]; rfl
 have e01:arith .add (.int .i64 0) (.int .i64 1)=some (.int .i64 1):=rfl
 have s9:qi 1 (.pointer (some ⟨c,0+9,none⟩)) (.int .i64 1) m=some (m.put c (caB p cm (.pointer (some ⟨c,0+2+0,none⟩)) (.pointer (some ⟨c,0+2+0,none⟩)) 0 1)):=zt gc (by simp) rfl rfl
 rw [C94]
 simp -implicitDefEqProofs only [st0,qc,reduceIte,yT,nck,fa,l7 gc,lk,xt0,xt1,l0,hread,d0,l9,e01,s9,qhm,qhl,qR]
 have u1:Upd [c,cm] m (m.put c (caB p cm (.pointer (some ⟨c,0+2+0,none⟩)) (.pointer (some ⟨c,0+2+0,none⟩)) 0 1)):=Upd.put _ _ (by simp)
 have g1:(m.put c (caB p cm (.pointer (some ⟨c,0+2+0,none⟩)) (.pointer (some ⟨c,0+2+0,none⟩)) 0 1)).get c=_:=Mem.qj ..
 have k1:(m.put c (caB p cm (.pointer (some ⟨c,0+2+0,none⟩)) (.pointer (some ⟨c,0+2+0,none⟩)) 0 1)).get cm=_:=(Mem.qo m _ (fun e=>ne1 e.symm)).trans gm
 have n1:(m.put c (caB p cm (.pointer (some ⟨c,0+2+0,none⟩)) (.pointer (some ⟨c,0+2+0,none⟩)) 0 1)).next=m.next:=rfl
 generalize (m.put c (caB p cm (.pointer (some ⟨c,0+2+0,none⟩)) (.pointer (some ⟨c,0+2+0,none⟩)) 0 1))=m1 at u1 g1 k1 n1
 have eb:∀ a b:Value,(⟨.cells [a,b,.int .i64 0,str (qs 256)] 168,false,none⟩:ABlk)=⟨.cells [a,b,.int .i64 0,str (qs 256)] 168,false,none⟩:=fun _ _=>rfl
 have u2:Upd [] m1 (m1.add ⟨.cells [.pointer none,.pointer none,.int .i64 0,str (qs 256)] 168,false,none⟩):=Upd.add _ _ _
 have j2:(m1.add ⟨.cells [.pointer none,.pointer none,.int .i64 0,str (qs 256)] 168,false,none⟩).get m1.next=some ⟨.cells [.pointer none,.pointer none,.int .i64 0,str (qs 256)] 168,false,none⟩:=Mem.qk ..
 have n2:(m1.add ⟨.cells [.pointer none,.pointer none,.int .i64 0,str (qs 256)] 168,false,none⟩).next=m1.next+1:=rfl
 have g2:=qx u2 (by omega) g1
 have k2:=qx u2 (by omega) k1
 generalize (m1.add ⟨.cells [.pointer none,.pointer none,.int .i64 0,str (qs 256)] 168,false,none⟩)=m2 at u2 j2 n2 g2 k2
 have lkc:m1.next≠c:=by omega
 have lkm:m1.next≠cm:=by omega
 have hl1:qb (.pointer (some ⟨c,0+2+0+1,none⟩)) m2=some (.pointer (some ⟨c,0+2+0,none⟩)):=qu g2 rfl
 have t3:qi 1 (.pointer (some ⟨m1.next,0+0,none⟩)) (.pointer (some ⟨c,0+2+0,none⟩)) m2=some (m2.put m1.next ⟨.cells [.pointer (some ⟨c,0+2+0,none⟩),.pointer none,.int .i64 0,str (qs 256)] 168,false,none⟩):=zt j2 (by simp) rfl rfl
 rw [qkd]
 simp -implicitDefEqProofs only [st0,qc,reduceIte,nck,fa,qjL,hl1,t3]
 have j3:(m2.put m1.next ⟨.cells [.pointer (some ⟨c,0+2+0,none⟩),.pointer none,.int .i64 0,str (qs 256)] 168,false,none⟩).get m1.next=_:=Mem.qj ..
 have g3:(m2.put m1.next ⟨.cells [.pointer (some ⟨c,0+2+0,none⟩),.pointer none,.int .i64 0,str (qs 256)] 168,false,none⟩).get c=_:=(Mem.qo m2 _ (fun e=>lkc e.symm)).trans g2
 have k3:(m2.put m1.next ⟨.cells [.pointer (some ⟨c,0+2+0,none⟩),.pointer none,.int .i64 0,str (qs 256)] 168,false,none⟩).get cm=_:=(Mem.qo m2 _ (fun e=>lkm e.symm)).trans k2
 have u3:Upd [] m1 (m2.put m1.next ⟨.cells [.pointer (some ⟨c,0+2+0,none⟩),.pointer none,.int .i64 0,str (qs 256)] 168,false,none⟩):=u2.jP _ (.inr (Nat.le_refl _))
 generalize (m2.put m1.next ⟨.cells [.pointer (some ⟨c,0+2+0,none⟩),.pointer none,.int .i64 0,str (qs 256)] 168,false,none⟩)=m3 at j3 g3 k3 u3
 have t4:qi 1 (.pointer (some ⟨m1.next,0+1,none⟩)) (.pointer (some ⟨c,0+2+0,none⟩)) m3=some (m3.put m1.next ⟨.cells [.pointer (some ⟨c,0+2+0,none⟩),.pointer (some ⟨c,0+2+0,none⟩),.int .i64 0,str (qs 256)] 168,false,none⟩):=zt j3 (by simp) rfl rfl
 simp -implicitDefEqProofs only [st0,qc,reduceIte,t4]
 have j4:(m3.put m1.next ⟨.cells [.pointer (some ⟨c,0+2+0,none⟩),.pointer (some ⟨c,0+2+0,none⟩),.int .i64 0,str (qs 256)] 168,false,none⟩).get m1.next=_:=Mem.qj ..
 have g4:(m3.put m1.next ⟨.cells [.pointer (some ⟨c,0+2+0,none⟩),.pointer (some ⟨c,0+2+0,none⟩),.int .i64 0,str (qs 256)] 168,false,none⟩).get c=_:=(Mem.qo m3 _ (fun e=>lkc e.symm)).trans g3
 have k4:(m3.put m1.next ⟨.cells [.pointer (some ⟨c,0+2+0,none⟩),.pointer (some ⟨c,0+2+0,none⟩),.int .i64 0,str (qs 256)] 168,false,none⟩).get cm=_:=(Mem.qo m3 _ (fun e=>lkm e.symm)).trans k3
 have u4:Upd [] m1 (m3.put m1.next ⟨.cells [.pointer (some ⟨c,0+2+0,none⟩),.pointer (some ⟨c,0+2+0,none⟩),.int .i64 0,str (qs 256)] 168,false,none⟩):=u3.jP _ (.inr (Nat.le_refl _))
 generalize (m3.put m1.next ⟨.cells [.pointer (some ⟨c,0+2+0,none⟩),.pointer (some ⟨c,0+2+0,none⟩),.int .i64 0,str (qs 256)] 168,false,none⟩)=m4 at j4 g4 k4 u4
 have lj0:qb (.pointer (some ⟨m1.next,0+0,none⟩)) m4=some (.pointer (some ⟨c,0+2+0,none⟩)):=qu j4 rfl
 have lj1:qb (.pointer (some ⟨m1.next,0+1,none⟩)) m4=some (.pointer (some ⟨c,0+2+0,none⟩)):=qu j4 rfl
 have t5:qi 1 (.pointer (some ⟨c,0+2+0+1,none⟩)) (.pointer (some ⟨m1.next,0,none⟩)) m4=some (m4.put c (caB p cm (.pointer (some ⟨c,0+2+0,none⟩)) (.pointer (some ⟨m1.next,0,none⟩)) 0 1)):=zt g4 (by simp) rfl rfl
 simp -implicitDefEqProofs only [st0,qc,reduceIte,nck,fa,lj0,lj1,t5]
 have g5:(m4.put c (caB p cm (.pointer (some ⟨c,0+2+0,none⟩)) (.pointer (some ⟨m1.next,0,none⟩)) 0 1)).get c=_:=Mem.qj ..
 have k5:(m4.put c (caB p cm (.pointer (some ⟨c,0+2+0,none⟩)) (.pointer (some ⟨m1.next,0,none⟩)) 0 1)).get cm=_:=(Mem.qo m4 _ (fun e=>ne1 e.symm)).trans k4
 have j5:(m4.put c (caB p cm (.pointer (some ⟨c,0+2+0,none⟩)) (.pointer (some ⟨m1.next,0,none⟩)) 0 1)).get m1.next=_:=(Mem.qo m4 _ lkc).trans j4
 have u5:Upd [c,cm] m (m4.put c (caB p cm (.pointer (some ⟨c,0+2+0,none⟩)) (.pointer (some ⟨m1.next,0,none⟩)) 0 1)):=(u1.qE u4).jP _ (.inl (by simp))
 generalize (m4.put c (caB p cm (.pointer (some ⟨c,0+2+0,none⟩)) (.pointer (some ⟨m1.next,0,none⟩)) 0 1))=m5 at g5 k5 j5 u5
 have t6:qi 1 (.pointer (some ⟨c,0+2+0+0,none⟩)) (.pointer (some ⟨m1.next,0,none⟩)) m5=some (m5.put c (caB p cm (.pointer (some ⟨m1.next,0,none⟩)) (.pointer (some ⟨m1.next,0,none⟩)) 0 1)):=zt g5 (by simp) rfl rfl
 simp -implicitDefEqProofs only [st0,qc,reduceIte,nck,fa,t6]
 have g6:(m5.put c (caB p cm (.pointer (some ⟨m1.next,0,none⟩)) (.pointer (some ⟨m1.next,0,none⟩)) 0 1)).get c=_:=Mem.qj ..
 have k6:(m5.put c (caB p cm (.pointer (some ⟨m1.next,0,none⟩)) (.pointer (some ⟨m1.next,0,none⟩)) 0 1)).get cm=_:=(Mem.qo m5 _ (fun e=>ne1 e.symm)).trans k5
 have j6:(m5.put c (caB p cm (.pointer (some ⟨m1.next,0,none⟩)) (.pointer (some ⟨m1.next,0,none⟩)) 0 1)).get m1.next=_:=(Mem.qo m5 _ lkc).trans j5
 have u6:Upd [c,cm] m (m5.put c (caB p cm (.pointer (some ⟨m1.next,0,none⟩)) (.pointer (some ⟨m1.next,0,none⟩)) 0 1)):=u5.jP _ (.inl (by simp))
 generalize (m5.put c (caB p cm (.pointer (some ⟨m1.next,0,none⟩)) (.pointer (some ⟨m1.next,0,none⟩)) 0 1))=m6 at g6 k6 j6 u6
 have l4:qb (.pointer (some ⟨c,0+2+4,none⟩)) m6=some (.int .i64 0):=qu g6 rfl
 have t7:qi 1 (.pointer (some ⟨c,0+2+4,none⟩)) (.int .i64 1) m6=some (m6.put c (caB p cm (.pointer (some ⟨m1.next,0,none⟩)) (.pointer (some ⟨m1.next,0,none⟩)) 1 1)):=zt g6 (by simp) rfl rfl
 simp -implicitDefEqProofs only [st0,qc,reduceIte,nck,fa,l4,e01,t7]
 have g7:(m6.put c (caB p cm (.pointer (some ⟨m1.next,0,none⟩)) (.pointer (some ⟨m1.next,0,none⟩)) 1 1)).get c=_:=Mem.qj ..
 have k7:(m6.put c (caB p cm (.pointer (some ⟨m1.next,0,none⟩)) (.pointer (some ⟨m1.next,0,none⟩)) 1 1)).get cm=_:=(Mem.qo m6 _ (fun e=>ne1 e.symm)).trans k6
 have j7:(m6.put c (caB p cm (.pointer (some ⟨m1.next,0,none⟩)) (.pointer (some ⟨m1.next,0,none⟩)) 1 1)).get m1.next=_:=(Mem.qo m6 _ lkc).trans j6
 have u7:Upd [c,cm] m (m6.put c (caB p cm (.pointer (some ⟨m1.next,0,none⟩)) (.pointer (some ⟨m1.next,0,none⟩)) 1 1)):=u6.jP _ (.inl (by simp))
 generalize (m6.put c (caB p cm (.pointer (some ⟨m1.next,0,none⟩)) (.pointer (some ⟨m1.next,0,none⟩)) 1 1))=m7 at g7 k7 j7 u7
 have ln:qb (.pointer (some ⟨m1.next,0+2+0,none⟩)) m7=some (.int .i64 0):=qu j7 rfl
 have hmu:xf .int (.map (some cm)) (.int .i64 0) (.pointer (some ⟨m1.next,0,none⟩)) m7=some (m7.put cm ⟨.map [{ key:=.int .i64 0,val:=.pointer (some ⟨m1.next,0,none⟩),born:=0 }] 1,false,none⟩):=by
  have:m7.vj cm=some ([],0,none):=by simp [Mem.vj,k7]
  simp only [xf,this,Option.bind_some,XV,if_true]; rfl
 have g8:(m7.put cm ⟨.map [{ key:=.int .i64 0,val:=.pointer (some ⟨m1.next,0,none⟩),born:=0 }] 1,false,none⟩).get c=_:=(Mem.qo m7 _ ne1).trans g7
 have l8:qb (.pointer (some ⟨c,0+2+4,none⟩)) (m7.put cm ⟨.map [{ key:=.int .i64 0,val:=.pointer (some ⟨m1.next,0,none⟩),born:=0 }] 1,false,none⟩)=some (.int .i64 1):=qu g8 rfl
 have l81:qb (.pointer (some ⟨c,0+1,none⟩)) (m7.put cm ⟨.map [{ key:=.int .i64 0,val:=.pointer (some ⟨m1.next,0,none⟩),born:=0 }] 1,false,none⟩)=some (.int .i64 8):=qu g8 rfl
 have e18:((8:Int)<1)=False:=eq_false (by omega)
 simp -implicitDefEqProofs only [st0,qc,reduceIte,nck,fa,l7 g7,ln,hmu,l8,l81,e18]
 exact ⟨trivial,⟨_,g8⟩,u7.jP _ (.inl (by simp))⟩
theorem qhj (s:Bs) (b:Nat):qz [.int .u8 0,.int .u8 0,.int .u8 0,.int .u8 0,.int .u8 0,.int .u8 0,.int .u8 0,.int .u8 0,.int .u8 0,.int .u8 0,.int .u8 0,.int .u8 0,.int .u8 0,.int .u8 0,.int .u8 0,.int .u8 0,.int .u8 0,.int .u8 0,.int .u8 0,.int .u8 0,.string ⟨#[]⟩,.map none] [(20,1,str s),(21,1,.map (some b))]=some [.int .u8 0,.int .u8 0,.int .u8 0,.int .u8 0,.int .u8 0,.int .u8 0,.int .u8 0,.int .u8 0,.int .u8 0,.int .u8 0,.int .u8 0,.int .u8 0,.int .u8 0,.int .u8 0,.int .u8 0,.int .u8 0,.int .u8 0,.int .u8 0,.int .u8 0,.int .u8 0,str s,.map (some b)]:=by kernel_rfl
theorem qhi (c:Nat) (s:Bs) (b:Nat):qz [.pointer none,.int .u8 0,.int .u8 0,.int .u8 0,.int .u8 0,.int .u8 0,.int .u8 0,.int .u8 0,.int .u8 0,.int .u8 0,.int .u8 0,.int .u8 0,.int .u8 0,.int .u8 0,.int .u8 0,.int .u8 0,.int .u8 0,.int .u8 0,.int .u8 0,.int .u8 0,.int .u8 0,.string ⟨#[]⟩,.map none,.slice none 0 0,.bool false] [(0,1,.pointer (some ⟨c,0,none⟩)),(1,22,.agg [.int .u8 0,.int .u8 0,.int .u8 0,.int .u8 0,.int .u8 0,.int .u8 0,.int .u8 0,.int .u8 0,.int .u8 0,.int .u8 0,.int .u8 0,.int .u8 0,.int .u8 0,.int .u8 0,.int .u8 0,.int .u8 0,.int .u8 0,.int .u8 0,.int .u8 0,.int .u8 0,str s,.map (some b)].toArray)] =
  some [.pointer (some ⟨c,0,none⟩),.int .u8 0,.int .u8 0,.int .u8 0,.int .u8 0,.int .u8 0,.int .u8 0,.int .u8 0,.int .u8 0,.int .u8 0,.int .u8 0,.int .u8 0,.int .u8 0,.int .u8 0,.int .u8 0,.int .u8 0,.int .u8 0,.int .u8 0,.int .u8 0,.int .u8 0,.int .u8 0,str s,.map (some b),.slice none 0 0,.bool false]:=by kernel_rfl
abbrev vt (w pm c p P:Nat):Wo:=⟨w,pm,c,p,P,qs 20,qs 236,.slice none 0 0,[]⟩
theorem Hh (w pm c p P:Nat):[.pointer (some ⟨c,0,none⟩),.int .u8 0,.int .u8 0,.int .u8 0,.int .u8 0,.int .u8 0,.int .u8 0,.int .u8 0,.int .u8 0,.int .u8 0,.int .u8 0,.int .u8 0,.int .u8 0,.int .u8 0,.int .u8 0,.int .u8 0,.int .u8 0,.int .u8 0,.int .u8 0,.int .u8 0,.int .u8 0,str (qs 236),.map (some pm),.slice none 0 0,.bool false]=(vt w pm c p P).cells:=by kernel_rfl
set_option maxRecDepth 4000 in
theorem qdO {c cm p d n:Nat} {v:Value} {m:Mem} (gc:m.get c=some (caB p cm (.pointer (some ⟨c,0+2+0,none⟩)) (.pointer (some ⟨c,0+2+0,none⟩)) 0 0)) (gm:m.get cm=some ⟨.map [] 0,false,none⟩) (gp:m.get p=some (pgB d v)) (hv:TAp zk 9 m v (List.replicate n (qs 256))) (hn:1≤n) (hn2:n≤160) (hlt:c<m.next∧cm<m.next∧p<m.next) (hne:c≠cm∧c≠p∧cm≠p) :
  W (Call S tab 40 [.pointer (some ⟨c,0,none⟩)] m) fun r m'=>∃ w pm,r=.tuple #[.pointer (some ⟨w,0,none⟩),.int .i64 0]∧WI (vt w pm c p n) [] m'∧m.next≤w∧m.next≤pm∧Upd [c,cm] m m':=by
 have d0:decide ((0:Int)=0)=true:=rfl
 have hs:zJ (str (qs 256)) (some (.int .i64 20)) none=some (str (qs 236)):=wC (l:=qs 256) (a:=20) (by rw [xW]; omega) .i64
 rw [C40]
 simp -implicitDefEqProofs only [st0,qc,reduceIte,yT]
 refine qn.2 ((qdK gc gm gp hv hn hlt hne).mono fun r1 m1 ⟨r1e,⟨rs,gc1⟩,u1⟩=>?_)
 subst r1e
 have x1:=u1.next
 obtain ⟨lc,lm,lp⟩:=hlt
 obtain ⟨ne1,ne2,ne3⟩:=hne
 have gp1:m1.get p=_:=(u1.same p lp (by simp; omega)).trans gp
 simp -implicitDefEqProofs only [st0,qc,reduceIte,xt0,xt1,d0,hs,zK,qhj,qhi,qR,Hh m1.next m1.next c p n]
 have u2:Upd [] m1 (m1.add ⟨.map [] 0,false,none⟩):=Upd.add _ _ _
 have g2:(m1.add ⟨.map [] 0,false,none⟩).get m1.next=some ⟨.map [] 0,false,none⟩:=Mem.qk ..
 have n2:(m1.add ⟨.map [] 0,false,none⟩).next=m1.next+1:=rfl
 have gc2:=qx u2 (by omega) gc1
 have gp2:=qx u2 (by omega) gp1
 generalize (m1.add ⟨.map [] 0,false,none⟩)=m2 at u2 g2 n2 gc2 gp2
 have u3:Upd [] m2 (m2.add ⟨.cells (vt m1.next m1.next c p n).cells 107,false,none⟩):=Upd.add _ _ _
 have g3:(m2.add ⟨.cells (vt m1.next m1.next c p n).cells 107,false,none⟩).get m2.next=some ⟨.cells (vt m1.next m1.next c p n).cells 107,false,none⟩:=Mem.qk ..
 have n3:(m2.add ⟨.cells (vt m1.next m1.next c p n).cells 107,false,none⟩).next=m2.next+1:=rfl
 have k3:=qx u3 (by omega) g2
 have gc3:=qx u3 (by omega) gc2
 have gp3:=qx u3 (by omega) gp2
 generalize (m2.add ⟨.cells (vt m1.next m1.next c p n).cells 107,false,none⟩)=m3 at u3 g3 n3 k3 gc3 gp3
 have hcp:kQ 1 (.slice (some ⟨m2.next,0+1+0,none⟩) 20 20) 256 (je.flat (qs 256)) m3=some (.int .i64 20,m3.put m2.next ⟨.cells (vt m1.next m1.next c p n).cells 107,false,none⟩):=by
  have how:m3.jw m2.next=some ((vt m1.next m1.next c p n).cells,107,none):=by simp [Mem.jw,g3]
  have hlen:(vt m1.next m1.next c p n).cells.length=25:=Wo.len (xW 20)
  have hfl:(je.flat (qs 256)).length=256:=by rw [Enc.zg,xW]; rfl
  have hmin:Nat.min 256 20=20:=rfl
  have hset:qQ (vt m1.next m1.next c p n).cells (0+1+0) ((je.flat (qs 256)).take (20 * 1))=(vt m1.next m1.next c p n).cells:=by kernel_rfl
  simp only [kQ,hmin,how,Option.bind_some]
  rw [if_neg (by omega),if_pos ⟨by rw [hlen]; omega,by omega,by rw [hfl],Enc.vS ..⟩,hset]
  rfl
 simp -implicitDefEqProofs only [st0,qc,reduceIte,nck,fa,slA g3,HU,xW,hcp]
 have u4:Upd [m2.next] m3 (m3.put m2.next ⟨.cells (vt m1.next m1.next c p n).cells 107,false,none⟩):=Upd.put _ _ (by simp)
 have g4:(m3.put m2.next ⟨.cells (vt m1.next m1.next c p n).cells 107,false,none⟩).get m2.next=some ⟨.cells (vt m2.next m1.next c p n).cells 107,false,none⟩:=Mem.qj ..
 have n4:(m3.put m2.next ⟨.cells (vt m1.next m1.next c p n).cells 107,false,none⟩).next=m3.next:=rfl
 have k4:=(u4.same m1.next (by omega) (by simp; omega)).trans k3
 have gc4:=(u4.same c (by omega) (by simp; omega)).trans gc3
 have gp4:=(u4.same p (by omega) (by simp; omega)).trans gp3
 have hbit:∀ k,xV (qs 20) k=false:=fun k=>by
  unfold xV
  rw [List.getD_eq_getElem?_getD,qs,List.getElem?_replicate]
  split<;>simp
 have hvf:∃ a cap,v=.slice a n cap:=by
  rcases hv with ⟨_,h0⟩|⟨b,cap,rest,lo,hv,_⟩
  ·have:=congrArg List.length h0; simp at this; omega
  ·exact ⟨_,cap,by rw [hv,List.length_replicate]⟩
 obtain ⟨a,cap,rfl⟩:=hvf
 refine ⟨m2.next,m1.next,rfl,⟨⟨g4,xW 20,⟨0,none,k4⟩,⟨rs,_,_,_,gc4⟩,⟨_,a,cap,_,_,_,_,gp4⟩,hn2,by show m2.next<_; omega,by show m1.next<_; omega,by show c<_; omega,by show p<_; omega,⟨by show m2.next≠m1.next; omega,by show m2.next≠c; omega,by show m2.next≠p; omega,by show m1.next≠c; omega,by show m1.next≠p; omega⟩⟩,TAp.nil _,fun b hb=>by simp [qg] at hb,fun k=>?_⟩,by omega,by omega,((u1.qE u2).qE u3).then' u4 fun b hb=>.inr (by simp at hb; omega)⟩
 simp [Wo.s,Wo.has,hbit]
theorem XX {n:Nat} (hn1:1≤n) (hn:n≤160) (m:Mem):W (Call S tab 16 [.int .i64 (n:Int)] m) fun r m'=>∃ w pm c p,r=.pointer (some ⟨w,0,none⟩)∧WI (vt w pm c p n) [] m'∧(m.next≤w∧m.next≤pm∧m.next≤c∧m.next≤p)∧Upd [] m m':=by
 have d0:decide ((0:Int)=0)=true:=rfl
 rw [C16]
 simp -implicitDefEqProofs only [st0,qc,reduceIte,qac n (by omega)]
 refine qn.2 ((qfs n hn m).mono fun r1 m1 ⟨d,sb,um,r1e,hdv,hd1,u1⟩=>?_)
 subst r1e
 have x1:=u1.next
 refine qn.2 ((qcN hn1 hn hdv).mono fun r2 m2 ⟨p,v,r2e,gp,lp,hv,hp1,u2⟩=>?_)
 subst r2e
 have x2:=u2.next
 simp -implicitDefEqProofs only [st0,qc,reduceIte,xt0,xt1,d0]
 refine qn.2 ((qfu p m2).mono fun r3 m3 ⟨c,cm,r3e,gc,gm,lc,lm,hcm,hc1,hc2,u3⟩=>?_)
 subst r3e
 have x3:=u3.next
 have gp3:=qx u3 lp gp
 refine qn.2 ((qdO gc gm gp3 (hv.qt u3) hn1 hn ⟨lc,lm,by omega⟩ ⟨hcm,by omega,by omega⟩).mono fun r4 m4 ⟨w,pm,r4e,hwi,hw1,hw2,u4⟩=>?_)
 subst r4e
 simp -implicitDefEqProofs only [st0,qc,reduceIte,xt0,xt1,d0]
 exact ⟨w,pm,c,p,rfl,hwi,⟨by omega,by omega,by omega,by omega⟩,((u1.qE u2).qE u3).then' u4 fun b hb=>.inr (by simp at hb; omega)⟩
end Go.Fx.Tryz
namespace Go.Fx.Tryz
open Go Go.Fx
theorem WH (x y:UInt8) (a b:Bs):ltB (x::a) (y::b)=(decide (x<y)||(decide (x=y)&&ltB a b)):=by
 simp [ltB,List.cons_lt_cons_iff]
theorem qhI (x y:UInt8):decide ((x.toNat:Int)<(y.toNat:Int))=decide (x<y):=by
 have:(x<y)↔(x.toNat<y.toNat):=UInt8.lt_iff_toNat_lt
 simp [this]
theorem u8_eq (x y:UInt8):decide ((x.toNat:Int)=(y.toNat:Int))=decide (x=y):=by
 have:x=y↔x.toNat=y.toNat:=UInt8.toNat_inj.symm
 have h2:((x.toNat:Int)=(y.toNat:Int))↔x.toNat=y.toNat:=by omega
 simp only [this,h2]
theorem Hy (m:Mem):∀ (a c b:Bs),(c++a).length≤65536→W (qaA (str (c++a)) (str (c++b)) (.int .i64 (c.length:Int)) m) fun r m'=>r=.bool (ltB a b)∧m'=m:=by
 intro a
 induction a with
 | nil =>
  intro c b hl
  have e1:((c.length:Int)<((c++[]).length:Int))=False:=eq_false (by simp)
  have e2:decide (((c++([]:Bs)).length:Int)<((c++b).length:Int))=ltB [] b:=by
   cases b with
   | nil=>simp [ltB]
   | cons y b =>
    have:ltB [] (y::b)=true:=by simp [ltB]
    rw [this]; exact decide_eq_true (by simp; omega)
  rw [P54_0_eq]
  simp -implicitDefEqProofs only [st0,qc,reduceIte,zz,e1]
  rw [P54_1_eq]
  simp -implicitDefEqProofs only [st0,qc,reduceIte,zz,e2]
  exact ⟨trivial,trivial⟩
 | cons x a ih =>
  intro c b hl
  have e1:((c.length:Int)<((c++x::a).length:Int))=True:=eq_true (by simp; omega)
  cases b with
  | nil =>
   have e2:((c.length:Int)<((c++([]:Bs)).length:Int))=False:=eq_false (by simp)
   have e3:decide (((c++x::a).length:Int)<((c++([]:Bs)).length:Int))=ltB (x::a) []:=by
    have:ltB (x::a) []=false:=by simp [ltB]
    rw [this]; exact decide_eq_false (by simp; omega)
   rw [P54_0_eq]
   simp -implicitDefEqProofs only [st0,qc,reduceIte,zz,e1,e2]
   rw [P54_1_eq]
   simp -implicitDefEqProofs only [st0,qc,reduceIte,zz,e3]
   exact ⟨trivial,trivial⟩
  | cons y b =>
   have e2:((c.length:Int)<((c++y::b).length:Int))=True:=eq_true (by simp; omega)
   have i1:=ZW (l:=c++x::a) (i:=c.length) (b:=x) (by rw [List.getElem?_append_right (Nat.le_refl _),Nat.sub_self]; rfl)
   have i2:=ZW (l:=c++y::b) (i:=c.length) (b:=y) (by rw [List.getElem?_append_right (Nat.le_refl _),Nat.sub_self]; rfl)
   rw [P54_0_eq]
   by_cases hxy:x=y
   ·subst hxy
    have e3:decide ((x.toNat:Int)=(x.toNat:Int))=true:=decide_eq_true rfl
    simp -implicitDefEqProofs only [st0,qc,reduceIte,zz,e1,e2,i1,i2,e3,qD (i:=c.length) (show c.length<2 ^ 62 by simp at hl; omega)]
    have:=ih (c++[x]) b (by simpa using hl)
    simp only [List.append_assoc,List.singleton_append,List.length_append,List.length_cons,List.length_nil] at this
    have hc:ltB (x::a) (x::b)=ltB a b:=by rw [WH]; simp
    rw [hc]; exact this
   ·have e3:decide ((x.toNat:Int)=(y.toNat:Int))=false:=by rw [u8_eq]; exact decide_eq_false hxy
    simp -implicitDefEqProofs only [st0,qc,reduceIte,zz,e1,e2,i1,i2,e3,qhI]
    refine ⟨?_,trivial⟩
    rw [WH,decide_eq_false hxy]; simp
theorem QG (a b:Bs) (ha:a.length≤65536) (m:Mem):Call S tab 54 [str a,str b] m=some (.bool (ltB a b),m):=by
 refine W_eq ?_
 rw [C54]
 exact Hy m a [] b (by simpa using ha)
theorem qdU {l:List Pr} {key:Bs} {i:Nat} (hr:qH (l.map (·.1))=true) (hp:∀ x∈l.take i,ltB x.1 key=true) (hi:i<l.length) (hn:ltB l[i].1 key=false):zc l key=i:=by
 have h1:∀ x∈l.drop i,ltB x.1 key=false:=fun x hx=>by
  have hr':=xD _ i hr
  rw [← List.map_drop,List.drop_eq_getElem_cons hi,List.map_cons] at hr'
  rw [List.drop_eq_getElem_cons hi] at hx
  rcases List.mem_cons.1 hx with rfl|hx
  ·exact hn
  ·exact zL (vP hn ((qK hr').2 x.1 (List.mem_map_of_mem hx)))
 have:=kX (a:=l.take i) (b:=[]) (c:=l.drop i) hp h1
 rw [List.nil_append,List.take_append_drop,List.length_take] at this
 have h0:zc [] key=0:=rfl
 rw [this,h0]; omega
abbrev plB (a:Value) (root:Nat) (v:Value):ABlk:=⟨.cells [a,.int .i64 (root:Int),v] 36,false,none⟩
theorem qbJ {lo:Nat} {m:Mem} {v:Value} {l:List Pr} (h:RSl lo qI m v l) {i:Nat} {p:Pr} (hi:l[i]? = some p):∃ b off,ql 2 v (.int .i64 (i:Int))=some (.pointer (some ⟨b,off,none⟩))∧∀ M,RSl lo qI M v l→qb (.pointer (some ⟨b,off+0,none⟩)) M=some (str p.1)∧qb (.pointer (some ⟨b,off+1,none⟩)) M=some (str p.2)∧qm 2 (.pointer (some ⟨b,off,none⟩)) M=some (.agg #[str p.1,str p.2]):=by
 obtain ⟨b,off,h1,h2⟩:=h.1.at .i64 hi
 rw [qU] at h1 h2
 exact ⟨b,off,h1,fun M hM=>⟨(h2 M hM.1).2 0 _ rfl,(h2 M hM.1).2 1 _ rfl,(h2 M hM.1).1⟩⟩
section
variable {pb root:Nat} {a v:Value} {l:List Pr} {m:Mem}
theorem jj {M:Mem} (g:M.get pb=some (plB a root v)):qb (.pointer (some ⟨pb,0+2+0,none⟩)) M=some v:=qu g rfl
theorem Hb {key:Bs} (hr:rowP l) (hl:l.length≤100000) (g:m.get pb=some (plB a root v)) (hv:RSl 0 qI m v l):∀ (n i:Nat),l.length - i=n→i≤l.length→(∀ x∈l.take i,ltB x.1 key=true) →
  W (qaB (.pointer (some ⟨pb,0+2,none⟩)) (str key) (.int .i64 (i:Int)) m) fun r m'=>r=.tuple #[.int .i64 ((zc l key:Nat):Int),.bool (zm l key)]∧m'=m:=by
 intro n
 induction n with
 | zero =>
  intro i hd hi hp
  obtain rfl:i=l.length:=by omega
  rw [List.take_length] at hp
  have ha:zc l key=l.length:=by
   have:=kX (a:=l) (b:=[]) (c:=[]) hp (fun x hx=>by cases hx)
   rw [List.nil_append,List.append_nil] at this
   rw [this]; rfl
  have ht:zm l key=false:=by unfold zm; rw [ha,List.getElem?_eq_none (Nat.le_refl _)]
  rw [P52_0_eq]
  simp -implicitDefEqProofs only [st0,qc,reduceIte,nck,fa,jj g,qS hv,Int.lt_irrefl]
  rw [P52_1_eq]
  simp -implicitDefEqProofs only [st0,qc,reduceIte,nck,fa,jj g,qS hv,Int.lt_irrefl]
  rw [ha,ht]
  exact ⟨rfl,trivial⟩
 | succ n ih =>
  intro i hd hi hp
  have hlt:i<l.length:=by omega
  have e1:((i:Int)<(l.length:Int))=True:=eq_true (by omega)
  obtain ⟨b,off,y1,y2⟩:=qbJ hv (xS hlt)
  have y2:=(y2 m hv).1
  have hkl:l[i].1.length≤65536:=by
   have:=(xi hr.1 i (by simpa using hlt)).2.1
   rw [List.getElem_map] at this; omega
  rw [P52_0_eq]
  cases hc:ltB l[i].1 key with
  | true =>
   have ha:=QG l[i].1 key hkl m
   rw [hc] at ha
   simp -implicitDefEqProofs only [st0,qc,reduceIte,nck,fa,jj g,qS hv,e1,y1,y2,ha,qD (i:=i) (by omega)]
   refine ih (i+1) (by omega) hlt fun x hx=>?_
   rw [List.take_succ_eq_append_getElem hlt] at hx
   rcases List.mem_append.1 hx with hx|hx
   ·exact hp x hx
   ·simp at hx; subst hx; exact hc
  | false =>
   have ha:=QG l[i].1 key hkl m
   rw [hc] at ha
   have hai:=qdU hr.1 hp hlt hc
   have ht:zm l key=decide (l[i].1=key):=by unfold zm; rw [hai,List.getElem?_eq_getElem hlt]
   simp -implicitDefEqProofs only [st0,qc,reduceIte,nck,fa,jj g,qS hv,e1,y1,y2,ha]
   rw [P52_1_eq]
   simp -implicitDefEqProofs only [st0,qc,reduceIte,nck,fa,jj g,qS hv,e1,y1,y2,kr]
   rw [hai,ht]
   exact ⟨rfl,trivial⟩
theorem yc {key:Bs} (hr:rowP l) (hl:l.length≤100000) (g:m.get pb=some (plB a root v)) (hv:RSl 0 qI m v l):Call S tab 52 [.pointer (some ⟨pb,0+2,none⟩),str key] m=some (.tuple #[.int .i64 ((zc l key:Nat):Int),.bool (zm l key)],m):=by
 refine W_eq ?_
 rw [C52]
 exact Hb hr hl g hv _ 0 rfl (Nat.zero_le _) (by simp)
theorem qeI {key:Bs} (hr:rowP l) (hl:l.length≤100000) (g:m.get pb=some (plB a root v)) (hv:RSl 0 qI m v l):Call S tab 20 [.pointer (some ⟨pb,0+2,none⟩),str key] m=some (.tuple #[str (QN l key),.bool (zm l key)],m):=by
 refine W_eq ?_
 rw [C20]
 cases ht:zm l key with
 | false =>
  have hp:=yc (key:=key) hr hl g hv
  rw [ht] at hp
  simp -implicitDefEqProofs only [st0,qc,reduceIte,hp,xt0,xt1]
  refine ⟨?_,trivial⟩
  unfold QN; rw [ht]; rfl
 | true =>
  have hp:=yc (key:=key) hr hl g hv
  rw [ht] at hp
  have hlt:=xX ht
  obtain ⟨b,off,y1,y2⟩:=qbJ hv (xS hlt)
  simp -implicitDefEqProofs only [st0,qc,reduceIte,hp,xt0,xt1,nck,fa,jj g,y1,(y2 m hv).2.1]
  refine ⟨?_,trivial⟩
  unfold QN
  rw [ht,if_pos rfl,List.getD_eq_getElem?_getD,List.getElem?_eq_getElem hlt]; rfl
theorem qcM (l:List Pr) (key val:Bs):xT l key val=l.take (zc l key)++[(key,val)]++l.drop (zc l key+(if zm l key then 1 else 0)):=by
 unfold xT xw
 cases ht:zm l key with
 | false=>simp
 | true =>
  have hlt:=xX ht
  simp only [if_true]
  rw [List.eraseIdx_eq_take_drop_succ,List.take_append_of_le_length (by rw [List.length_take]; omega),List.take_take,Nat.min_self,List.drop_append,List.length_take]
  rw [show zc l key - min (zc l key) l.length=0 by omega,List.drop_of_length_le (by rw [List.length_take]; omega)]
  simp
structure PL (pb:Nat) (a:Value) (root:Nat) (v:Value) (l:List Pr) (m:Mem):Prop where
 g:m.get pb=some (plB a root v)
 tv:TAp qI 61 m v l
 lt:pb<m.next
 ne:pb∉qg v
theorem PL.rs (h:PL pb a root v l m):RSl 0 qI m v l:=h.tv.rsl fun b _=>Nat.zero_le _
theorem qfp (k s:Bs):qz [.string ⟨#[]⟩,.string ⟨#[]⟩] [(0,1,str k),(1,1,str s)]=some [str k,str s]:=by kernel_rfl
set_option maxRecDepth 4000 in
theorem qeF {key val:Bs} (hr:rowP l) (hl:l.length≤100000) (h:PL pb a root v l m):W (Call S tab 44 [.pointer (some ⟨pb,0+2,none⟩),str key,str val] m) fun r m'=>r=.tuple #[]∧∃ v',PL pb a root v' (xT l key val) m'∧(∀ b∈qg v',b∈qg v∨m.next≤b)∧Upd [pb] m m':=by
 have hp:=yc (key:=key) hr hl h.g h.rs
 have hale:=yx l key
 have hle:zc l key+(if zm l key then 1 else 0)≤l.length:=by
  split
  ·rename_i ht; have:=xX ht; omega
  ·omega
 have key1:∀ k:Nat,k=zc l key+(if zm l key then 1 else 0)→W (qaC (.pointer (some ⟨pb,0+2,none⟩)) (str key) (str val) (.int .i64 ((zc l key:Nat):Int)) (.int .i64 (k:Int)) m) fun r m'=>r=.tuple #[]∧∃ v',PL pb a root v' (xT l key val) m'∧(∀ b∈qg v',b∈qg v∨m.next≤b)∧Upd [pb] m m':=fun k hk=>by
  rw [qcM,← hk]
  rw [← hk] at hle
  have ub:Upd [] m (m.zw 23):=Upd.zw _ _ _
  have nb:(m.zw 23).next=m.next+23:=rfl
  have gb:=qx ub h.lt h.g
  have hvb:=h.tv.qt ub
  obtain ⟨v1,s1,s2,s3⟩:=hvb.tsl.VV (k:=zc l key) hale
  rw [qU] at s1
  obtain ⟨v2,w1,w2,w3⟩:=hvb.from (k:=k) hle
  rw [qU] at w1
  have hlt:=h.lt
  have hne:=h.ne
  have hvlt:=h.tv.lt
  rw [P44_0_eq]
  simp -implicitDefEqProofs only [st0,qc,reduceIte,nck,fa,jj gb,s1]
  generalize hmb:m.zw 23=mb at ub nb gb hvb s2 w1 w2
  refine jA (E:=qI) (l:=[]) (l.take (zc l key)) (by decide) (TAp.nil mb) s2.src (by simp; omega) fun v3 m3 q1 q2 q3=>?_
  rw [List.nil_append] at q1
  have q2:Upd [] mb m3:=q2
  have q3:∀ b∈qg v3,mb.next≤b:=fun b hb=>(q3 b hb).elim (fun h=>by simp [qg] at h) id
  have x3:=q2.next
  have g3:=qx q2 (by omega) gb
  simp -implicitDefEqProofs only [st0,qc,reduceIte,qfp,Jb (key,val)]
  have u4:Upd [m.next+11] m3 (m3.put (m.next+11) ⟨.cells (qI.flat [(key,val)]) 61,false,none⟩):=Upd.put _ _ (by simp)
  have t4:TAp qI 61 (m3.put (m.next+11) ⟨.cells (qI.flat [(key,val)]) 61,false,none⟩) (.slice (some ⟨m.next+11,0,none⟩) 1 1) [(key,val)]:=.inr ⟨m.next+11,1,[],none,rfl,by show m.next+11<m3.next; omega,by rw [List.append_nil]; exact Mem.qj ..,.inl rfl,rfl,Nat.le_refl _⟩
  have q14:=q1.upd u4 fun b hb hm=>by have:=q3 b hb; simp at hm; omega
  have n4:(m3.put (m.next+11) ⟨.cells (qI.flat [(key,val)]) 61,false,none⟩).next=m3.next:=rfl
  have g4:=(u4.same pb (by omega) (by simp; omega)).trans g3
  generalize (m3.put (m.next+11) ⟨.cells (qI.flat [(key,val)]) 61,false,none⟩)=m4 at u4 t4 q14 n4 g4
  refine jA (E:=qI) [(key,val)] (by decide) q14 t4.tsl.src (by simp; omega) fun v5 m5 r1 r2 r3=>?_
  have x5:=r2.next
  have g5:=(r2.same pb (by omega) (fun hm=>by have:=q3 _ hm; omega)).trans g4
  have r3:∀ b∈qg v5,mb.next≤b:=fun b hb=>(r3 b hb).elim (q3 b) (fun h=>by omega)
  have u35:Upd [m.next+11] mb m5:=(q2.nil'.trans u4).then' r2 fun b hb=>.inr (q3 b hb)
  have keepV:∀ b∈qg v,m5.get b=mb.get b:=fun b hb=>by have:=hvlt b hb; exact u35.same b (by omega) (by simp; omega)
  have w25:TSl qI m5 v2 (l.drop k):=w2.mono fun b hb=>keepV b (by rw [← w3]; exact hb)
  simp -implicitDefEqProofs only [st0,qc,reduceIte,nck,fa,jj g5,w1 m5 keepV]
  refine jA (E:=qI) (l.drop k) (by decide) r1 w25.src (by simp; omega) fun v6 m6 p1 p2 p3=>?_
  have x6:=p2.next
  have g6:=(p2.same pb (by omega) (fun hm=>by have:=r3 _ hm; omega)).trans g5
  have p3:∀ b∈qg v6,mb.next≤b:=fun b hb=>(p3 b hb).elim (r3 b) (fun h=>by omega)
  have st:qi 1 (.pointer (some ⟨pb,0+2+0,none⟩)) v6 m6=some (m6.put pb (plB a root v6)):=zt g6 (by simp) p1.one.1 p1.one.2
  simp -implicitDefEqProofs only [st0,qc,reduceIte,nck,fa,st]
  have hpb6:pb∉qg v6:=fun hm=>by have:=p3 _ hm; omega
  have up:Upd [pb] m6 (m6.put pb (plB a root v6)):=Upd.put _ _ (by simp)
  refine kh (fun r hr=>?_) (xx.2 ⟨rfl,v6,⟨Mem.qj ..,p1.upd up fun b hb hm=>by simp at hm; subst hm; exact hpb6 hb,by show pb<m6.next; omega,hpb6⟩,fun b hb=>.inr (by have:=p3 b hb; omega),?_⟩)
  ·have keepV3:∀ b∈qg v,m3.get b=mb.get b:=fun b hb=>by have:=hvlt b hb; exact q2.same b (by omega) (by simp)
   have keepV4:∀ b∈qg v,m4.get b=mb.get b:=fun b hb=>by have:=hvlt b hb; exact (u4.same b (by omega) (by simp; omega)).trans (keepV3 b hb)
   simp only [List.mem_cons,List.not_mem_nil,or_false] at hr
   rcases hr with rfl|rfl|rfl|rfl
   ·exact okR fun k _ hk=>by
     obtain rfl:k=0:=by omega
     exact ⟨_,rfl,jj gb⟩
   ·exact okR fun k _ hk=>by
     obtain rfl:k=0:=by omega
     exact ⟨_,rfl,s1 mb⟩
   ·exact okR fun k _ hk=>by
     have:k=0∨k=1∨k=2∨k=3:=by omega
     rcases this with rfl|rfl|rfl|rfl
     ·exact ⟨_,rfl,jj gb⟩
     ·exact ⟨_,rfl,jj g3⟩
     ·exact ⟨_,rfl,jj g4⟩
     ·exact ⟨_,rfl,jj g5⟩
   ·exact okR fun k _ hk=>by
     have:k=0∨k=1∨k=2∨k=3:=by omega
     rcases this with rfl|rfl|rfl|rfl
     ·exact ⟨_,rfl,w1 mb fun b hb=>rfl⟩
     ·exact ⟨_,rfl,w1 m3 keepV3⟩
     ·exact ⟨_,rfl,w1 m4 keepV4⟩
     ·exact ⟨_,rfl,w1 m5 keepV⟩
  ·exact (((ub.nil' (fp:=[pb])).then' u35 (fun b hb=>.inr (by simp at hb; omega))).then' p2 (fun b hb=>.inr (by have:=r3 b hb; omega))).trans up
 rw [C44]
 cases ht:zm l key with
 | true =>
  rw [ht] at hp
  simp -implicitDefEqProofs only [st0,qc,reduceIte,hp,xt0,xt1,qD (i:=zc l key) (by omega)]
  exact key1 _ (by rw [ht]; rfl)
 | false =>
  rw [ht] at hp
  simp -implicitDefEqProofs only [st0,qc,reduceIte,hp,xt0,xt1]
  exact key1 _ (by rw [ht]; rfl)
set_option maxRecDepth 4000 in
theorem XO {key:Bs} (hr:rowP l) (hl:l.length≤100000) (h:PL pb a root v l m):W (Call S tab 42 [.pointer (some ⟨pb,0+2,none⟩),str key] m) fun r m'=>r=.bool (zm l key)∧∃ v',PL pb a root v' (xw l key) m'∧(∀ b∈qg v',b∈qg v∨m.next≤b)∧Upd [pb] m m':=by
 have hp:=yc (key:=key) hr hl h.g h.rs
 rw [C42]
 cases ht:zm l key with
 | false =>
  rw [ht] at hp
  simp -implicitDefEqProofs only [st0,qc,reduceIte,hp,xt0,xt1]
  refine ⟨trivial,v,?_,fun b hb=>.inl hb,Upd.refl _ _⟩
  unfold xw; rw [ht,if_neg (by simp)]; exact h
 | true =>
  have hlt:=xX ht
  rw [ht] at hp
  have hcut:xw l key=l.take (zc l key)++l.drop (zc l key+1):=by
   unfold xw; rw [ht,if_pos rfl,List.eraseIdx_eq_take_drop_succ]
  obtain ⟨v1,s1,s2,s3⟩:=h.tv.tsl.VV (k:=zc l key) (by omega)
  rw [qU] at s1
  obtain ⟨v2,w1,w2,w3⟩:=h.tv.from (k:=zc l key+1) hlt
  rw [qU] at w1
  have hvlt:=h.tv.lt
  have hplt:=h.lt
  simp -implicitDefEqProofs only [st0,qc,reduceIte,hp,xt0,xt1,nck,fa,jj h.g,s1]
  refine jA (E:=qI) (l:=[]) (l.take (zc l key)) (by decide) (TAp.nil m) s2.src (by simp; omega) fun v3 m3 q1 q2 q3=>?_
  rw [List.nil_append] at q1
  have q2:Upd [] m m3:=q2
  have q3:∀ b∈qg v3,m.next≤b:=fun b hb=>(q3 b hb).elim (fun h=>by simp [qg] at h) id
  have g3:=qx q2 h.lt h.g
  have x3:=q2.next
  have keepV:∀ b∈qg v,m3.get b=m.get b:=fun b hb=>q2.same b (hvlt b hb) (by simp)
  have w23:TSl qI m3 v2 (l.drop (zc l key+1)):=w2.mono fun b hb=>keepV b (by rw [← w3]; exact hb)
  simp -implicitDefEqProofs only [st0,qc,reduceIte,nck,fa,jj g3,qD (i:=zc l key) (by omega),w1 m3 keepV]
  refine jA (E:=qI) (l.drop (zc l key+1)) (by decide) q1 w23.src (by simp; omega) fun v4 m4 r1 r2 r3=>?_
  have x4:=r2.next
  have g4:=(r2.same pb (by omega) (fun hm=>by have:=q3 _ hm; omega)).trans g3
  have r3:∀ b∈qg v4,m.next≤b:=fun b hb=>(r3 b hb).elim (q3 b) (fun h=>by omega)
  have st:qi 1 (.pointer (some ⟨pb,0+2+0,none⟩)) v4 m4=some (m4.put pb (plB a root v4)):=zt g4 (by simp) r1.one.1 r1.one.2
  simp -implicitDefEqProofs only [st0,qc,reduceIte,nck,fa,st]
  have hpb4:pb∉qg v4:=fun hm=>by have:=r3 _ hm; omega
  have up:Upd [pb] m4 (m4.put pb (plB a root v4)):=Upd.put _ _ (by simp)
  rw [hcut]
  refine kh (fun r hr=>?_) (xx.2 ⟨rfl,v4,⟨Mem.qj ..,r1.upd up fun b hb hm=>by simp at hm; subst hm; exact hpb4 hb,by show pb<m4.next; omega,hpb4⟩,fun b hb=>.inr (r3 b hb),?_⟩)
  ·simp only [List.mem_cons,List.not_mem_nil,or_false] at hr
   rcases hr with rfl|rfl|rfl|rfl
   ·exact okR fun k _ hk=>by
     obtain rfl:k=0:=by omega
     exact ⟨_,rfl,jj h.g⟩
   ·exact okR fun k _ hk=>by
     obtain rfl:k=0:=by omega
     exact ⟨_,rfl,s1 m⟩
   ·exact okR fun k _ hk=>by
     have:k=0∨k=1:=by omega
     rcases this with rfl|rfl
     ·exact ⟨_,rfl,jj h.g⟩
     ·exact ⟨_,rfl,jj g3⟩
   ·exact okR fun k _ hk=>by
     have:k=0∨k=1:=by omega
     rcases this with rfl|rfl
     ·exact ⟨_,rfl,w1 m fun b hb=>rfl⟩
     ·exact ⟨_,rfl,w1 m3 keepV⟩
  ·exact ((q2.nil' (fp:=[pb])).then' r2 (fun b hb=>.inr (q3 b hb))).trans up
end
end Go.Fx.Tryz
namespace Go.Fx.Tryz
open Go Go.Fx
section
variable {pb root:Nat} {a v:Value} {l:List Pr} {m:Mem}
theorem YV {s t:Bs} (hr:rowP l) (hl:l.length≤100000) {m0:Mem} (hpb:pb<m0.next) (hvlt:∀ b∈qg v,b<m0.next):∀ (n i:Nat) (m:Mem) (w:Value),l.length - i=n→i≤l.length→m.get pb=some (plB a root v)→RSl 0 qI m v l→TAp qI 61 m w (zj (l.take i) s t)→(∀ b∈qg w,m0.next≤b)→Upd [] m0 m →
  W (Jl (.pointer (some ⟨pb,0+2,none⟩)) (str s) (str t) w (.int .i64 (i:Int)) m) fun r m'=>TAp qI 61 m' r (zj l s t)∧(∀ b∈qg r,m0.next≤b)∧Upd [] m0 m':=by
 intro n
 induction n with
 | zero =>
  intro i m w hd hi g hv hw hwb hu
  obtain rfl:i=l.length:=by omega
  rw [List.take_length] at hw
  rw [P23_0_eq]
  simp -implicitDefEqProofs only [st0,qc,reduceIte,nck,fa,jj g,qS hv,Int.lt_irrefl]
  exact ⟨hw,hwb,hu⟩
 | succ n ih =>
  intro i m w hd hi g hv hw hwb hu
  have hlt:i<l.length:=by omega
  have e1:((i:Int)<(l.length:Int))=True:=eq_true (by omega)
  obtain ⟨b,off,y1,y2⟩:=qbJ hv (xS hlt)
  obtain ⟨z1,z2,z3⟩:=y2 m hv
  have hkl:l[i].1.length≤65536:=by
   have:=(xi hr.1 i (by simpa using hlt)).2.1
   rw [List.getElem_map] at this; omega
  have ha:=QG l[i].1 s hkl m
  have hb:=QG l[i].1 t hkl m
  have eq0:arith .eql (str t) (.string ⟨#[]⟩)=some (.bool (decide (t=[]))):=kr t []
  have hs:zj (l.take (i+1)) s t=zj (l.take i) s t++(if inF s t l[i] then [l[i]] else []):=by
   rw [List.take_succ_eq_append_getElem hlt,yf]
   cases hf:inF s t l[i]<;>simp [zj,hf]
  have hlen:(zj (l.take i) s t).length≤100000:=Nat.le_trans (List.length_filter_le ..) (by rw [List.length_take]; omega)
  have skip:inF s t l[i]=false→W (Jl (.pointer (some ⟨pb,0+2,none⟩)) (str s) (str t) w (.int .i64 ((i+1:Nat):Int)) m) fun r m'=>TAp qI 61 m' r (zj l s t)∧(∀ b∈qg r,m0.next≤b)∧Upd [] m0 m':=fun hf=>by
   refine ih (i+1) m w (by omega) hlt g hv ?_ hwb hu
   rw [hs,hf,if_neg (by simp),List.append_nil]; exact hw
  have take:inF s t l[i]=true→W ((qM 2 (.slice (some ⟨m.next,0,none⟩) 1 1) (m.add ⟨.cells (qI.flat [l[i]]) 61,false,none⟩)).bind fun p=>(qB 61 2 32 w p.1 p.2 (m.add ⟨.cells (qI.flat [l[i]]) 61,false,none⟩)).bind fun p29=>Jl (.pointer (some ⟨pb,0+2,none⟩)) (str s) (str t) p29.1 (.int .i64 ((i+1:Nat):Int)) p29.2) fun r m'=>TAp qI 61 m' r (zj l s t)∧(∀ b∈qg r,m0.next≤b)∧Upd [] m0 m':=fun hf=>by
   refine zT (E:=qI) [l[i]] (by decide) hw (by simp only [List.length_cons,List.length_nil]; omega) fun w2 m2 q1 q2 q3=>?_
   have hn:=hu.next
   have nv:∀ c,c<m0.next→c∉qg w:=fun c hc hm=>by have:=hwb c hm; omega
   refine ih (i+1) m2 w2 (by omega) hlt ((q2.same pb (by omega) (nv pb hpb)).trans g) (hv.zE q2 fun c hc=>nv c (hvlt c hc)) ?_ (fun c hc=>(q3 c hc).elim (hwb c) (fun h=>by omega)) (hu.then' q2 fun c hc=>.inr (hwb c hc))
   rw [hs,hf,if_pos rfl]; exact q1
  rw [P23_0_eq]
  cases c1:ltB l[i].1 s with
  | true =>
   have hf:inF s t l[i]=false:=by simp [inF,c1]
   rw [c1] at ha
   simp -implicitDefEqProofs only [st0,qc,reduceIte,nck,fa,jj g,qS hv,e1,y1,z1,ha,qD (i:=i) (by omega)]
   exact skip hf
  | false =>
   rw [c1] at ha
   by_cases c2:t=[]
   ·have hf:inF s t l[i]=true:=by simp [inF,c1,c2]
    have d2:decide (t=[])=true:=decide_eq_true c2
    simp -implicitDefEqProofs only [st0,qc,reduceIte,nck,fa,jj g,qS hv,e1,y1,z1,ha,eq0,d2,z3,Jb,qD (i:=i) (by omega)]
    exact take hf
   ·have d2:decide (t=[])=false:=decide_eq_false c2
    cases c3:ltB l[i].1 t with
    | true =>
     have hf:inF s t l[i]=true:=by simp [inF,c1,c3]
     rw [c3] at hb
     simp -implicitDefEqProofs only [st0,qc,reduceIte,nck,fa,jj g,qS hv,e1,y1,z1,ha,eq0,d2,hb,z3,Jb,qD (i:=i) (by omega)]
     exact take hf
    | false =>
     have hf:inF s t l[i]=false:=by simp [inF,c1,c2,c3]
     rw [c3] at hb
     simp -implicitDefEqProofs only [st0,qc,reduceIte,nck,fa,jj g,qS hv,e1,y1,z1,ha,eq0,d2,hb,qD (i:=i) (by omega)]
     exact skip hf
theorem qcG {s t:Bs} (hr:rowP l) (hl:l.length≤100000) (h:PL pb a root v l m):W (Call S tab 23 [.pointer (some ⟨pb,0+2,none⟩),str s,str t] m) fun r m'=>TAp qI 61 m' r (zj l s t)∧(∀ b∈qg r,m.next≤b)∧Upd [] m m':=by
 rw [C23]
 exact YV hr hl h.lt h.tv.lt _ 0 m _ rfl (Nat.zero_le _) h.g h.rs (TAp.nil _) (fun b hb=>by simp [qg] at hb) (Upd.refl _ _)
abbrev qjt:EqD:=.st [(0,(1,(false,(.sc .string)))),(1,(1,(false,(.sc .string))))]
theorem qeC (p:Pr):XI true qjt (.agg #[str p.1,str p.2]) (.agg #[str p.1,str p.2])=some (.bool false):=by
 have h:∀ s:Bs,((⟨s.toArray⟩:ByteArray) == ⟨s.toArray⟩)=true:=fun s=>by
  have:((⟨s.toArray⟩:ByteArray) == ⟨s.toArray⟩)=(s.toArray == s.toArray):=rfl
  rw [this]; simp
 simp only [XI,ZO,yI,partOf,str,Bool.false_eq_true,if_false,List.getElem?_toArray,List.getElem?_cons_zero,List.getElem?_cons_succ,qck,h]
 rfl
theorem qbl {lo:Nat} {x y:Value} (hl:l.length≤200000) (hx:RSl lo qI m x l) (hy:RSl lo qI m y l):∀ (n i:Nat),l.length - i=n→i≤l.length→W (qaN x y (.int .i64 (i:Int)) m) fun r m'=>r=.bool true∧m'=m:=by
 intro n
 induction n with
 | zero =>
  intro i hd hi
  obtain rfl:i=l.length:=by omega
  rw [P22_0_eq]
  simp -implicitDefEqProofs only [st0,qc,reduceIte,qS hx,Int.lt_irrefl]
  exact ⟨trivial,trivial⟩
 | succ n ih =>
  intro i hd hi
  have hlt:i<l.length:=by omega
  have e1:((i:Int)<(l.length:Int))=True:=eq_true (by omega)
  obtain ⟨b,off,y1,y2⟩:=qbJ hx (xS hlt)
  obtain ⟨b',off',y1',y2'⟩:=qbJ hy (xS hlt)
  rw [P22_0_eq]
  simp -implicitDefEqProofs only [st0,qc,reduceIte,qS hx,e1,y1,(y2 m hx).2.2,y1',(y2' m hy).2.2,qeC,qD (i:=i) (by omega)]
  exact ih (i+1) (by omega) hlt
theorem KS {lo:Nat} {x y:Value} (hl:l.length≤200000) (hx:RSl lo qI m x l) (hy:RSl lo qI m y l):Call S tab 22 [x,y] m=some (.bool true,m):=by
 refine W_eq ?_
 have d:decide ((l.length:Int)=(l.length:Int))=true:=decide_eq_true rfl
 rw [C22]
 simp -implicitDefEqProofs only [st0,qc,reduceIte,qS hx,qS hy,d]
 exact qbl hl hx hy _ 0 rfl (Nat.zero_le _)
instance (key val:Bs):Decidable (Kv key val):=inferInstanceAs (Decidable (_∧_))
theorem yO (key val:Bs) (m:Mem):Call S tab 43 [str key,str val] m=some (.bool (decide (Kv key val)),m):=by
 refine W_eq ?_
 rw [C43]
 by_cases c1:key=[]
 ·have e1:((1:Int)≤(key.length:Int))=False:=eq_false (by rw [c1]; simp)
  have hk:decide (Kv key val)=false:=decide_eq_false fun h=>h.1.1 c1
  simp -implicitDefEqProofs only [st0,qc,reduceIte,zz,e1,hk]
  exact ⟨trivial,trivial⟩
 ·have e1:((1:Int)≤(key.length:Int))=True:=eq_true (by have:=List.length_pos_iff.2 c1; omega)
  by_cases c2:key.length≤32
  ·have e2:((key.length:Int)≤32)=True:=eq_true (by omega)
   by_cases c3:val.length≤40
   ·have e3:((val.length:Int)≤40)=True:=eq_true (by omega)
    have hk:decide (Kv key val)=true:=decide_eq_true ⟨⟨c1,c2⟩,c3⟩
    simp -implicitDefEqProofs only [st0,qc,reduceIte,zz,e1,e2,e3,hk]
    exact ⟨trivial,trivial⟩
   ·have e3:((val.length:Int)≤40)=False:=eq_false (by omega)
    have hk:decide (Kv key val)=false:=decide_eq_false fun h=>c3 h.2
    simp -implicitDefEqProofs only [st0,qc,reduceIte,zz,e1,e2,e3,hk]
    exact ⟨trivial,trivial⟩
  ·have e2:((key.length:Int)≤32)=False:=eq_false (by omega)
   have hk:decide (Kv key val)=false:=decide_eq_false fun h=>c2 h.1.2
   simp -implicitDefEqProofs only [st0,qc,reduceIte,zz,e1,e2,hk]
   exact ⟨trivial,trivial⟩
end
structure PQ (pb:Nat) (o:Wo) (ns:List St) (root:Nat) (v:Value) (l:List Pr) (U:List Nat) (m:Mem):Prop where
 wi:WI o ns m
 pl:PL pb (.pointer (some ⟨o.w,0,none⟩)) root v l m
 tr:TrR o.s root l U
 nd:U.Nodup
 pn:pb∉o.xM∧pb≠o.c∧pb≠o.p
 vn:∀ b∈qg v,b∉o.xM
theorem TrR.row {s:Nat→Option Bs} {root:Nat} {l:List Pr} {U:List Nat} (h:TrR s root l U):rowP l:=by
 rcases h with ⟨_,rfl,_⟩|⟨g,h⟩
 ·exact ⟨rfl,by simp⟩
 ·exact qdW s g root [] none l U h
theorem TrR.few {o:Wo} (hP:o.P≤160) {root:Nat} {l:List Pr} {U:List Nat} (h:TrR o.s root l U) (hnd:U.Nodup):l.length≤100000:=by
 rcases h with ⟨_,rfl,_⟩|⟨g,h⟩
 ·simp
 ·have:=Xb o.s g root [] none l U h
  have:=(wu hP h hnd).2
  omega
theorem TrR.zE {s s':Nat→Option Bs} {root:Nat} {l:List Pr} {U:List Nat} (h:TrR s root l U) (hs:∀ q∈U,s' q=s q):TrR s' root l U:=by
 rcases h with h|⟨g,h⟩
 ·exact .inl h
 ·exact .inr ⟨g,xy g root [] none l U hs h⟩
theorem TrR.used {s:Nat→Option Bs} {root:Nat} {l:List Pr} {U:List Nat} (h:TrR s root l U):∀ q∈U,s q≠none:=by
 rcases h with ⟨_,_,rfl⟩|⟨g,h⟩
 ·intro q hq; cases hq
 ·exact vC s g root [] none l U h
structure Gs (pb:Nat) (o o':Wo) (m m':Mem):Prop where
 w:o'.w=o.w
 c:o'.c=o.c
 p:o'.p=o.p
 P:o'.P=o.P
 upd:Upd (pb::o.xM) m m'
 grow:∀ b∈o'.xM,b∈o.xM∨m.next≤b
theorem Gs.of {pb:Nat} {o o':Wo} {m m':Mem} (h:Nx o o' m m'):Gs pb o o' m m':=⟨h.w,h.c,h.p,h.P,h.upd.mono fun b hb _=>List.mem_cons.2 (.inr hb),h.grow⟩
theorem Gs.trans {pb:Nat} {o o' o'':Wo} {m m' m'':Mem} (h:Gs pb o o' m m') (k:Gs pb o' o'' m' m''):Gs pb o o'' m m'' :=
 ⟨k.w.trans h.w,k.c.trans h.c,k.p.trans h.p,k.P.trans h.P,h.upd.then' k.upd fun b hb=>(List.mem_cons.1 hb).elim (fun e=>.inl (by simp [e])) fun hb=>(h.grow b hb).imp (fun h=>List.mem_cons.2 (.inr h)) id,fun b hb=>(k.grow b hb).elim (h.grow b) fun hb=>.inr (Nat.le_trans h.upd.next hb)⟩
theorem Gs.put {pb:Nat} {o:Wo} {m m':Mem} (h:Upd [pb] m m'):Gs pb o o m m':=⟨rfl,rfl,rfl,rfl,h.mono fun b hb _=>by simp at hb; simp [hb],fun b hb=>.inl hb⟩
abbrev opV (key val:Bs) (gone:Bool):Value:=.agg #[str key,str val,.bool gone]
theorem PL.zE {pb root:Nat} {a v:Value} {l:List Pr} {m m':Mem} {fp:List Nat} (h:PL pb a root v l m) (hu:Upd fp m m') (h1:pb∉fp) (h2:∀ b∈qg v,b∉fp):PL pb a root v l m' :=
 ⟨(hu.same pb h.lt h1).trans h.g,h.tv.upd hu h2,Nat.lt_of_lt_of_le h.lt hu.next,h.ne⟩
theorem PL.root {pb root root':Nat} {a v:Value} {l:List Pr} {m:Mem} (h:PL pb a root v l m):qi 1 (.pointer (some ⟨pb,0+1,none⟩)) (.int .i64 (root':Int)) m=some (m.put pb (plB a root' v))∧PL pb a root' v l (m.put pb (plB a root' v))∧Upd [pb] m (m.put pb (plB a root' v)) :=
 ⟨zt h.g (by simp) rfl rfl,⟨Mem.qj ..,h.tv.upd (Upd.put (fp:=[pb]) _ _ (by simp)) fun b hb hm=>by simp at hm; subst hm; exact h.ne hb,h.lt,h.ne⟩,Upd.put _ _ (by simp)⟩
def StQ (pb:Nat) (o:Wo) (ns:List St) (v:Value) (U:List Nat) (m:Mem) (r:Value) (m':Mem):Prop :=
 r=.bool true∧∃ o' ns' root' v' l' U',PQ pb o' ns' root' v' l' U' m'∧ns'.length≤ns.length+1∧Gs pb o o' m m'∧Stp o.s o'.s U U'∧∀ b∈qg v',b∈qg v∨m.next≤b
set_option maxRecDepth 4000 in
theorem step_ok {pb:Nat} {o:Wo} {ns:List St} {root:Nat} {v:Value} {l:List Pr} {U:List Nat} {m:Mem} (h:PQ pb o ns root v l U m) (hns:ns.length≤80000) (key val:Bs) (gone:Bool) :
  W (Call S tab 17 [.pointer (some ⟨pb,0,none⟩),opV key val gone] m) (StQ pb o ns v U m):=by
 have hrow:=h.tr.row
 have hfew:=h.tr.few h.wi.wr.hP h.nd
 rw [C17]
 have u1:Upd [] m (m.add ⟨.cells [str key,str val,.bool gone] 42,false,none⟩):=Upd.add _ _ _
 have g1:(m.add ⟨.cells [str key,str val,.bool gone] 42,false,none⟩).get m.next=some ⟨.cells [str key,str val,.bool gone] 42,false,none⟩:=Mem.qk ..
 have n1:(m.add ⟨.cells [str key,str val,.bool gone] 42,false,none⟩).next=m.next+1:=rfl
 simp -implicitDefEqProofs only [st0,qc,reduceIte,qR]
 generalize (m.add ⟨.cells [str key,str val,.bool gone] 42,false,none⟩)=m1 at u1 g1 n1
 have wi1:=h.wi.qt u1
 have pl1:=h.pl.zE u1 (by simp) (fun _ _=>by simp)
 have ldk:∀ {M:Mem},M.get m.next=some ⟨.cells [str key,str val,.bool gone] 42,false,none⟩→qb (.pointer (some ⟨m.next,0+0,none⟩)) M=some (str key):=fun g=>qu g rfl
 have ldv:∀ {M:Mem},M.get m.next=some ⟨.cells [str key,str val,.bool gone] 42,false,none⟩→qb (.pointer (some ⟨m.next,0+1,none⟩)) M=some (str val):=fun g=>qu g rfl
 have ldg:qb (.pointer (some ⟨m.next,0+2,none⟩)) m1=some (.bool gone):=qu g1 rfl
 have lw:∀ {M:Mem} {a v:Value} {r:Nat},M.get pb=some (plB a r v)→qb (.pointer (some ⟨pb,0+0,none⟩)) M=some a:=fun g=>qu g rfl
 have lr:∀ {M:Mem} {a v:Value} {r:Nat},M.get pb=some (plB a r v)→qb (.pointer (some ⟨pb,0+1,none⟩)) M=some (.int .i64 (r:Int)):=fun g=>qu g rfl
 have d00:decide ((0:Int)=0)=true:=rfl
 have d08:decide ((0:Int)=8)=false:=rfl
 have d88:decide ((8:Int)=8)=true:=rfl
 have d11:decide ((1:Int)=1)=true:=rfl
 have dr:∀ k:Nat,decide ((k:Int)=(k:Int))=true:=fun k=>decide_eq_true rfl
 have eb:∀ b:Bool,xL false (.bool b) (.bool b)=some (.bool true):=fun b=>by cases b<;>rfl
 have hplt:=h.pl.lt
 have hvlt:=h.pl.tv.lt
 have after:∀ {o':Wo} {m2:Mem},Nx o o' m1 m2→m2.get m.next=some ⟨.cells [str key,str val,.bool gone] 42,false,none⟩∧PL pb (.pointer (some ⟨o.w,0,none⟩)) root v l m2∧(pb∉o'.xM∧pb≠o'.c∧pb≠o'.p)∧(∀ b∈qg v,b∉o'.xM)∧Gs pb o o' m m2:=fun {o' m2} hx=>by
  have hn:=hx.upd.next
  refine ⟨(hx.upd.same _ (by omega) (Wo.ZX h.wi (Nat.le_refl _))).trans g1,pl1.zE hx.upd h.pn.1 h.vn,⟨fun hm=>(hx.grow _ hm).elim h.pn.1 (fun h=>by omega),by rw [hx.c]; exact h.pn.2.1,by rw [hx.p]; exact h.pn.2.2⟩,fun b hb hm=>(hx.grow _ hm).elim (h.vn b hb) (fun h=>by have:=hvlt b hb; omega),(Gs.of (Nx.of0 u1)).trans (Gs.of hx)⟩
 cases gone with
 | true =>
  simp -implicitDefEqProofs only [st0,qc,reduceIte,fa,ldg,nck,lw pl1.g,lr pl1.g,ldk g1]
  refine qn.2 ((yJ wi1 (by omega) h.tr h.nd key).mono fun r2 m2 ⟨o',ns',wi2,nx,hl2,hc⟩=>?_)
  obtain ⟨g2,pl2,pn2,vn2,gs2⟩:=after nx
  rcases hc with ⟨c1,rfl,rfl⟩|⟨c1,c2,rfl,c4⟩|⟨c1,root',U',rfl,c2,c3,c4⟩
  ·obtain ⟨s1,pl3,u3⟩:=pl2.root (root':=root)
   have g3:=(u3.same m.next (by have:=nx.upd.next; omega) (by simp; omega)).trans g2
   simp -implicitDefEqProofs only [st0,qc,reduceIte,(ex3 _ _ _).1,(ex3 _ _ _).2.1,(ex3 _ _ _).2.2,d08,nck,fa,s1,d00,ldk g3]
   refine qn.2 (qn.2 ((XO (key:=key) hrow hfew pl3).mono fun r4 m4 ⟨r4e,v',pl4,vb,u4⟩=>?_))
   subst r4e
   rw [c1]
   simp -implicitDefEqProofs only [st0,qc,reduceIte,eb]
   have hcut:xw l key=l:=by unfold xw; rw [c1,if_neg (by simp)]
   rw [hcut] at pl4
   have uu:=u3.trans u4
   exact ⟨rfl,o',ns',root,v',l,U,⟨wi2.upd uu fun b hb=>by simp at hb; subst hb; exact pn2,pl4,h.tr,h.nd,pn2,fun b hb hm=>(vb b hb).elim (fun h=>vn2 b h hm) fun h=>by have:=wi2.lt b hm; have:=u3.next; omega⟩,by omega,gs2.trans (Gs.put uu),Stp.refl _ _,fun b hb=>(vb b hb).imp id fun h=>by have:=gs2.upd.next; have:=u3.next; omega⟩
  ·simp -implicitDefEqProofs only [st0,qc,reduceIte,(ex3 _ _ _).1,(ex3 _ _ _).2.1,(ex3 _ _ _).2.2,d88,nck,fa,lr pl2.g,dr]
   refine ⟨rfl,o',ns',root,v,l,U,⟨wi2,by rw [nx.w]; exact pl2,by rw [c4]; exact h.tr,h.nd,pn2,vn2⟩,by omega,gs2,by rw [c4]; exact Stp.refl _ _,fun b hb=>.inl hb⟩
  ·obtain ⟨s1,pl3,u3⟩:=pl2.root (root':=root')
   have g3:=(u3.same m.next (by have:=nx.upd.next; omega) (by simp; omega)).trans g2
   simp -implicitDefEqProofs only [st0,qc,reduceIte,(ex3 _ _ _).1,(ex3 _ _ _).2.1,(ex3 _ _ _).2.2,d08,nck,fa,s1,d00,ldk g3]
   refine qn.2 (qn.2 ((XO (key:=key) hrow hfew pl3).mono fun r4 m4 ⟨r4e,v',pl4,vb,u4⟩=>?_))
   subst r4e
   rw [c1]
   simp -implicitDefEqProofs only [st0,qc,reduceIte,eb]
   have uu:=u3.trans u4
   exact ⟨rfl,o',ns',root',v',xw l key,U',⟨wi2.upd uu fun b hb=>by simp at hb; subst hb; exact pn2,by rw [nx.w]; exact pl4,c2,c4,pn2,fun b hb hm=>(vb b hb).elim (fun h=>vn2 b h hm) fun h=>by have:=wi2.lt b hm; have:=u3.next; omega⟩,by omega,gs2.trans (Gs.put uu),c3,fun b hb=>(vb b hb).imp id fun h=>by have:=gs2.upd.next; have:=u3.next; omega⟩
 | false =>
  simp -implicitDefEqProofs only [st0,qc,reduceIte,fa,ldg,nck,lw pl1.g,lr pl1.g,ldk g1,ldv g1]
  refine qn.2 ((Kw wi1 (by omega) h.tr h.nd key val).mono fun r2 m2 ⟨o',ns',wi2,nx,hl2,hc⟩=>?_)
  obtain ⟨g2,pl2,pn2,vn2,gs2⟩:=after nx
  rcases hc with ⟨c1,rfl,rfl⟩|⟨c1,c2,rfl,c4⟩|⟨c1,root',U',rfl,c2,c3,c4⟩
  ·have hk:=yO key val m2
   rw [decide_eq_false c1] at hk
   simp -implicitDefEqProofs only [st0,qc,reduceIte,xt0,xt1,ldk g2,ldv g2,hk,d11,nck,fa,lr pl2.g,dr]
   exact ⟨rfl,o',ns',root,v,l,U,⟨wi2,pl2,h.tr,h.nd,pn2,vn2⟩,by omega,gs2,Stp.refl _ _,fun b hb=>.inl hb⟩
  ·have hk:=yO key val m2
   rw [decide_eq_true c1] at hk
   simp -implicitDefEqProofs only [st0,qc,reduceIte,xt0,xt1,ldk g2,ldv g2,hk,d88,nck,fa,lr pl2.g,dr]
   exact ⟨rfl,o',ns',root,v,l,U,⟨wi2,by rw [nx.w]; exact pl2,by rw [c4]; exact h.tr,h.nd,pn2,vn2⟩,by omega,gs2,by rw [c4]; exact Stp.refl _ _,fun b hb=>.inl hb⟩
  ·have hk:=yO key val m2
   rw [decide_eq_true c1] at hk
   obtain ⟨s1,pl3,u3⟩:=pl2.root (root':=root')
   have g3:=(u3.same m.next (by have:=nx.upd.next; omega) (by simp; omega)).trans g2
   simp -implicitDefEqProofs only [st0,qc,reduceIte,xt0,xt1,ldk g2,ldv g2,hk,d08,nck,fa,s1,ldk g3,ldv g3]
   refine qn.2 ((qeF (key:=key) (val:=val) hrow hfew pl3).mono fun r4 m4 ⟨r4e,v',pl4,vb,u4⟩=>?_)
   simp -implicitDefEqProofs only [st0,qc,reduceIte,d00]
   have uu:=u3.trans u4
   exact ⟨rfl,o',ns',root',v',xT l key val,U',⟨wi2.upd uu fun b hb=>by simp at hb; subst hb; exact pn2,by rw [nx.w]; exact pl4,c2,c4,pn2,fun b hb hm=>(vb b hb).elim (fun h=>vn2 b h hm) fun h=>by have:=wi2.lt b hm; have:=u3.next; omega⟩,by omega,gs2.trans (Gs.put uu),c3,fun b hb=>(vb b hb).imp id fun h=>by have:=gs2.upd.next; have:=u3.next; omega⟩
end Go.Fx.Tryz
