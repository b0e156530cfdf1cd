/- Parts of a proof: TreeD, TreeE. Conditions: none. -/
import Derived.Test.YtbhdhhgpfanmcaaGreatDoorQo14
set_option linter.unusedSimpArgs false
set_option linter.unusedVariables false
namespace Go.Fx.Tryz
open Go Go.Fx
theorem W_eq {o:O} {v:Value} {m:Mem} (h:W o fun r m'=>r=v∧m'=m):o=some (v,m):=by
 obtain ⟨r,m',e,rfl,rfl⟩:=h
 exact e
abbrev rdB (rest:Bs):ABlk:=⟨.cells [str rest,.int .i64 0] 134,false,none⟩
theorem rd0 {m:Mem} {b:Nat} {rest:Bs} (h:m.get b=some (rdB rest)):qc (.pointer (some ⟨b,0+0,none⟩)) m=some (str rest):=qs h rfl
theorem rd1 {m:Mem} {b:Nat} {rest:Bs} (h:m.get b=some (rdB rest)):qc (.pointer (some ⟨b,0+1,none⟩)) m=some (.int .i64 0):=qs h rfl
theorem YZ:decide ((0:Int)=0)=true:=rfl
theorem KZ (s:Bs) (m:Mem):Call S tab 28 [str s] m=some (.pointer (some ⟨m.next,0,none⟩),m.add (rdB s)):=by
 refine W_eq ?_
 rw [C28]
 have e1:qy [.string ⟨#[]⟩,.int .i64 0] [(0,1,str s)]=some [str s,.int .i64 0]:=by kernel_rfl
 simp -implicitDefEqProofs only [st0,qb,reduceIte,e1,qR]
 exact ⟨trivial,trivial⟩
theorem wq {m:Mem} {b:Nat} {rest:Bs} (h:m.get b=some (rdB rest)) {k:Nat} (hk:k≤rest.length) (hr:rest.length<2 ^ 62) :
  Call S tab 111 [.pointer (some ⟨b,0,none⟩),.int .i64 (k:Int)] m=some (.tuple #[str (rest.take k),.bool true],m.put b (rdB (rest.drop k))):=by
 refine W_eq ?_
 rw [qhR]
 have e1:((rest.length:Int)<(k:Int))=False:=eq_false (by omega)
 have e2:qg 1 (.pointer (some ⟨b,0+0,none⟩)) (str (rest.drop k)) m=some (m.put b (rdB (rest.drop k))):=zy h (by simp) rfl rfl
 simp -implicitDefEqProofs only [st0,qb,reduceIte,vd,nck,fa,rd0 h,rd1 h,YZ,zN,e1,wj hk,wk hk,e2]
 exact ⟨trivial,trivial⟩
theorem HM (s:Bs) (m:Mem):yB 5 (str s) m=some (.slice (some ⟨m.next,0,none⟩) s.length s.length,m.add ⟨.cells (xo.flat s) 5,false,some 1⟩):=by
 have:(s.map fun b=>Value.int .u8 b.toNat)=xo.flat s:=by
  simp only [Enc.flat,xo]
  induction s with
  | nil=>rfl
  | cons a l ih=>simp at ih ⊢; exact ih
 simp only [yB,ByteArray.size,List.size_toArray,this]
theorem qaW (s:Bs) (m:Mem):RSl m.next xo (m.add ⟨.cells (xo.flat s) 5,false,some 1⟩) (.slice (some ⟨m.next,0,none⟩) s.length s.length) s:=by
 have h:TAp xo 5 (m.add ⟨.cells (xo.flat s) 5,false,some 1⟩) (.slice (some ⟨m.next,0,none⟩) s.length s.length) s :=
  .inr ⟨m.next,s.length,[],some 1,rfl,by simp,by rw [Mem.qh]; simp,.inr rfl,by simp,Nat.le_refl _⟩
 exact h.rsl (fun b hb=>by simp [qf] at hb; omega)
theorem VI {a:Nat} (h:a<2 ^ 64):IntKind.u64.wrap (a:Int)=(a:Int):=Kj (by omega) (by omega)
theorem qjM (a:Nat) (h:a≤65535):arith .shl (.int .u64 (a:Int)) (.int .u64 8)=some (.int .u64 ((a * 256:Nat):Int)):=by
 have hb:min (8:Int).toNat IntKind.u64.bits=8:=by decide
 have h2:¬ ((8:Int)<0):=by omega
 simp only [arith,if_neg h2,hb]
 congr 2
 rw [show ((a:Int) * 2 ^ 8)=((a * 256:Nat):Int) by simp]
 exact VI (by omega)
theorem or8 (a c:Nat) (ha:a≤65535) (hc:c<256):arith .or (.int .u64 ((a * 256:Nat):Int)) (.int .u64 (c:Int))=some (.int .u64 ((a * 256+c:Nat):Int)):=by
 have h1:(BitVec.ofInt 64 ((a * 256:Nat):Int) ||| BitVec.ofInt 64 (c:Int)).toNat=a * 256+c:=by
  have e1:BitVec.ofInt 64 ((a * 256:Nat):Int)=BitVec.ofNat 64 (a * 256):=BitVec.ofInt_natCast ..
  have e2:BitVec.ofInt 64 (c:Int)=BitVec.ofNat 64 c:=BitVec.ofInt_natCast ..
  rw [e1,e2,BitVec.toNat_or,BitVec.toNat_ofNat,BitVec.toNat_ofNat,Nat.mod_eq_of_lt (by omega),Nat.mod_eq_of_lt (by omega)]
  have:=Nat.two_pow_add_eq_or_of_lt (i:=8) (b:=c) (by omega) a
  rw [show a * 256=2 ^ 8 * a by omega,this]
 simp only [arith,if_true,iop,Zp]
 rw [show IntKind.u64.bits=64 from rfl,h1,VI (by omega)]
 rfl
theorem qcb (c:UInt8):zk .u64 (.int .u8 (c.toNat:Int))=some (.int .u64 ((c.toNat:Nat):Int)):=Yb .u8 (by omega) (by have:=c.toNat_lt; omega)
def beN:Nat→Bs→Nat
 | a,[]=>a
 | a,c::r=>beN (a * 256+c.toNat) r
theorem qbl {lo:Nat} {s:Bs} {v:Value} (hs:s.length≤2):∀ (d i acc:Nat) (m:Mem),s.length - i=d→i≤s.length→acc<256 ^ i→RSl lo xo m v s →
  W (qaJ (.int .u64 (acc:Int)) v (.int .i64 (s.length:Int)) (.int .i64 (i:Int)) m) fun r m'=>r=.int .u64 ((beN acc (s.drop i):Nat):Int)∧m'=m:=by
 intro d
 induction d with
 | zero =>
  intro i acc m hd hi ha h
  obtain rfl:i=s.length:=by omega
  rw [P61_0_eq]
  simp -implicitDefEqProofs only [st0,qb,reduceIte,Int.lt_irrefl,List.drop_length,beN]
  exact ⟨trivial,trivial⟩
 | succ d ih =>
  intro i acc m hd hi ha h
  have hlt:i<s.length:=by omega
  have e1:((i:Int)<(s.length:Int))=True:=eq_true (by omega)
  obtain ⟨p,h1,_,h2⟩:=h.1.index .i64 (jE hlt)
  rw [QT] at h1
  have h2:=h2 (.int .u8 (s[i].toNat:Int)) rfl
  have hacc:acc≤255:=by
   have:i=0∨i=1:=by omega
   rcases this with rfl|rfl<;>omega
  have hc:=s[i].toNat_lt
  rw [P61_0_eq]
  simp -implicitDefEqProofs only [st0,qb,reduceIte,e1,h1,h2,qjM acc (by omega),qcb,or8 acc s[i].toNat (by omega) (by omega),qH (i:=i) (by omega)]
  refine (ih (i+1) (acc * 256+s[i].toNat) m (by omega) hlt (by rw [Nat.pow_succ]; omega) h).mono fun r m' ⟨hr,hm⟩=>⟨?_,hm⟩
  rw [hr,drop_cons hlt,beN]
theorem HQ {m:Mem} {b:Nat} {rest:Bs} (h:m.get b=some (rdB rest)) (hb:b<m.next) {k:Nat} (hk:k≤rest.length) (hk1:1≤k) (hk2:k≤2) (hr:rest.length<2 ^ 62) :
  W (Call S tab 61 [.pointer (some ⟨b,0,none⟩),.int .i64 (k:Int)] m) fun r m'=>r=.int .u64 ((beN 0 (rest.take k):Nat):Int)∧m'.get b=some (rdB (rest.drop k))∧Upd [b] m m':=by
 rw [C61]
 have c1:Call S tab 65 [.int .i64 (k:Int)] m=some (.int .i64 (k:Int),m):=by
  refine W_eq ?_
  rw [C65]
  have h1:((1:Int) > (k:Int))=False:=eq_false (by omega)
  have h8:((8:Int)<(k:Int))=False:=eq_false (by omega)
  simp -implicitDefEqProofs only [st0,qb,reduceIte,h1,h8]
  exact ⟨trivial,trivial⟩
 have e1:qd 0 (.tuple #[str (rest.take k),.bool true])=some (str (rest.take k)):=rfl
 have e2:qd 1 (.tuple #[str (rest.take k),.bool true])=some (.bool true):=rfl
 rw [c1]
 simp -implicitDefEqProofs only [st0,qb,reduceIte,wq h hk hr,e1,e2,HM]
 have hl:(rest.take k).length≤2:=by rw [List.length_take]; omega
 have e3:qj (.slice (some ⟨(m.put b (rdB (rest.drop k))).next,0,none⟩) (rest.take k).length (rest.take k).length)=some (.int .i64 ((rest.take k).length:Int)):=rfl
 simp -implicitDefEqProofs only [st0,qb,reduceIte,e3]
 have hnew:=qaW (rest.take k) (m.put b (rdB (rest.drop k)))
 refine (qbl hl _ 0 0 _ rfl (by omega) (by simp) hnew).mono fun r m' ⟨hr',hm'⟩=>?_
 subst hm'
 refine ⟨hr',by rw [Mem.zC _ _ (by simpa using hb)]; exact Mem.qi ..,(Upd.put _ _ (by simp)).trans (Upd.add _ _ _)⟩
theorem be1 (c:UInt8):beN 0 [c]=c.toNat:=by simp [beN]
theorem be2 (k:Nat) (h:k≤65535):beN 0 (xU k)=k:=by
 simp only [beN,xU,UInt8.toNat_ofNat']
 omega
theorem vv {m:Mem} {b:Nat} {c:UInt8} {r:Bs} (h:m.get b=some (rdB (c::r))) (hb:b<m.next) (hr:(c::r).length<2 ^ 62) :
  W (Call S tab 61 [.pointer (some ⟨b,0,none⟩),.int .i64 1] m) fun v m'=>v=.int .u64 ((c.toNat:Nat):Int)∧m'.get b=some (rdB r)∧Upd [b] m m':=by
 have:=HQ h hb (k:=1) (by simp) (by omega) (by omega) hr
 rwa [show (c::r).take 1=[c] from rfl,be1,show (c::r).drop 1=r from rfl] at this
theorem Xy {m:Mem} {b:Nat} {k:Nat} {r:Bs} (hk:k≤65535) (h:m.get b=some (rdB (xU k++r))) (hb:b<m.next) (hr:(xU k++r).length<2 ^ 62) :
  W (Call S tab 61 [.pointer (some ⟨b,0,none⟩),.int .i64 2] m) fun v m'=>v=.int .u64 (k:Int)∧m'.get b=some (rdB r)∧Upd [b] m m':=by
 have:=HQ h hb (k:=2) (by simp [xU]) (by omega) (by omega) hr
 rwa [show (xU k++r).take 2=xU k from rfl,be2 k hk,show (xU k++r).drop 2=r from rfl] at this
theorem ZH {m:Mem} {b:Nat} {s r:Bs} {most:Nat} (h:m.get b=some (rdB (xa s++r))) (hb:b<m.next) (hs:s.length≤most) (hm:most≤255) (hr:(xa s++r).length<2 ^ 62) :
  W (Call S tab 104 [.pointer (some ⟨b,0,none⟩),.int .i64 (most:Int)] m) fun v m'=>v=str s∧m'.get b=some (rdB r)∧Upd [b] m m':=by
 have hl:(UInt8.ofNat s.length).toNat=s.length:=by simp; omega
 rw [qhS]
 have t1:=wq h (k:=1) (by simp [xa]) hr
 rw [show (xa s++r).take 1=[UInt8.ofNat s.length] from rfl,show (xa s++r).drop 1=s++r from rfl] at t1
 have e1:qd 0 (.tuple #[str [UInt8.ofNat s.length],.bool true])=some (str [UInt8.ofNat s.length]):=rfl
 have e2:qd 1 (.tuple #[str [UInt8.ofNat s.length],.bool true])=some (.bool true):=rfl
 have e3:zG (str [UInt8.ofNat s.length]) (.int .i64 0)=some (.int .u8 ((UInt8.ofNat s.length).toNat:Int)):=KW (i:=0) rfl
 have e4:zk .i64 (.int .u8 ((UInt8.ofNat s.length).toNat:Int))=some (.int .i64 (s.length:Int)):=by rw [Qs .u8 (by omega) (by omega),hl]
 have e5:((most:Int)<(s.length:Int))=False:=eq_false (by omega)
 have g1:(m.put b (rdB (s++r))).get b=some (rdB (s++r)):=Mem.qi ..
 have hlen:(s++r).length<2 ^ 62:=by simp [xa] at hr ⊢; omega
 have t2:=wq g1 (k:=s.length) (by simp) hlen
 rw [List.take_left' rfl,List.drop_left' rfl] at t2
 have e6:qd 0 (.tuple #[str s,.bool true])=some (str s):=rfl
 have e7:qd 1 (.tuple #[str s,.bool true])=some (.bool true):=rfl
 have t1':Call S tab 111 [.pointer (some ⟨b,0,none⟩),.int .i64 1] m=some (.tuple #[str [UInt8.ofNat s.length],.bool true],m.put b (rdB (s++r))):=t1
 simp -implicitDefEqProofs only [st0,qb,reduceIte,vd,nck,fa,rd0 h,rd1 h,YZ,t1',e1,e2,e3,e4,e5,t2,e6,e7]
 exact ⟨trivial,Mem.qi ..,(Upd.put _ _ (by simp)).trans (Upd.put _ _ (by simp))⟩
theorem Wl {m:Mem} {b:Nat} {rest:Bs} (h:m.get b=some (rdB rest)):Call S tab 106 [.pointer (some ⟨b,0,none⟩)] m=some (.int .i64 (rest.length:Int),m):=by
 refine W_eq ?_
 rw [qkN]
 simp -implicitDefEqProofs only [st0,qb,reduceIte,vd,nck,fa,rd0 h,zN]
 exact ⟨trivial,trivial⟩
theorem yY {m:Mem} {b:Nat} {rest:Bs} (h:m.get b=some (rdB rest)):Call S tab 107 [.pointer (some ⟨b,0,none⟩)] m=some (.int .i64 0,m):=by
 refine W_eq ?_
 rw [qjI]
 simp -implicitDefEqProofs only [st0,qb,reduceIte,vd,nck,fa,rd1 h]
 exact ⟨trivial,trivial⟩
theorem HP {m:Mem} {b:Nat} {rest:Bs} (h:m.get b=some (rdB rest)) (hr:rest.length<2 ^ 62):Call S tab 105 [.pointer (some ⟨b,0,none⟩),.int .i64 (rest.length:Int)] m=some (str rest,m.put b (rdB [])):=by
 refine W_eq ?_
 rw [qkO]
 have e0:((0:Int) > (rest.length:Int))=False:=eq_false (by omega)
 have t:=wq h (k:=rest.length) (Nat.le_refl _) hr
 rw [List.take_length,List.drop_length] at t
 have e1:qd 0 (.tuple #[str rest,.bool true])=some (str rest):=rfl
 have e2:qd 1 (.tuple #[str rest,.bool true])=some (.bool true):=rfl
 simp -implicitDefEqProofs only [st0,qb,reduceIte,e0,t,e1,e2]
 exact ⟨trivial,trivial⟩
end Go.Fx.Tryz
namespace Go.Fx.Tryz
open Go Go.Fx
theorem qhZ (k:Nat):Lib.trimB (qp k) 0=[]:=by
 have h:∀ k,(List.replicate k (0:UInt8)).dropWhile (· == 0)=[]:=by
  intro k
  induction k with
  | zero=>rfl
  | succ k ih=>rw [List.replicate_succ,List.dropWhile_cons]; simp [ih]
 unfold Lib.trimB Lib.trimLeftB Lib.trimRightB qp
 rw [List.reverse_replicate,h]; rfl
theorem HE (k:Nat) (hk:k≤1000000) (m:Mem):Call S tab 108 [str (qp k),.string ⟨#[0]⟩] m=some (str [],m):=by
 refine yO ?_
 show Yk [str (qp k),.string ⟨#[0]⟩] m=_
 have h:(0:UInt8).toNat<128∧(⟨(qp k).toArray⟩:ByteArray).size≤1000000:=⟨by decide,by simp [qp,ByteArray.size]; omega⟩
 simp only [Yk]
 rw [if_pos h,qhZ]
theorem ZU {i:Nat} (h:i<2 ^ 62):arith .add (.int .u64 (i:Int)) (.int .u64 1)=some (.int .u64 ((i+1:Nat):Int)):=by
 rw [qdX,Kj (by omega) (by omega)]; simp
abbrev qk (b:Bool) (sp sk si:Value):ABlk:=⟨.cells [.bool b,sp,sk,si] 169,false,none⟩
theorem qdh {m:Mem} {b:Nat} {lf:Bool} {sp sk si v:Value} (g:m.get b=some (qk lf sp sk si)) (h1:v.cells=#[v]∧v.oneCell'=true):qg 1 (.pointer (some ⟨b,0+1,none⟩)) v m=some (m.put b (qk lf v sk si)):=zy g (by simp) h1.1 h1.2
theorem XG {m:Mem} {b:Nat} {lf:Bool} {sp sk si v:Value} (g:m.get b=some (qk lf sp sk si)) (h1:v.cells=#[v]∧v.oneCell'=true):qg 1 (.pointer (some ⟨b,0+2,none⟩)) v m=some (m.put b (qk lf sp v si)):=zy g (by simp) h1.1 h1.2
theorem hJ {m:Mem} {b:Nat} {lf:Bool} {sp sk si v:Value} (g:m.get b=some (qk lf sp sk si)) (h1:v.cells=#[v]∧v.oneCell'=true):qg 1 (.pointer (some ⟨b,0+3,none⟩)) v m=some (m.put b (qk lf sp sk v)):=zy g (by simp) h1.1 h1.2
theorem zB {m:Mem} {b:Nat} {lf:Bool} {sp sk si:Value} (g:m.get b=some (qk lf sp sk si)) (lf':Bool) {sp' sk' si':Value} (h1:sp'.oneCell'=true) (h2:sk'.oneCell'=true) (h3:si'.oneCell'=true) :
  qg 4 (.pointer (some ⟨b,0,none⟩)) (.agg #[.bool lf',sp',sk',si']) m=some (m.put b (qk lf' sp' sk' si')):=by
 have:=xO (v:=.agg #[.bool lf',sp',sk',si']) (n:=4) g rfl (by simp [Value.cells]) (by simp [Value.cells,h1,h2,h3,show (Value.bool lf').oneCell'=true from rfl])
 simpa [Value.cells] using this
theorem YM {x0 x2:Value} {rb nb:Nat} {m0:Mem} (hrb:rb<m0.next) (hnb:nb<m0.next) (hne:rb≠nb) {l:List Pr} (hl:l.length≤255) (hs:∀ p∈l,p.1.length≤32∧p.2.length≤40) {z:Bs} {Q:Value→Mem→Prop} {sk si:Value}
  (hQ:∀ m' v',m'.get rb=some (rdB z)→m'.get nb=some (qk true v' sk si)→TAp qN 81 m' v' l→(∀ b∈qf v',m0.next≤b)→Upd [rb,nb] m0 m'→W (Je x0 x2 (.pointer (some ⟨rb,0,none⟩)) (.int .u64 1) (.pointer (some ⟨nb,0,none⟩)) m') Q) :
  ∀ (d i:Nat) (m:Mem) (v:Value),l.length - i=d→i≤l.length→m.get rb=some (rdB (((l.drop i).map xz).flatten++z))→m.get nb=some (qk true v sk si)→TAp qN 81 m v (l.take i)→(∀ b∈qf v,m0.next≤b)→Upd [rb,nb] m0 m →
  (((l.drop i).map xz).flatten++z).length<2 ^ 62 →
  W (Zb x0 x2 (.pointer (some ⟨rb,0,none⟩)) (.int .u64 1) (.pointer (some ⟨nb,0,none⟩)) (.int .u64 (l.length:Int)) (.int .u64 (i:Int)) m) Q:=by
 intro d
 induction d with
 | zero =>
  intro i m v hd hi hr hn hv hvb hu hlen
  obtain rfl:i=l.length:=by omega
  rw [P165_1_eq]
  simp -implicitDefEqProofs only [st0,qb,reduceIte,Int.lt_irrefl]
  rw [List.drop_length] at hr
  rw [List.take_length] at hv
  exact hQ m v hr hn hv hvb hu
 | succ d ih =>
  intro i m v hd hi hr hn hv hvb hu hlen
  have hlt:i<l.length:=by omega
  have hp:=hs _ (List.getElem_mem hlt)
  have e1:((i:Int)<(l.length:Int))=True:=eq_true (by omega)
  have ed:((l.drop i).map xz).flatten++z=xa l[i].1++(xa l[i].2++(((l.drop (i+1)).map xz).flatten++z)):=by
   rw [drop_cons hlt,List.map_cons,List.flatten_cons,xz]; simp only [List.append_assoc]
  rw [ed] at hr hlen
  rw [P165_1_eq]
  simp -implicitDefEqProofs only [st0,qb,reduceIte,e1]
  refine qo.2 ((ZH (most:=32) hr (Nat.lt_of_lt_of_le hrb hu.next) hp.1 (by omega) hlen).mono fun v1 m1 ⟨r1,g1,u1⟩=>?_)
  subst r1
  have hnm:nb<m.next:=Nat.lt_of_lt_of_le hnb hu.next
  have n1:m1.get nb=some (qk true v sk si):=(u1.same nb hnm (by simp; exact fun h=>hne h.symm)).trans hn
  have ldT:∀ {M:Mem},M.get nb=some (qk true v sk si)→qc (.pointer (some ⟨nb,0+0,none⟩)) M=some (.bool true):=fun g=>qs g rfl
  have ldP:∀ {M:Mem},M.get nb=some (qk true v sk si)→qc (.pointer (some ⟨nb,0+1,none⟩)) M=some v:=fun g=>qs g rfl
  simp -implicitDefEqProofs only [st0,qb,reduceIte,fa,ldT n1,ldP n1]
  refine qo.2 ((ZH (most:=40) g1 (Nat.lt_of_lt_of_le (Nat.lt_of_lt_of_le hrb hu.next) u1.next) hp.2 (by omega) (by rw [List.length_append] at hlen; omega)).mono fun v2 m2 ⟨r2,g2,u2⟩=>?_)
  subst r2
  have n2:m2.get nb=some (qk true v sk si):=(u2.same nb (Nat.lt_of_lt_of_le hnm u1.next) (by simp; exact fun h=>hne h.symm)).trans n1
  have e2:qy [.string ⟨#[]⟩,.string ⟨#[]⟩] [(0,1,str l[i].1),(1,1,str l[i].2)]=some [str l[i].1,str l[i].2]:=by kernel_rfl
  have e3:qy [.string ⟨#[]⟩,.string ⟨#[]⟩] [(0,2,.agg [str l[i].1,str l[i].2].toArray)]=some (qN.flat [l[i]]):=by kernel_rfl
  simp -implicitDefEqProofs only [st0,qb,reduceIte,e2,e3]
  have hd1:∀ b∈qf v,b∉[rb]:=fun b hb hm=>by simp at hm; have:=hvb b hb; omega
  have hv2:TAp qN 81 m2 v (l.take i):=(hv.upd u1 hd1).upd u2 hd1
  refine zX (E:=qN) [l[i]] (by decide) hv2 (by simp; omega) fun v3 m4 q1 q2 q3=>?_
  have hnv:∀ {b:Nat},b<m0.next→b∉qf v:=fun hb hm=>by have:=hvb _ hm; omega
  have n4:m4.get nb=some (qk true v sk si):=(q2.same nb (by have:=u1.next; have:=u2.next; omega) (hnv hnb)).trans n2
  have g4:m4.get rb=some (rdB (((l.drop (i+1)).map xz).flatten++z)):=(q2.same rb (by have:=u1.next; have:=u2.next; have:=hu.next; omega) (hnv hrb)).trans g2
  simp -implicitDefEqProofs only [st0,qb,reduceIte,fa,qdh n4 q1.one]
  refine kJ (fun r hr=>?_) ?_
  ·simp only [List.mem_cons,List.not_mem_nil,or_false] at hr
   subst hr
   exact okR fun k _ hk=>by
    have:k=0∨k=1∨k=2:=by omega
    rcases this with rfl|rfl|rfl
    ·exact ⟨_,rfl,ldP n1⟩
    ·exact ⟨_,rfl,ldP n2⟩
    ·exact ⟨_,rfl,ldP (by rw [Mem.zC _ _ (by have:=u1.next; have:=u2.next; omega)]; exact n2)⟩
  simp -implicitDefEqProofs only [st0,qb,reduceIte,ZU (i:=i) (by omega)]
  have u04:Upd [rb,nb] m0 m4:=((hu.then' u1 (fun b hb=>.inl (List.mem_cons.2 (.inl (List.mem_singleton.1 hb))))).then' u2 (fun b hb=>.inl (List.mem_cons.2 (.inl (List.mem_singleton.1 hb))))).then' q2 (fun b hb=>.inr (hvb b hb))
  have hq:∀ b∈qf v3,m0.next≤b:=fun b hb=>(q3 b hb).elim (hvb b) (fun h=>by have:=u1.next; have:=u2.next; have:=hu.next; omega)
  have hne3:nb∉qf v3:=fun h=>by have:=hq _ h; omega
  refine ih (i+1) (m4.put nb (qk true v3 sk si)) v3 (by omega) hlt (by rw [Mem.qu _ _ hne]; exact g4) (Mem.qi ..) ?_ hq (u04.kr _ (.inl (by simp))) (by simp only [List.length_append] at hlen ⊢; omega)
  have e5:l.take i++[l[i]]=l.take (i+1):=by rw [List.take_succ_eq_append_getElem hlt]
  rw [e5] at q1
  exact q1.upd (Upd.put (fp:=[nb]) _ _ (by simp)) (fun b hb=>by simp; rintro rfl; exact hne3 hb)
theorem Wn {x0 x2:Value} {rb nb:Nat} {m0:Mem} (hrb:rb<m0.next) (hnb:nb<m0.next) (hne:rb≠nb) {ks:List Bs} {ps:List Nat} (hl:ks.length≤255) (hps:ps.length=ks.length+1) (hs:∀ k∈ks,k.length≤32) (hp:∀ k∈ps,k≤65535) {z:Bs} {Q:Value→Mem→Prop} {sp:Value}
  (hQ:∀ m' v' w',m'.get rb=some (rdB z)→m'.get nb=some (qk false sp v' w')→TAp encS 9 m' v' ks→(∀ b∈qf v',m0.next≤b)→TAp xd 3 m' w' ps→(∀ b∈qf w',m0.next≤b)→Upd [rb,nb] m0 m'→W (Je x0 x2 (.pointer (some ⟨rb,0,none⟩)) (.int .u64 2) (.pointer (some ⟨nb,0,none⟩)) m') Q) :
  ∀ (d i:Nat) (m:Mem) (v w:Value),ks.length - i=d→i≤ks.length→m.get rb=some (rdB ((((ks.zip ps.tail).drop i).map wA).flatten++z))→m.get nb=some (qk false sp v w)→TAp encS 9 m v (ks.take i)→(∀ b∈qf v,m0.next≤b)→TAp xd 3 m w (ps.take (i+1))→(∀ b∈qf w,m0.next≤b)→(∀ b∈qf v,b∉qf w)→Upd [rb,nb] m0 m →
  ((((ks.zip ps.tail).drop i).map wA).flatten++z).length<2 ^ 62 →
  W (Zb x0 x2 (.pointer (some ⟨rb,0,none⟩)) (.int .u64 2) (.pointer (some ⟨nb,0,none⟩)) (.int .u64 (ks.length:Int)) (.int .u64 (i:Int)) m) Q:=by
 have hzl:(ks.zip ps.tail).length=ks.length:=by rw [List.length_zip,List.length_tail]; omega
 intro d
 induction d with
 | zero =>
  intro i m v w hd hi hr hn hv hvb hw hwb hvw hu hlen
  obtain rfl:i=ks.length:=by omega
  rw [P165_1_eq]
  simp -implicitDefEqProofs only [st0,qb,reduceIte,Int.lt_irrefl]
  rw [show (ks.zip ps.tail).drop ks.length=[] by rw [← hzl]; exact List.drop_length] at hr
  rw [List.take_length] at hv
  rw [List.take_of_length_le (by omega)] at hw
  exact hQ m v w hr hn hv hvb hw hwb hu
 | succ d ih =>
  intro i m v w hd hi hr hn hv hvb hw hwb hvw hu hlen
  have hlt:i<ks.length:=by omega
  have hlt2:i+1<ps.length:=by omega
  have hk:=hs _ (List.getElem_mem hlt)
  have hk2:=hp _ (List.getElem_mem hlt2)
  have e1:((i:Int)<(ks.length:Int))=True:=eq_true (by omega)
  have ed:(((ks.zip ps.tail).drop i).map wA).flatten++z=xa ks[i]++(xU ps[i+1]++((((ks.zip ps.tail).drop (i+1)).map wA).flatten++z)):=by
   rw [drop_cons (by omega:i<(ks.zip ps.tail).length),Yr hps hlt,List.map_cons,List.flatten_cons,wA]; simp only [List.append_assoc]
  rw [ed] at hr hlen
  rw [P165_1_eq]
  simp -implicitDefEqProofs only [st0,qb,reduceIte,e1]
  have hrm:rb<m.next:=Nat.lt_of_lt_of_le hrb hu.next
  have hnm:nb<m.next:=Nat.lt_of_lt_of_le hnb hu.next
  refine qo.2 ((ZH (most:=32) hr hrm hk (by omega) hlen).mono fun v1 m1 ⟨r1,g1,u1⟩=>?_)
  subst r1
  have n1:m1.get nb=some (qk false sp v w):=(u1.same nb hnm (by simp; exact fun h=>hne h.symm)).trans hn
  have ldT:∀ {M:Mem},M.get nb=some (qk false sp v w)→qc (.pointer (some ⟨nb,0+0,none⟩)) M=some (.bool false):=fun g=>qs g rfl
  have ldK:∀ {M:Mem},M.get nb=some (qk false sp v w)→qc (.pointer (some ⟨nb,0+2,none⟩)) M=some v:=fun g=>qs g rfl
  have e2:qy [.string ⟨#[]⟩] [(0,1,str ks[i])]=some (encS.flat [ks[i]]):=by kernel_rfl
  simp -implicitDefEqProofs only [st0,qb,reduceIte,fa,ldT n1,ldK n1,e2]
  have hd1:∀ b∈qf v,b∉[rb]:=fun b hb hm=>by simp at hm; have:=hvb b hb; omega
  have hd2:∀ b∈qf w,b∉[rb]:=fun b hb hm=>by simp at hm; have:=hwb b hb; omega
  refine zX (E:=encS) [ks[i]] (by decide) (hv.upd u1 hd1) (by simp; omega) fun v3 m3 q1 q2 q3=>?_
  have hnv:∀ {b:Nat},b<m0.next→b∉qf v:=fun hb hm=>by have:=hvb _ hm; omega
  have n3:m3.get nb=some (qk false sp v w):=(q2.same nb (by have:=u1.next; omega) (hnv hnb)).trans n1
  have g3:=(q2.same rb (by have:=u1.next; omega) (hnv hrb)).trans g1
  have hw3:TAp xd 3 m3 w (ps.take (i+1)):=(hw.upd u1 hd2).upd q2 (fun b hb hb'=>hvw b hb' hb)
  simp -implicitDefEqProofs only [st0,qb,reduceIte,fa,XG n3 q1.one]
  have hq:∀ b∈qf v3,m0.next≤b:=fun b hb=>(q3 b hb).elim (hvb b) (fun h=>by have:=u1.next; have:=hu.next; omega)
  have n4:(m3.put nb (qk false sp v3 w)).get nb=some (qk false sp v3 w):=Mem.qi ..
  have g4:(m3.put nb (qk false sp v3 w)).get rb=_:=(Mem.qu m3 _ hne).trans g3
  have up:Upd [nb] m3 (m3.put nb (qk false sp v3 w)):=Upd.put _ _ (by simp)
  have hq1:TAp encS 9 (m3.put nb (qk false sp v3 w)) v3 (ks.take i++[ks[i]]):=q1.upd up (fun b hb hm=>by simp at hm; have:=hq b hb; omega)
  have hw4:TAp xd 3 (m3.put nb (qk false sp v3 w)) w (ps.take (i+1)):=hw3.upd up (fun b hb hm=>by simp at hm; have:=hwb b hb; omega)
  have u04:Upd [rb,nb] m0 (m3.put nb (qk false sp v3 w)):=((hu.then' u1 (fun b hb=>.inl (List.mem_cons.2 (.inl (List.mem_singleton.1 hb))))).then' q2 (fun b hb=>.inr (hvb b hb))).kr _ (.inl (by simp))
  have hv3w:∀ b∈qf v3,b∉qf w:=fun b hb hb'=>(q3 b hb).elim (fun h=>hvw b h hb') (fun h=>by have:=hw.lt b hb'; have:=u1.next; omega)
  generalize (m3.put nb (qk false sp v3 w))=m4 at n4 g4 hq1 hw4 u04
  have ldI:∀ {M:Mem},M.get nb=some (qk false sp v3 w)→qc (.pointer (some ⟨nb,0+3,none⟩)) M=some w:=fun g=>qs g rfl
  simp -implicitDefEqProofs only [st0,qb,reduceIte,fa,ldI n4]
  have hn4:=u04.next
  refine qo.2 ((Xy hk2 g4 (by omega) (by rw [List.length_append] at hlen; omega)).mono fun v5 m5 ⟨r5,g5,u5⟩=>?_)
  subst r5
  have n5:m5.get nb=some (qk false sp v3 w):=(u5.same nb (by omega) (by simp; exact fun h=>hne h.symm)).trans n4
  have e3:zk .i64 (.int .u64 (ps[i+1]:Int))=some (.int .i64 (ps[i+1]:Int)):=Qs .u64 (by omega) (by omega)
  have e4:qy [.int .i64 0] [(0,1,.int .i64 (ps[i+1]:Int))]=some (xd.flat [ps[i+1]]):=by kernel_rfl
  simp -implicitDefEqProofs only [st0,qb,reduceIte,e3,e4]
  have hd3:∀ b∈qf v3,b∉[rb]:=fun b hb hm=>by simp at hm; have:=hq b hb; omega
  refine zX (E:=xd) [ps[i+1]] (by decide) (hw4.upd u5 hd2) (by simp; omega) fun w6 m6 q4 q5 q6=>?_
  have hnw:∀ {b:Nat},b<m0.next→b∉qf w:=fun hb hm=>by have:=hwb _ hm; omega
  have n6:m6.get nb=some (qk false sp v3 w):=(q5.same nb (by have:=u5.next; omega) (hnw hnb)).trans n5
  have g6:=(q5.same rb (by have:=u5.next; omega) (hnw hrb)).trans g5
  simp -implicitDefEqProofs only [st0,qb,reduceIte,fa,hJ n6 q4.one]
  refine kJ (fun r hr=>?_) ?_
  ·simp only [List.mem_cons,List.not_mem_nil,or_false] at hr
   subst hr
   exact okR fun k _ hk=>by
    have:k=0∨k=1∨k=2:=by omega
    rcases this with rfl|rfl|rfl
    ·exact ⟨_,rfl,ldI n4⟩
    ·exact ⟨_,rfl,ldI n5⟩
    ·exact ⟨_,rfl,ldI (by rw [Mem.zC _ _ (by have:=u5.next; omega)]; exact n5)⟩
  simp -implicitDefEqProofs only [st0,qb,reduceIte,ZU (i:=i) (by omega)]
  have u06:Upd [rb,nb] m0 m6:=(u04.then' u5 (fun b hb=>.inl (List.mem_cons.2 (.inl (List.mem_singleton.1 hb))))).then' q5 (fun b hb=>.inr (hwb b hb))
  have hq6:∀ b∈qf w6,m0.next≤b:=fun b hb=>(q6 b hb).elim (hwb b) (fun h=>by have:=u5.next; omega)
  have hv6:TAp encS 9 m6 v3 (ks.take i++[ks[i]]):=(hq1.upd u5 hd3).upd q5 hv3w
  have e5:ks.take i++[ks[i]]=ks.take (i+1):=by rw [List.take_succ_eq_append_getElem hlt]
  have e6:ps.take (i+1)++[ps[i+1]]=ps.take (i+1+1):=by rw [List.take_succ_eq_append_getElem hlt2]
  rw [e5] at hv6
  rw [e6] at q4
  have up6:Upd [nb] m6 (m6.put nb (qk false sp v3 w6)):=Upd.put _ _ (by simp)
  have hx:∀ {x:Value},(∀ b∈qf x,m0.next≤b)→∀ b∈qf x,b∉[nb]:=fun h b hb hm=>by simp at hm; have:=h b hb; omega
  refine ih (i+1) (m6.put nb (qk false sp v3 w6)) v3 w6 (by omega) hlt (by rw [Mem.qu _ _ hne]; exact g6) (Mem.qi ..) (hv6.upd up6 (hx hq)) hq (q4.upd up6 (hx hq6)) hq6 (fun b hb hb'=>?_) (u06.kr _ (.inl (by simp))) (by simp only [List.length_append] at hlen ⊢; omega)
  exact (q6 b hb').elim (hv3w b hb) (fun h=>by have:=hq1.lt b hb; have:=u5.next; omega)
theorem HS {page:Bs} (hpage:page.length=256) {ob rb nb:Nat} {n:Nd} {sp sk si:Value} {m:Mem} {lo k:Nat} (hob:ob≠nb) (hob2:ob≠rb) (hne:rb≠nb) (hlt:ob<m.next∧rb<m.next∧nb<m.next)
  (hr:m.get rb=some (rdB (qp k))) (hk:k≤256) (hn:m.get nb=some (qk n.leaf sp sk si)) (ho:∃ a b c d,m.get ob=some (qk a b c d)) (hok:qT n=true) (hp:n.pairs.length≤1000) (hkk:n.keys.length≤1000)
  (h1:TAp qN 81 m sp n.pairs) (h2:TAp encS 9 m sk n.keys) (h3:TAp xd 3 m si n.kids) (hlo:(∀ b∈qf sp,lo≤b)∧(∀ b∈qf sk,lo≤b)∧(∀ b∈qf si,lo≤b)) (hl:ob<lo∧rb<lo∧nb<lo) :
  W (Je (str page) (.pointer (some ⟨ob,0,none⟩)) (.pointer (some ⟨rb,0,none⟩)) (.int .u64 (if n.leaf then 1 else 2)) (.pointer (some ⟨nb,0,none⟩)) m) fun r m'=>(∃ v,r=.tuple #[v,.int .i64 0]∧TN lo m' v n∧v=yv n.leaf sp sk si)∧Upd [ob,rb] m m':=by
 rw [P165_2_eq]
 have c1:=Wl hr
 have c2:=HP hr (by simp [qp]; omega)
 have g2:(m.put rb (rdB [])).get rb=some (rdB []):=Mem.qi ..
 have c3:=yY g2
 have n2:(m.put rb (rdB [])).get nb=some (qk n.leaf sp sk si):=(Mem.qu m _ (fun h=>hne h.symm)).trans hn
 have u2:Upd [rb] m (m.put rb (rdB [])):=Upd.put _ _ (by simp)
 obtain ⟨oa,oc,od,oe,ho⟩:=ho
 have o2:(m.put rb (rdB [])).get ob=some (qk oa oc od oe):=(Mem.qu m _ hob2).trans ho
 have k1:RSl lo qN (m.put rb (rdB [])) sp n.pairs:=(h1.rsl hlo.1).upd u2 (fun b hb=>by simp at hb; omega)
 have k2:RSl lo encS (m.put rb (rdB [])) sk n.keys:=(h2.rsl hlo.2.1).upd u2 (fun b hb=>by simp at hb; omega)
 have k3:RSl lo xd (m.put rb (rdB [])) si n.kids:=(h3.rsl hlo.2.2).upd u2 (fun b hb=>by simp at hb; omega)
 simp -implicitDefEqProofs only [st0,qb,reduceIte,c1,c2]
 generalize hm2:m.put rb (rdB [])=m2 at g2 n2 u2 o2 k1 k2 k3 c3
 have hN:TN lo m2 (yv n.leaf sp sk si) n:=⟨_,_,_,rfl,k1,k2,k3⟩
 have d1:decide ((1:Int)=1)=true:=rfl
 have d2:decide ((2:Int)=1)=false:=rfl
 have d3:decide ((2:Int)=2)=true:=rfl
 have d4:decide ((0:Int)=0)=true:=rfl
 have d5:decide ((256:Int)=256)=true:=rfl
 have d6:decide (((256:Nat):Int)=256)=true:=rfl
 have hz:∀ (M:Mem),Call S tab 108 [str (qp k),.string ⟨#[0]⟩] M=some (str [],M):=fun M=>HE k (by omega) M
 have lw:∀ {M:Mem} {lf:Bool},M.get nb=some (qk lf sp sk si)→qm 4 (.pointer (some ⟨nb,0,none⟩)) M=some (.agg #[.bool lf,sp,sk,si]):=fun g=>zu g rfl
 have lwo:∀ {M:Mem} {lf:Bool},M.get ob=some (qk lf sp sk si)→qm 4 (.pointer (some ⟨ob,0,none⟩)) M=some (.agg #[.bool lf,sp,sk,si]):=fun g=>zu g rfl
 have hn2:m2.next=m.next:=by rw [← hm2]; rfl
 have e0:arith .neq (str []) (.string ⟨#[]⟩)=some (.bool false):=Qc [] []
 cases hl:n.leaf with
 | true =>
  rw [hl] at hN n2
  simp -implicitDefEqProofs only [st0,qb,reduceIte,if_true,d1,d4,c3,zN,hpage,d5,d6,lw n2]
  refine qo.2 (qo.2 ((XA hN hok (by omega) (by omega)).mono fun r m3 ⟨hr3,u3⟩=>zs.2 ?_))
  subst hr3
  have n3:=qA u3 (by omega) n2
  have o3:=qA u3 (by omega) o2
  simp -implicitDefEqProofs only [st0,qb,reduceIte,hz,e0,lw n3,zB o3 true h1.one.2 h2.one.2 h3.one.2,lwo (Mem.qi m3 ob (qk true sp sk si))]
  refine ⟨⟨_,rfl,(hN.qx u3).upd (fp:=[ob]) (Upd.put _ _ (by simp)) (fun b hb=>by simp at hb; omega),rfl⟩,?_⟩
  exact (((u2.mono (fun b hb _=>by simp at hb; simp [hb])).then' u3 (fun b hb=>by cases hb)).kr _ (.inl (by simp)))
 | false =>
  rw [hl] at hN n2
  simp -implicitDefEqProofs only [st0,qb,reduceIte,d2,d3,d4,c3,zN,hpage,d5,d6,lw n2]
  refine qo.2 (qo.2 ((XA hN hok (by omega) (by omega)).mono fun r m3 ⟨hr3,u3⟩=>zs.2 ?_))
  subst hr3
  have n3:=qA u3 (by omega) n2
  have o3:=qA u3 (by omega) o2
  simp -implicitDefEqProofs only [st0,qb,reduceIte,hz,e0,lw n3,zB o3 false h1.one.2 h2.one.2 h3.one.2,lwo (Mem.qi m3 ob (qk false sp sk si))]
  refine ⟨⟨_,rfl,(hN.qx u3).upd (fp:=[ob]) (Upd.put _ _ (by simp)) (fun b hb=>by simp at hb; omega),rfl⟩,?_⟩
  exact (((u2.mono (fun b hb _=>by simp at hb; simp [hb])).then' u3 (fun b hb=>by cases hb)).kr _ (.inl (by simp)))
theorem Yw {α:Type} (g:α→Nat) (c:Nat) (h:∀ a,c≤g a):∀ l:List α,c * l.length≤(l.map g).sum
 | []=>by simp
 | a::l=>by
  have:=Yw g c h l
  have:=h a
  simp only [List.length_cons,List.map_cons,List.sum_cons,Nat.mul_add,Nat.mul_one]
  omega
theorem vq {n:Nd} (h:qT n=true) (hs:zt n≤256):n.pairs.length≤127∧n.keys.length≤84:=by
 unfold qT at h
 unfold zt at hs
 cases hl:n.leaf with
 | true =>
  simp only [hl,if_true,Bool.and_eq_true,List.isEmpty_iff] at h hs
  have:=Yw qI 2 (fun p=>by unfold qI; omega) n.pairs
  rw [h.1.1.1]
  exact ⟨by omega,by simp⟩
 | false =>
  simp only [hl,Bool.false_eq_true,if_false,Bool.and_eq_true,List.isEmpty_iff] at h hs
  have:=Yw (fun k:Bs=>3+k.length) 3 (fun p=>by omega) n.keys
  rw [h.1.1.1]
  exact ⟨by simp,by omega⟩
theorem jn {n:Nd} (h:qT n=true) (hl:n.leaf=true):n.keys=[]∧n.kids=[]∧qC (n.pairs.map (·.1))=true∧∀ p∈n.pairs,p.1≠[]∧p.1.length≤32∧p.2.length≤40:=by
 simp only [qT,hl,if_true,Bool.and_eq_true,List.all_eq_true,decide_eq_true_eq,List.isEmpty_iff] at h
 refine ⟨h.1.1.1,h.1.1.2,h.1.2,fun p hp=>?_⟩
 obtain ⟨i,hi,rfl⟩:=List.mem_iff_getElem.1 hp
 have:=zK h.1.2 i (by simpa using hi)
 rw [List.getElem_map] at this
 exact ⟨this.1,this.2.1,h.2 _ hp⟩
theorem zH {n:Nd} (h:qT n=true) (hl:n.leaf=false):n.pairs=[]∧n.kids.length=n.keys.length+1∧qC n.keys=true∧(∀ k∈n.keys,k≠[]∧k.length≤32)∧∀ k∈n.kids,1≤k∧k≤65535:=by
 simp only [qT,hl,Bool.false_eq_true,if_false,Bool.and_eq_true,List.all_eq_true,decide_eq_true_eq,List.isEmpty_iff] at h
 refine ⟨h.1.1.1,h.1.1.2,h.1.2,fun p hp=>?_,h.2⟩
 obtain ⟨i,hi,rfl⟩:=List.mem_iff_getElem.1 hp
 have:=zK h.1.2 i hi
 exact ⟨this.1,this.2.1⟩
theorem qdg {n:Nd} (m:Mem) (hr:qT n=true) (hs:zt n≤256) :
  W (Call S tab 165 [str (xv n)] m) fun r m'=>(∃ v,r=.tuple #[v,.int .i64 0]∧TN m.next m' v n∧(n.leaf=true→∃ sp,v=yv true sp (.slice none 0 0) (.slice none 0 0)))∧Upd [] m m':=by
 have hfew:=vq hr hs
 have hlen:=Qr hr hs
 have hbl:=QY hr
 rw [qkt]
 have u1:Upd [] m (m.add (qk false (.slice none 0 0) (.slice none 0 0) (.slice none 0 0))):=Upd.add _ _ _
 have o1:(m.add (qk false (.slice none 0 0) (.slice none 0 0) (.slice none 0 0))).get m.next=some (qk false (.slice none 0 0) (.slice none 0 0) (.slice none 0 0)):=Mem.qh ..
 have x1:(m.add (qk false (.slice none 0 0) (.slice none 0 0) (.slice none 0 0))).next=m.next+1:=rfl
 simp -implicitDefEqProofs only [st0,qb,reduceIte,KZ]
 generalize hm1:m.add (qk false (.slice none 0 0) (.slice none 0 0) (.slice none 0 0))=m1 at u1 o1 x1
 have u2:Upd [] m1 (m1.add (rdB (xv n))):=Upd.add _ _ _
 have g2:(m1.add (rdB (xv n))).get m1.next=some (rdB (xv n)):=Mem.qh ..
 have x2:(m1.add (rdB (xv n))).next=m1.next+1:=rfl
 have o2:=qA u2 (by omega) o1
 generalize hm2:m1.add (rdB (xv n))=m2 at u2 g2 x2 o2
 cases hl:n.leaf with
 | true =>
  obtain ⟨hk0,hi0,hris,hps⟩:=jn hr hl
  have hbody:xv n=1::UInt8.ofNat n.pairs.length::((n.pairs.map xz).flatten++qp (256 - (kF n).length)):=by
   unfold xv; conv=>lhs; arg 1; unfold kF
   rw [if_pos hl]; simp
  rw [hbody] at g2
  rw [hbody] at hlen
  refine qo.2 ((vv g2 (by omega) (by omega)).mono fun v3 m3 ⟨r3,g3,u3⟩=>?_)
  rw [show (Value.int .u64 (((1:UInt8).toNat:Nat):Int))=.int .u64 1 from rfl] at r3
  subst r3
  refine qo.2 ((vv g3 (by have:=u3.next; omega) (by simp at hlen ⊢; omega)).mono fun v4 m4 ⟨r4,g4,u4⟩=>?_)
  rw [show (UInt8.ofNat n.pairs.length).toNat=n.pairs.length by simp; omega] at r4
  subst r4
  have u24:Upd [m1.next] m2 m4:=u3.trans u4
  have o4:m4.get m.next=_:=(u24.same m.next (by omega) (by simp; omega)).trans o2
  have d1:decide ((1:Int)=1)=true:=rfl
  have d2:decide ((1:Int)=2)=false:=rfl
  have e1:qy [.bool false,.slice none 0 0,.slice none 0 0,.slice none 0 0] [(0,1,.bool true)]=some [.bool true,.slice none 0 0,.slice none 0 0,.slice none 0 0]:=by kernel_rfl
  have n4:=u24.next
  simp -implicitDefEqProofs only [st0,qb,reduceIte,d1,d2,e1]
  refine jJ (c:=[.bool true,.slice none 0 0,.slice none 0 0,.slice none 0 0]) rfl rfl rfl fun m5 b5 u5 n5=>?_
  have g5:=(u5.same m1.next (by omega) (by simp)).trans g4
  have o5:=qA u5 (by omega) o4
  rw [P165_0_eq]
  refine YM (m0:=m5) (by omega) n5 (by omega) (by omega) (fun p hp=>(hps p hp).2) (z:=qp (256 - (kF n).length)) (fun m' v' g6 b6 hv hvb u6=>?_) _ 0 m5 _ rfl (by omega) (by rw [List.drop_zero]; exact g5) b5 (by rw [List.take_zero]; exact TAp.nil _) (fun b hb=>by simp [qf] at hb) (Upd.refl _ _) (by rw [List.drop_zero]; simp at hlen ⊢; omega)
  have o6:=(u6.same m.next (by omega) (by simp; omega)).trans o5
  have n6:=u6.next
  have:=HS (page:=xv n) (ob:=m.next) (rb:=m1.next) (nb:=m4.next) (n:=n) (sp:=v') (sk:=.slice none 0 0) (si:=.slice none 0 0) (m:=m') (lo:=m5.next) (k:=256 - (kF n).length)
   (Qr hr hs) (by omega) (by omega) (by omega) ⟨by omega,by omega,by omega⟩ g6 (by omega) (by rw [hl]; exact b6) ⟨_,_,_,_,o6⟩ hr (by omega) (by omega) hv (by rw [hk0]; exact TAp.nil _) (by rw [hi0]; exact TAp.nil _) ⟨hvb,fun b hb=>by simp [qf] at hb,fun b hb=>by simp [qf] at hb⟩ ⟨by omega,by omega,by omega⟩
  rw [hl,if_pos rfl] at this
  refine this.mono fun r m7 ⟨⟨v,h1,h2,h4⟩,h3⟩=>⟨⟨v,h1,h2.low (by omega),fun _=>⟨_,h4⟩⟩,?_⟩
  exact (((((u1.qz u2).then' u24 (fun b hb=>.inr (by simp at hb; omega))).qz u5).then' u6 (fun b hb=>.inr (by simp at hb; omega))).then' h3 (fun b hb=>.inr (by simp at hb; omega)))
 | false =>
  obtain ⟨hp0,hkl,hris,hks,hps⟩:=zH hr hl
  have h0:0<n.kids.length:=by omega
  have hbody:xv n=2::UInt8.ofNat n.keys.length::(xU n.kids[0]++((((n.keys.zip n.kids.tail).map wA).flatten)++qp (256 - (kF n).length))):=by
   unfold xv; conv=>lhs; arg 1; unfold kF
   rw [if_neg (by simp [hl]),JM h0]; simp
  rw [hbody] at g2
  rw [hbody] at hlen
  refine qo.2 ((vv g2 (by omega) (by omega)).mono fun v3 m3 ⟨r3,g3,u3⟩=>?_)
  rw [show (Value.int .u64 (((2:UInt8).toNat:Nat):Int))=.int .u64 2 from rfl] at r3
  subst r3
  refine qo.2 ((vv g3 (by have:=u3.next; omega) (by simp at hlen ⊢; omega)).mono fun v4 m4 ⟨r4,g4,u4⟩=>?_)
  rw [show (UInt8.ofNat n.keys.length).toNat=n.keys.length by simp; omega] at r4
  subst r4
  have u24:Upd [m1.next] m2 m4:=u3.trans u4
  have o4:m4.get m.next=_:=(u24.same m.next (by omega) (by simp; omega)).trans o2
  have d1:decide ((2:Int)=1)=false:=rfl
  have d2:decide ((2:Int)=2)=true:=rfl
  have e1:qy [.bool false,.slice none 0 0,.slice none 0 0,.slice none 0 0] [(0,1,.bool false)]=some [.bool false,.slice none 0 0,.slice none 0 0,.slice none 0 0]:=by kernel_rfl
  have n4:=u24.next
  simp -implicitDefEqProofs only [st0,qb,reduceIte,d1,d2,e1]
  refine jJ (c:=[.bool false,.slice none 0 0,.slice none 0 0,.slice none 0 0]) rfl rfl rfl fun m5 b5 u5 n5=>?_
  have g5:=(u5.same m1.next (by omega) (by simp)).trans g4
  have o5:=qA u5 (by omega) o4
  have ldI:∀ {M:Mem},M.get m4.next=some (qk false (.slice none 0 0) (.slice none 0 0) (.slice none 0 0))→qc (.pointer (some ⟨m4.next,0+3,none⟩)) M=some (.slice none 0 0):=fun g=>qs g rfl
  simp -implicitDefEqProofs only [st0,qb,reduceIte,fa,ldI b5]
  have hk0:=hps _ (List.getElem_mem h0)
  refine qo.2 ((Xy hk0.2 g5 (by omega) (by simp [xU] at hlen ⊢; omega)).mono fun v6 m6 ⟨r6,g6,u6⟩=>?_)
  subst r6
  have b6:m6.get m4.next=_:=(u6.same m4.next (by omega) (by simp; omega)).trans b5
  have e3:zk .i64 (.int .u64 (n.kids[0]:Int))=some (.int .i64 (n.kids[0]:Int)):=Qs .u64 (by omega) (by omega)
  have e4:qy [.int .i64 0] [(0,1,.int .i64 (n.kids[0]:Int))]=some (xd.flat [n.kids[0]]):=by kernel_rfl
  simp -implicitDefEqProofs only [st0,qb,reduceIte,e3,e4]
  refine zX (E:=xd) (l:=[]) [n.kids[0]] (by decide) (TAp.nil m6) (by simp) fun w7 m7 q1 q2 q3=>?_
  have q2':Upd [] m6 m7:=q2
  have b7:=qA q2' (by have:=u6.next; omega) b6
  simp -implicitDefEqProofs only [st0,qb,reduceIte,fa,hJ b7 q1.one]
  refine kJ (fun r hr=>?_) ?_
  ·simp only [List.mem_cons,List.not_mem_nil,or_false] at hr
   subst hr
   exact okR fun k _ hk=>by
    have:k=0∨k=1∨k=2:=by omega
    rcases this with rfl|rfl|rfl
    ·exact ⟨_,rfl,ldI b5⟩
    ·exact ⟨_,rfl,ldI b6⟩
    ·exact ⟨_,rfl,ldI (by rw [Mem.zC _ _ (by have:=u6.next; omega)]; exact b6)⟩
  have n6:=u6.next
  have n7:=q2.next
  have g7:=qA q2' (by omega) g6
  have hw7:∀ b∈qf w7,m5.next≤b:=fun b hb=>(q3 b hb).elim (fun h=>by simp [qf] at h) (fun h=>by omega)
  have g8:(m7.put m4.next (qk false (.slice none 0 0) (.slice none 0 0) w7)).get m1.next=_:=(Mem.qu m7 _ (by omega)).trans g7
  have b8:(m7.put m4.next (qk false (.slice none 0 0) (.slice none 0 0) w7)).get m4.next=_:=Mem.qi ..
  have u8:Upd [m1.next,m4.next] m5 (m7.put m4.next (qk false (.slice none 0 0) (.slice none 0 0) w7)):=((u6.mono (fun b hb _=>List.mem_cons.2 (.inl (List.mem_singleton.1 hb)))).qz q2').kr _ (.inl (by simp))
  have hq8:TAp xd 3 (m7.put m4.next (qk false (.slice none 0 0) (.slice none 0 0) w7)) w7 [n.kids[0]]:=q1.upd (Upd.put (fp:=[m4.next]) _ _ (by simp)) (fun b hb hm=>by simp at hm; have:=hw7 b hb; omega)
  generalize (m7.put m4.next (qk false (.slice none 0 0) (.slice none 0 0) w7))=m8 at g8 b8 u8 hq8
  rw [P165_0_eq]
  have n8:=u8.next
  refine Wn (m0:=m5) (by omega) n5 (by omega) (ks:=n.keys) (ps:=n.kids) (by omega) hkl (fun k hk=>(hks k hk).2) (fun k hk=>(hps k hk).2) (z:=qp (256 - (kF n).length)) (fun m' v' w' g9 b9 hv hvb hw hwb u9=>?_) _ 0 m8 _ w7 rfl (by omega) (by rw [List.drop_zero]; exact g8) b8 (by rw [List.take_zero]; exact TAp.nil _) (fun b hb=>by simp [qf] at hb) ?_ hw7 (fun b hb=>by simp [qf] at hb) u8 (by rw [List.drop_zero]; simp [xU] at hlen ⊢; omega)
  ·have o9:=(u9.same m.next (by omega) (by simp; omega)).trans o5
   have n9:=u9.next
   have:=HS (page:=xv n) (ob:=m.next) (rb:=m1.next) (nb:=m4.next) (n:=n) (sp:=.slice none 0 0) (sk:=v') (si:=w') (m:=m') (lo:=m5.next) (k:=256 - (kF n).length)
    (Qr hr hs) (by omega) (by omega) (by omega) ⟨by omega,by omega,by omega⟩ g9 (by omega) (by rw [hl]; exact b9) ⟨_,_,_,_,o9⟩ hr (by omega) (by omega) (by rw [hp0]; exact TAp.nil _) hv hw ⟨fun b hb=>by simp [qf] at hb,hvb,hwb⟩ ⟨by omega,by omega,by omega⟩
   rw [hl,if_neg (by simp)] at this
   refine this.mono fun r m10 ⟨⟨v,h1,h2,h4⟩,h3⟩=>⟨⟨v,h1,h2.low (by omega),fun h=>by simp at h⟩,?_⟩
   exact (((((u1.qz u2).then' u24 (fun b hb=>.inr (by simp at hb; omega))).qz u5).then' u9 (fun b hb=>.inr (by simp at hb; omega))).then' h3 (fun b hb=>.inr (by simp at hb; omega)))
  ·have:n.kids.take (0+1)=[n.kids[0]]:=by rw [List.take_succ_eq_append_getElem h0]; rfl
   rw [this]; exact hq8
end Go.Fx.Tryz
