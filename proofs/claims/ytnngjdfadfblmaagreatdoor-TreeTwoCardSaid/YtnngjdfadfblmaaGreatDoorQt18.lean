/- Parts of a proof: TreeK, TreeL, TreeN, TreeO. Conditions: none. -/
import Derived.Test.YtnngjdfadfblmaaGreatDoorQt17
set_option linter.unusedSimpArgs false
set_option linter.unusedVariables false
namespace Go.Fx.Tryz
open Go Go.Fx
abbrev Pg:=List (Nat × Bs × Nat)
def esL (l:Pg):List MapEntry:=l.map fun e=>{ key:=.int .i64 (e.1:Int),val:=str e.2.1,born:=e.2.2 }
def lkL:Pg→Nat→Option Bs
 | [],_=>none
 | e::l,k=>if e.1=k then some e.2.1 else lkL l k
def upL:Pg→Nat→Bs→Nat→Pg
 | [],k,d,c=>[(k,d,c)]
 | e::l,k,d,c=>if e.1=k then (k,d,e.2.2)::l else e::upL l k d c
theorem HT (k:Nat) (d:Bs) (c:Nat) (j:Nat):∀ l:Pg,lkL (upL l k d c) j=if j=k then some d else lkL l j
 | []=>by simp only [upL,lkL,eq_comm]
 | e::l=>by
  unfold upL
  by_cases h:e.1=k
  ·rw [if_pos h]; simp only [lkL,h]
   by_cases hj:j=k
   ·simp [hj]
   ·rw [if_neg (fun e=>hj e.symm),if_neg hj,if_neg (fun e=>hj e.symm)]
  ·rw [if_neg h]; simp only [lkL,HT k d c j l]
   by_cases hj:e.1=j
   ·rw [if_pos hj,if_neg (by omega),if_pos hj]
   ·rw [if_neg hj,if_neg hj]
theorem qdg (k:Nat):∀ (l:Pg) (i:Nat),vi .int (.int .i64 (k:Int)) (esL l) i=some (match lkL l k with|none=>none|some d=>some (i+(l.findIdx fun e=>decide (e.1=k)),str d))
 | [],i=>rfl
 | e::l,i=>by
  have ih:=qdg k l (i+1)
  simp only [esL,List.map_cons,vi,Jn,if_true,lkL,List.findIdx_cons] at ih ⊢
  by_cases h:e.1=k
  ·have:((k:Int) == (e.1:Int))=true:=by simp [h]
   simp [this,h]
  ·have:((k:Int) == (e.1:Int))=false:=by simp; omega
   simp only [this,if_neg h,decide_eq_false h,cond_false]
   rw [ih]
   cases lkL l k with
   | none=>rfl
   | some d=>simp only [Option.some.injEq,Prod.mk.injEq,and_true]; omega
theorem qcl {k:Nat} {x:Bs} (d:Bs) (c:Nat):∀ (l:Pg),lkL l k=some x→esL (upL l k d c)=(esL l).modify (l.findIdx fun e=>decide (e.1=k)) fun e=>{ e with val:=str d }
 | [],h=>by cases h
 | e::l,h=>by
  unfold upL
  simp only [lkL] at h
  by_cases hk:e.1=k
  ·rw [if_pos hk]; simp [esL,List.findIdx_cons,hk]
  ·rw [if_neg hk] at h ⊢
   have:=qcl d c l h
   simp only [esL,List.map_cons,List.findIdx_cons,decide_eq_false hk,cond_false,List.modify_succ_cons] at this ⊢
   rw [this]
theorem HC {k:Nat} (d:Bs) (c:Nat):∀ (l:Pg),lkL l k=none→esL (upL l k d c)=esL l++[{ key:=.int .i64 (k:Int),val:=str d,born:=c }]
 | [],_=>rfl
 | e::l,h=>by
  unfold upL
  simp only [lkL] at h
  by_cases hk:e.1=k
  ·rw [if_pos hk] at h; cases h
  ·rw [if_neg hk] at h ⊢
   have:=HC d c l h
   simp only [esL,List.map_cons,List.cons_append] at this ⊢
   rw [this]
theorem qeB {m:Mem} {b c:Nat} {l:Pg} {ro:Bool} {lo:Option Nat} (h:m.get b=some ⟨.map (esL l) c,ro,lo⟩) (k:Nat):zC .int (.string ⟨#[]⟩) true (.map (some b)) (.int .i64 (k:Int)) m=some (match lkL l k with|some d=>.tuple #[str d,.bool true]|none=>.tuple #[.string ⟨#[]⟩,.bool false]):=by
 have:m.xL b=some (esL l,c):=by simp [Mem.xL,h]
 simp only [zC,this,Option.bind_some,qdg]
 cases lkL l k<;>rfl
theorem qck {m:Mem} {b c:Nat} {l:Pg} {lo:Option Nat} (h:m.get b=some ⟨.map (esL l) c,false,lo⟩) (k:Nat) (d:Bs):∃ c',xc .int (.map (some b)) (.int .i64 (k:Int)) (str d) m=some (m.put b ⟨.map (esL (upL l k d c)) c',false,lo⟩):=by
 have:m.vg b=some (esL l,c,lo):=by simp [Mem.vg,h]
 simp only [xc,this,Option.bind_some,XE,if_true,qdg]
 cases hk:lkL l k with
 | none=>exact ⟨c+1,by rw [HC d c l hk]; rfl⟩
 | some x=>exact ⟨c,by rw [qcl d c l hk]; simp⟩
def xQ (u:Bs) (n:Nat):Bool:=(u.getD (n / 8) 0).toNat.testBit (n % 8)
def Za (a:UInt8) (j:Nat):UInt8:=UInt8.ofNat (a.toNat ^^^ 2 ^ j)
def zZ (u:Bs) (n:Nat):Bs:=u.set (n / 8) (Za (u.getD (n / 8) 0) (n % 8))
theorem Yq (a:UInt8) {j:Nat} (hj:j<8):a.toNat ^^^ 2 ^ j<256:=Nat.xor_lt_two_pow (n:=8) a.toNat_lt (Nat.pow_lt_pow_right (by omega) hj)
theorem ZP (u:Bs) {n:Nat} (hn:n / 8<u.length) (k:Nat):xQ (zZ u n) k=(xQ u k ^^ decide (k=n)):=by
 have hj:n % 8<8:=Nat.mod_lt _ (by omega)
 have ht:(Za (u.getD (n / 8) 0) (n % 8)).toNat=(u.getD (n / 8) 0).toNat ^^^ 2 ^ (n % 8):=by
  unfold Za; rw [UInt8.toNat_ofNat',Nat.mod_eq_of_lt (Yq _ hj)]
 unfold xQ zZ
 by_cases h:k / 8=n / 8
 ·rw [List.getD_eq_getElem?_getD,List.getElem?_set,if_pos h.symm,if_pos hn,Option.getD_some,ht,Nat.testBit_xor,Nat.testBit_two_pow,h]
  congr 1
  have:(n % 8=k % 8)↔(k=n):=by omega
  simp [this]
 ·rw [List.getD_eq_getElem?_getD,List.getElem?_set,if_neg (fun e=>h e.symm),← List.getD_eq_getElem?_getD,decide_eq_false (by rintro rfl; exact h rfl)]
  simp
theorem qaO (u:Bs) (n:Nat):(zZ u n).length=u.length:=List.length_set ..
theorem qey (a:Nat):BitVec.ofInt 8 (a:Int)=BitVec.ofNat 8 a:=BitVec.ofInt_natCast ..
theorem Kc {a:Nat} (h:a<256):IntKind.u8.wrap (a:Int)=(a:Int):=qgz (by omega) (by omega)
theorem qfi (a j:Nat):a &&& 2 ^ j=if a.testBit j then 2 ^ j else 0:=by
 apply Nat.eq_of_testBit_eq
 intro i
 rw [Nat.testBit_and,Nat.testBit_two_pow]
 by_cases h:j=i
 ·subst h; cases hb:a.testBit j<;>simp [Nat.testBit_two_pow]
 ·cases hb:a.testBit j<;>simp [Nat.testBit_two_pow,h]
theorem qiX (a:UInt8) {j:Nat} (hj:j<8):arith .and (.int .u8 (a.toNat:Int)) (.int .u8 ((2 ^ j:Nat):Int))=some (.int .u8 ((if a.toNat.testBit j then 2 ^ j else 0:Nat):Int)):=by
 have hp:2 ^ j<2 ^ 8:=Nat.pow_lt_pow_right (by omega) hj
 have h1:(BitVec.ofInt 8 (a.toNat:Int) &&& BitVec.ofInt 8 ((2 ^ j:Nat):Int)).toNat=if a.toNat.testBit j then 2 ^ j else 0:=by
  rw [qey,qey,BitVec.toNat_and,BitVec.toNat_ofNat,BitVec.toNat_ofNat,Nat.mod_eq_of_lt (show a.toNat<2 ^ 8 from a.toNat_lt),Nat.mod_eq_of_lt hp,qfi]
 have h2:(if a.toNat.testBit j then 2 ^ j else 0:Nat)<256:=by split<;>omega
 simp only [arith,if_true,iop,Zl]
 rw [show IntKind.u8.bits=8 from rfl,h1,Kc h2]
 rfl
theorem qiP (a:UInt8) {j:Nat} (hj:j<8):arith .xor (.int .u8 (a.toNat:Int)) (.int .u8 ((2 ^ j:Nat):Int))=some (.int .u8 ((Za a j).toNat:Int)):=by
 have hp:2 ^ j<2 ^ 8:=Nat.pow_lt_pow_right (by omega) hj
 have h1:(BitVec.ofInt 8 (a.toNat:Int) ^^^ BitVec.ofInt 8 ((2 ^ j:Nat):Int)).toNat=a.toNat ^^^ 2 ^ j:=by
  rw [qey,qey,BitVec.toNat_xor,BitVec.toNat_ofNat,BitVec.toNat_ofNat,Nat.mod_eq_of_lt (show a.toNat<2 ^ 8 from a.toNat_lt),Nat.mod_eq_of_lt hp]
 have ht:(Za a j).toNat=a.toNat ^^^ 2 ^ j:=by unfold Za; rw [UInt8.toNat_ofNat',Nat.mod_eq_of_lt (Yq _ hj)]
 simp only [arith,if_true,iop,Zl]
 rw [show IntKind.u8.bits=8 from rfl,h1,Kc (Yq a hj),ht]
 rfl
theorem qfu {j:Nat} (hj:j<8):arith .shl (.int .u8 1) (.int .i64 (j:Int))=some (.int .u8 ((2 ^ j:Nat):Int)):=by
 have hp:2 ^ j<2 ^ 8:=Nat.pow_lt_pow_right (by omega) hj
 have hb:min (j:Int).toNat IntKind.u8.bits=j:=by simp only [Int.toNat_natCast]; exact Nat.min_eq_left (by show j≤8; omega)
 have h2:¬ ((j:Int)<0):=by omega
 simp only [arith,if_neg h2,hb]
 congr 2
 rw [show ((1:Int) * 2 ^ j)=((2 ^ j:Nat):Int) by simp]
 exact Kc hp
theorem qht (n:Nat) (h:n<65536):arith .quo (.int .i64 (n:Int)) (.int .i64 8)=some (.int .i64 ((n / 8:Nat):Int)):=by
 have e:IntKind.i64.wrap ((n:Int).tdiv 8)=((n / 8:Nat):Int):=by
  rw [Int.tdiv_eq_ediv_of_nonneg (by omega),wrap64 (by omega) (by omega)]; omega
 have z:¬ ((8:Int)=0):=by omega
 simp only [arith,iop,if_true,if_neg z,e]
theorem qhs (n:Nat) (h:n<65536):arith .rem (.int .i64 (n:Int)) (.int .i64 8)=some (.int .i64 ((n % 8:Nat):Int)):=by
 have e:(n:Int).tmod 8=((n % 8:Nat):Int):=by
  rw [Int.tmod_eq_emod_of_nonneg (by omega)]; omega
 have z:¬ ((8:Int)=0):=by omega
 simp only [arith,iop,if_true,if_neg z,e]
structure Wo where
 w:Nat
 pm:Nat
 c:Nat
 p:Nat
 P:Nat
 u:Bs
 hd:Bs
 nt:Value
 L:Pg
def Wo.cells (o:Wo):List Value:=.pointer (some ⟨o.c,0,none⟩)::((o.u.map fun b=>.int .u8 (b.toNat:Int))++[str o.hd,.map (some o.pm),o.nt,.bool false])
structure WR (o:Wo) (m:Mem):Prop where
 hw:m.get o.w=some ⟨.cells o.cells 107,false,none⟩
 hu:o.u.length=20
 hm:∃ k lo,m.get o.pm=some ⟨.map (esL o.L) k,false,lo⟩
 hc:∃ r t ro lo,m.get o.c=some ⟨.cells (.pointer (some ⟨o.p,0,none⟩)::r) t,ro,lo⟩
 hp:∃ d a cap r t ro lo,m.get o.p=some ⟨.cells (d::.slice a o.P cap::r) t,ro,lo⟩
 hP:o.P≤160
 lw:o.w<m.next
 lm:o.pm<m.next
 lc:o.c<m.next
 lp:o.p<m.next
 ne:o.w≠o.pm∧o.w≠o.c∧o.w≠o.p∧o.pm≠o.c∧o.pm≠o.p
theorem WR.upd {o:Wo} {fp:List Nat} {m m':Mem} (h:WR o m) (hu:Upd fp m m') (hf:∀ b∈fp,b≠o.w∧b≠o.pm∧b≠o.c∧b≠o.p):WR o m':=by
 have k:∀ {b:Nat},b<m.next→(b∉fp)→m'.get b=m.get b:=fun h1 h2=>hu.same _ h1 h2
 have n:=hu.next
 refine ⟨by rw [k h.lw (fun hm=>(hf _ hm).1 rfl)]; exact h.hw,h.hu,by rw [k h.lm (fun hm=>(hf _ hm).2.1 rfl)]; exact h.hm,by rw [k h.lc (fun hm=>(hf _ hm).2.2.1 rfl)]; exact h.hc,by rw [k h.lp (fun hm=>(hf _ hm).2.2.2 rfl)]; exact h.hp,h.hP,?_,?_,?_,?_,h.ne⟩
 ·have:=h.lw; omega
 ·have:=h.lm; omega
 ·have:=h.lc; omega
 ·have:=h.lp; omega
theorem WR.qt {o:Wo} {m m':Mem} (h:WR o m) (hu:Upd [] m m'):WR o m':=h.upd hu (fun b hb=>by cases hb)
section
variable {o:Wo} {m:Mem}
theorem Wo.at {o:Wo} (hu:o.u.length=20):o.cells[0]? = some (.pointer (some ⟨o.c,0,none⟩))∧(∀ i,i<20→o.cells[1+i]? = some (.int .u8 ((o.u.getD i 0).toNat:Int)))∧o.cells[21]? = some (str o.hd)∧o.cells[22]? = some (.map (some o.pm))∧o.cells[23]? = some o.nt∧o.cells[24]? = some (.bool false):=by
 have hl:(o.u.map fun b=>Value.int .u8 (b.toNat:Int)).length=20:=by simpa using hu
 refine ⟨rfl,fun i hi=>?_,?_,?_,?_,?_⟩
 ·unfold Wo.cells
  rw [Nat.add_comm,List.getElem?_cons_succ,List.getElem?_append_left (by omega),List.getElem?_map,List.getElem?_eq_getElem (by omega),List.getD_eq_getElem?_getD,List.getElem?_eq_getElem (by omega)]
  rfl
 all_goals unfold Wo.cells; rw [List.getElem?_cons_succ,List.getElem?_append_right (by omega),hl]; rfl
theorem wC (h:WR o m):Call S tab 45 [.pointer (some ⟨o.w,0,none⟩)] m=some (.int .i64 0,m):=by
 refine W_eq ?_
 rw [C45]
 simp -implicitDefEqProofs only [st0,qc,reduceIte,Qd,nck,fa,qu h.hw (o:=0+24) (Wo.at h.hu).2.2.2.2.2]
 exact ⟨trivial,trivial⟩
theorem kt (h:WR o m):Call S tab 46 [.pointer (some ⟨o.c,0,none⟩)] m=some (.int .i64 (o.P:Int),m):=by
 refine W_eq ?_
 obtain ⟨r,t,ro,lo,hc⟩:=h.hc
 obtain ⟨d,a,cap,r',t',ro',lo',hp⟩:=h.hp
 rw [C46]
 have e1:qb (.pointer (some ⟨o.c,0+0,none⟩)) m=some (.pointer (some ⟨o.p,0,none⟩)):=qu hc rfl
 have e2:qb (.pointer (some ⟨o.p,0+1,none⟩)) m=some (.slice a o.P cap):=qu hp rfl
 have e3:qd (.slice a o.P cap)=some (.int .i64 (o.P:Int)):=rfl
 simp -implicitDefEqProofs only [st0,qc,reduceIte,Qd,nck,fa,e1,C96,e2,e3]
 exact ⟨trivial,trivial⟩
theorem qhC {b off n len:Nat} (h:n<len):jm len 1 (.pointer (some ⟨b,off,none⟩)) (.int .i64 (n:Int))=some (.pointer (some ⟨b,off+n,none⟩)):=by
 have:(0:Int)≤(n:Int)∧(n:Int)<(len:Int):=by omega
 simp only [jm,if_pos this,Int.toNat_natCast,Nat.mul_one]
theorem qcP (h:WR o m) {n:Nat} (hn:n<160):Call S tab 47 [.pointer (some ⟨o.w,0+1,none⟩),.int .i64 (n:Int)] m=some (.bool (xQ o.u n),m):=by
 refine W_eq ?_
 have hj:n % 8<8:=Nat.mod_lt _ (by omega)
 have e:qb (.pointer (some ⟨o.w,0+1+0+n / 8,none⟩)) m=some (.int .u8 ((o.u.getD (n / 8) 0).toNat:Int)):=qu h.hw (by rw [show 0+1+0+n / 8=1+n / 8 by omega]; exact (Wo.at h.hu).2.1 _ (by omega))
 rw [C47]
 have hp:0<2 ^ (n % 8):=Nat.two_pow_pos _
 have e2:decide ((((if (o.u.getD (n / 8) 0).toNat.testBit (n % 8) then 2 ^ (n % 8) else 0:Nat):Int))=0)=!xQ o.u n:=by
  unfold xQ
  cases (o.u.getD (n / 8) 0).toNat.testBit (n % 8) with
  | true=>simp only [if_true,Bool.not_true]; exact decide_eq_false (by omega)
  | false=>rfl
 simp -implicitDefEqProofs only [st0,qc,reduceIte,nck,fa,qht n (by omega),qhs n (by omega),qhC (off:=0+1+0) (show n / 8<20 by omega),e,qfu hj,qiX _ hj,e2,Bool.not_not]
 exact ⟨trivial,trivial⟩
theorem Wo.set {o:Wo} (hu:o.u.length=20) (n:Nat) (hn:n / 8<20):o.cells.set (0+1+0+n / 8) (.int .u8 ((Za (o.u.getD (n / 8) 0) (n % 8)).toNat:Int))=Wo.cells { o with u:=zZ o.u n }:=by
 unfold Wo.cells zZ
 rw [show 0+1+0+n / 8=n / 8+1 by omega,List.set_cons_succ,List.set_append_left _ _ (by simpa using by omega),List.map_set]
theorem WR.w {o o':Wo} {m:Mem} (h:WR o m) (he:o'.w=o.w∧o'.pm=o.pm∧o'.c=o.c∧o'.p=o.p∧o'.P=o.P∧o'.L=o.L) (hu:o'.u.length=20):WR o' (m.put o.w ⟨.cells o'.cells 107,false,none⟩):=by
 obtain ⟨e1,e2,e3,e4,e5,e6⟩:=he
 obtain ⟨n1,n2,n3,n4,n5⟩:=h.ne
 refine ⟨by rw [e1]; exact Mem.qj ..,hu,?_,?_,?_,by rw [e5]; exact h.hP,by rw [e1]; exact h.lw,by rw [e2]; exact h.lm,by rw [e3]; exact h.lc,by rw [e4]; exact h.lp,by rw [e1,e2,e3,e4]; exact h.ne⟩
 ·rw [e2,e6,Mem.qn _ _ (fun e=>n1 e.symm)]; exact h.hm
 ·rw [e3,e4,Mem.qn _ _ (fun e=>n2 e.symm)]; exact h.hc
 ·rw [e4,e5,Mem.qn _ _ (fun e=>n3 e.symm)]; exact h.hp
theorem HF (h:WR o m) {n:Nat} (hn:n<160):∃ m',Call S tab 62 [.pointer (some ⟨o.w,0+1,none⟩),.int .i64 (n:Int)] m=some (.tuple #[],m')∧WR { o with u:=zZ o.u n } m'∧Upd [o.w] m m':=by
 refine ⟨m.put o.w ⟨.cells (Wo.cells { o with u:=zZ o.u n }) 107,false,none⟩,?_,h.w ⟨rfl,rfl,rfl,rfl,rfl,rfl⟩ (by rw [qaO]; exact h.hu),Upd.put _ _ (by simp)⟩
 refine W_eq ?_
 have hj:n % 8<8:=Nat.mod_lt _ (by omega)
 have e:qb (.pointer (some ⟨o.w,0+1+0+n / 8,none⟩)) m=some (.int .u8 ((o.u.getD (n / 8) 0).toNat:Int)):=qu h.hw (by rw [show 0+1+0+n / 8=1+n / 8 by omega]; exact (Wo.at h.hu).2.1 _ (by omega))
 have e2:qi 1 (.pointer (some ⟨o.w,0+1+0+n / 8,none⟩)) (.int .u8 ((Za (o.u.getD (n / 8) 0) (n % 8)).toNat:Int)) m=some (m.put o.w ⟨.cells (Wo.cells { o with u:=zZ o.u n }) 107,false,none⟩):=by
  rw [← Wo.set h.hu n (by omega)]
  have hl:o.cells.length=25:=by unfold Wo.cells; simp [h.hu]
  exact zr h.hw (by omega) rfl rfl
 rw [C62]
 simp -implicitDefEqProofs only [st0,qc,reduceIte,nck,fa,qht n (by omega),qhs n (by omega),qhC (off:=0+1+0) (show n / 8<20 by omega),e,qfu hj,qiP _ hj,e2]
 exact ⟨trivial,trivial⟩
def Wo.has (o:Wo) (n:Nat):Bool:=decide (1≤n)&&decide (n<o.P)&&xQ o.u n
theorem ZT (h:WR o m) (n:Nat) (hn:n≤65536):Call S tab 69 [.pointer (some ⟨o.w,0,none⟩),.int .i64 (n:Int)] m=some (.int .i64 (if o.has n then 0 else 7),m):=by
 refine W_eq ?_
 have e0:qb (.pointer (some ⟨o.w,0+0,none⟩)) m=some (.pointer (some ⟨o.c,0,none⟩)):=qu h.hw (Wo.at h.hu).1
 have d0:decide ((0:Int)=0)=true:=rfl
 have hP:=h.hP
 unfold Wo.has
 rw [C69]
 by_cases h1:1≤n
 ·have e1:((n:Int)≤0)=False:=eq_false (by omega)
  by_cases h2:n<o.P
  ·have e2:((o.P:Int)≤(n:Int))=False:=eq_false (by omega)
   have e3:=qcP h (n:=n) (by omega)
   cases hb:xQ o.u n<;>rw [hb] at e3<;>simp -implicitDefEqProofs only [st0,qc,reduceIte,wC h,d0,e1,nck,fa,e0,kt h,e2,e3,h1,h2,Bool.true_and]<;>exact ⟨trivial,trivial⟩
  ·have e2:((o.P:Int)≤(n:Int))=True:=eq_true (by omega)
   simp -implicitDefEqProofs only [st0,qc,reduceIte,wC h,d0,e1,nck,fa,e0,kt h,e2,h1,h2,Bool.true_and,Bool.false_and]
   exact ⟨trivial,trivial⟩
 ·have e1:((n:Int)≤0)=True:=eq_true (by omega)
  simp -implicitDefEqProofs only [st0,qc,reduceIte,wC h,d0,e1,h1,Bool.false_and]
  exact ⟨trivial,trivial⟩
theorem xt0 (a b:Value):qf 0 (.tuple #[a,b])=some a:=rfl
theorem xt1 (a b:Value):qf 1 (.tuple #[a,b])=some b:=rfl
theorem qch (h:WR o m) {n:Nat} (hn:n≤65536) (hh:o.has n=true) {d:Bs} (hd:lkL o.L n=some d):Call S tab 98 [.pointer (some ⟨o.w,0,none⟩),.int .i64 (n:Int)] m=some (.tuple #[str d,.int .i64 0],m):=by
 refine W_eq ?_
 have t:=ZT h n hn
 rw [hh,if_pos rfl] at t
 obtain ⟨k,lo,hm⟩:=h.hm
 have e:=qeB hm n
 rw [hd] at e
 have d0:decide ((0:Int)=0)=true:=rfl
 have e1:qb (.pointer (some ⟨o.w,0+1+21,none⟩)) m=some (.map (some o.pm)):=qu h.hw (Wo.at h.hu).2.2.2.1
 rw [C98]
 simp -implicitDefEqProofs only [st0,qc,reduceIte,t,d0,nck,fa,e1,e,xt0,xt1]
 exact ⟨trivial,trivial⟩
theorem qaL (h:WR o m) {n:Nat} (hn:n≤65536) (hh:o.has n=true) (d:Bs) (hd:d.length=256):∃ m' c,Call S tab 28 [.pointer (some ⟨o.w,0,none⟩),.int .i64 (n:Int),str d] m=some (.int .i64 0,m')∧WR { o with L:=upL o.L n d c } m'∧Upd [o.pm] m m':=by
 have t:=ZT h n hn
 rw [hh,if_pos rfl] at t
 obtain ⟨k,lo,hm⟩:=h.hm
 obtain ⟨k',e⟩:=qck hm n d
 obtain ⟨n1,n2,n3,n4,n5⟩:=h.ne
 refine ⟨_,k,W_eq ?_,⟨?_,h.hu,⟨k',lo,Mem.qj ..⟩,?_,?_,h.hP,h.lw,h.lm,h.lc,h.lp,h.ne⟩,Upd.put _ _ (by simp)⟩
 ·have d0:decide ((0:Int)=0)=true:=rfl
  have d1:((d.length:Int)=256)=True:=eq_true (by omega)
  have e1:qb (.pointer (some ⟨o.w,0+1+21,none⟩)) m=some (.map (some o.pm)):=qu h.hw (Wo.at h.hu).2.2.2.1
  rw [C28]
  simp -implicitDefEqProofs only [st0,qc,reduceIte,t,d0,zy,d1,nck,fa,e1,e]
  exact ⟨trivial,trivial⟩
 ·rw [Mem.qn _ _ n1]; exact h.hw
 ·rw [Mem.qn _ _ (fun e=>n4 e.symm)]; exact h.hc
 ·rw [Mem.qn _ _ (fun e=>n5 e.symm)]; exact h.hp
theorem qci (h:WR o m) {n:Nat} (hn:n≤65536) (hh:o.has n=true):∃ m',Call S tab 155 [.pointer (some ⟨o.w,0,none⟩),.int .i64 (n:Int)] m=some (.int .i64 0,m')∧WR { o with u:=zZ o.u n } m'∧Upd [o.w] m m':=by
 have t:=ZT h n hn
 rw [hh,if_pos rfl] at t
 have hP:=h.hP
 have hlt:n<160:=by
  unfold Wo.has at hh
  simp only [Bool.and_eq_true,decide_eq_true_eq] at hh
  omega
 obtain ⟨m',e,hr,hu⟩:=HF h hlt
 refine ⟨m',W_eq ?_,hr,hu⟩
 have d0:decide ((0:Int)=0)=true:=rfl
 rw [qjx]
 simp -implicitDefEqProofs only [st0,qc,reduceIte,t,d0,nck,fa,e]
 exact ⟨trivial,trivial⟩
end
end Go.Fx.Tryz
namespace Go.Fx.Tryz
open Go Go.Fx
section
variable {o:Wo} {m:Mem}
theorem YW (m:Mem):Call S tab 63 [.int .i64 256] m=some (str (qq 256),m):=by
 refine W_eq ?_
 have:=Jt 256 (by omega) m
 rw [show (Value.int .i64 ((256:Nat):Int))=.int .i64 256 from rfl] at this
 rw [C63]
 simp -implicitDefEqProofs only [st0,qc,reduceIte,this]
 exact ⟨trivial,trivial⟩
theorem xS (k:Nat):(qq k).length=k:=List.length_replicate ..
theorem Jl (h:WR o m) {Q:Value→Mem→Prop} (h0:(∀ n,1≤n→n<o.P→xQ o.u n=true)→Q (.tuple #[.int .i64 0,.int .i64 8]) m)
  (h1:∀ n m' c,1≤n→n<o.P→xQ o.u n=false→WR { o with u:=zZ o.u n,L:=upL o.L n (qq 256) c } m'→Upd [o.w,o.pm] m m'→Q (.tuple #[.int .i64 (n:Int),.int .i64 0]) m') :
  ∀ (d i:Nat),o.P - i=d→1≤i→(∀ n,1≤n→n<i→xQ o.u n=true)→W (qaC (.pointer (some ⟨o.w,0,none⟩)) (.int .i64 (i:Int)) m) Q:=by
 have e0:qb (.pointer (some ⟨o.w,0+0,none⟩)) m=some (.pointer (some ⟨o.c,0,none⟩)):=qu h.hw (Wo.at h.hu).1
 have hP:=h.hP
 intro d
 induction d with
 | zero =>
  intro i hd hi ha
  have e1:((i:Int)<(o.P:Int))=False:=eq_false (by omega)
  rw [P26_0_eq]
  simp -implicitDefEqProofs only [st0,qc,reduceIte,nck,fa,e0,kt h,e1]
  exact h0 fun n h2 h3=>ha n h2 (by omega)
 | succ d ih =>
  intro i hd hi ha
  have e1:((i:Int)<(o.P:Int))=True:=eq_true (by omega)
  have e3:=qcP h (n:=i) (by omega)
  rw [P26_0_eq]
  cases hb:xQ o.u i with
  | true =>
   rw [hb] at e3
   simp -implicitDefEqProofs only [st0,qc,reduceIte,nck,fa,e0,kt h,e1,e3,qE (i:=i) (by omega)]
   refine ih (i+1) (by omega) (by omega) fun n h2 h3=>?_
   by_cases hn:n=i
   ·rw [hn]; exact hb
   ·exact ha n h2 (by omega)
  | false =>
   rw [hb] at e3
   obtain ⟨m1,e4,r1,u1⟩:=HF h (n:=i) (by omega)
   obtain ⟨k,lo,hm⟩:=r1.hm
   obtain ⟨k',e5⟩:=qck hm i (qq 256)
   obtain ⟨n1,n2,n3,n4,n5⟩:=r1.ne
   have e6:qb (.pointer (some ⟨o.w,0+1+21,none⟩)) m1=some (.map (some o.pm)):=qu r1.hw (Wo.at r1.hu).2.2.2.1
   simp -implicitDefEqProofs only [st0,qc,reduceIte,nck,fa,e0,kt h,e1,e3,e4,e6,YW,e5]
   refine kz (fun r hr=>?_) (xI.2 (h1 i _ k hi (by omega) hb ⟨(Mem.qn _ _ n1).trans r1.hw,r1.hu,⟨k',lo,Mem.qj ..⟩,by rw [Mem.qn _ _ (fun e=>n4 e.symm)]; exact r1.hc,by rw [Mem.qn _ _ (fun e=>n5 e.symm)]; exact r1.hp,r1.hP,r1.lw,r1.lm,r1.lc,r1.lp,r1.ne⟩ ((u1.mono fun b hb _=>by simp at hb; simp [hb]).trans (Upd.put _ _ (by simp)))))
   simp only [List.mem_cons,List.not_mem_nil,or_false] at hr
   subst hr
   exact okR fun k _ hk=>by
    have:k=0∨k=1:=by omega
    rcases this with rfl|rfl<;>exact ⟨_,rfl,e6⟩
theorem qej (h:WR o m):W (Call S tab 26 [.pointer (some ⟨o.w,0,none⟩)] m) fun r m' =>
  (r=.tuple #[.int .i64 0,.int .i64 8]∧m'=m)∨∃ n c,1≤n∧n<o.P∧xQ o.u n=false∧r=.tuple #[.int .i64 (n:Int),.int .i64 0]∧WR { o with u:=zZ o.u n,L:=upL o.L n (qq 256) c } m'∧Upd [o.w,o.pm] m m':=by
 have d0:decide ((0:Int)=0)=true:=rfl
 rw [C26]
 simp -implicitDefEqProofs only [st0,qc,reduceIte,wC h,d0]
 exact Jl h (fun _=>.inl ⟨rfl,rfl⟩) (fun n m' c h1 h2 h3 h4 h5=>.inr ⟨n,c,h1,h2,h3,rfl,h4,h5⟩) _ 1 rfl (by omega) (by omega)
def Wo.used (o:Wo):Nat:=1+((List.range o.P).filter o.has).length
theorem qaN (h:WR o m):∀ (d i:Nat),o.P - i=d→1≤i→W (Yl (.pointer (some ⟨o.w,0,none⟩)) (.int .i64 ((1+((List.range i).filter o.has).length:Nat):Int)) (.int .i64 (i:Int)) m) fun r m'=>r=.int .i64 ((1+((List.range (max i o.P)).filter o.has).length:Nat):Int)∧m'=m:=by
 have e0:qb (.pointer (some ⟨o.w,0+0,none⟩)) m=some (.pointer (some ⟨o.c,0,none⟩)):=qu h.hw (Wo.at h.hu).1
 have hP:=h.hP
 intro d
 induction d with
 | zero =>
  intro i hd hi
  have e1:((i:Int)<(o.P:Int))=False:=eq_false (by omega)
  rw [P18_0_eq,Nat.max_eq_left (by omega)]
  simp -implicitDefEqProofs only [st0,qc,reduceIte,nck,fa,e0,kt h,e1]
  exact ⟨trivial,trivial⟩
 | succ d ih =>
  intro i hd hi
  have e1:((i:Int)<(o.P:Int))=True:=eq_true (by omega)
  have e3:=qcP h (n:=i) (by omega)
  have hle:((List.range i).filter o.has).length≤160:=Nat.le_trans (List.length_filter_le ..) (by rw [List.length_range]; omega)
  have ih':=ih (i+1) (by omega) (by omega)
  have hhas:o.has i=xQ o.u i:=by
   unfold Wo.has; simp [hi,show i<o.P by omega]
  rw [List.range_succ,List.filter_append,List.length_append,show max (i+1) o.P=max i o.P by omega] at ih'
  rw [P18_0_eq]
  cases hb:xQ o.u i with
  | true =>
   rw [hb] at e3 hhas
   simp -implicitDefEqProofs only [st0,qc,reduceIte,nck,fa,e0,kt h,e1,e3,qE (i:=i) (by omega),qE (i:=1+((List.range i).filter o.has).length) (by omega)]
   simpa [hhas,Nat.add_assoc] using ih'
  | false =>
   rw [hb] at e3 hhas
   simp -implicitDefEqProofs only [st0,qc,reduceIte,nck,fa,e0,kt h,e1,e3,qE (i:=i) (by omega)]
   simpa [hhas] using ih'
theorem qef (h:WR o m) (hp:1≤o.P):Call S tab 18 [.pointer (some ⟨o.w,0,none⟩)] m=some (.int .i64 (o.used:Int),m):=by
 refine W_eq ?_
 have d0:decide ((0:Int)=0)=true:=rfl
 rw [C18]
 simp -implicitDefEqProofs only [st0,qc,reduceIte,wC h,d0]
 have:=qaN h _ 1 rfl (by omega)
 rw [Nat.max_eq_right hp] at this
 have h0:((List.range 1).filter o.has).length=0:=by simp [List.range_succ,Wo.has]
 rw [h0] at this
 exact this
end
end Go.Fx.Tryz
namespace Go.Fx.Tryz
open Go Go.Fx
structure St where
 u:Bs
 hd:Bs
 pm:Nat
 hu:u.length=20
def St.cells (s:St):List Value:=(s.u.map fun b=>.int .u8 (b.toNat:Int))++[str s.hd,.map (some s.pm)]
theorem St.len (s:St):s.cells.length=22:=by unfold St.cells; simp [s.hu]
theorem St.all (s:St):s.cells.all (·.oneCell')=true:=by
 unfold St.cells
 rw [List.all_append,List.all_map]
 simp only [Bool.and_eq_true,List.all_eq_true]
 exact ⟨fun x _=>rfl,fun x hx=>by simp only [List.mem_cons,List.not_mem_nil,or_false] at hx; rcases hx with rfl|rfl<;>rfl⟩
def wM:Enc St:=⟨22,St.cells,St.len,St.all⟩
theorem WH (s:St):wM.cells s=s.cells:=rfl
theorem He:wM.size=22:=rfl
theorem St.qiV (s:St):s.cells[0+21]? = some (.map (some s.pm)):=by
 unfold St.cells
 rw [List.getElem?_append_right (by simp [s.hu]),List.length_map,s.hu]; rfl
theorem St.qhr (s:St) (pm:Nat):s.cells.set (0+21) (.map (some pm))=St.cells { s with pm:=pm }:=by
 unfold St.cells
 rw [List.set_append_right _ _ (by simp [s.hu]),List.length_map,s.hu]; rfl
def Wo.st (o:Wo) (h:o.u.length=20):St:=⟨o.u,o.hd,o.pm,h⟩
theorem Wo.WX (o:Wo) (h:o.u.length=20):o.cells=.pointer (some ⟨o.c,0,none⟩)::((o.st h).cells++[o.nt,.bool false]):=by
 unfold Wo.cells Wo.st St.cells; simp
theorem qbr {m:Mem} {b:Nat} {pre c post:List Value} {e:TypeId} {ro:Bool} {lo:Option Nat} {n k:Nat} (hb:m.get b=some ⟨.cells (pre++(c++post)) e,ro,lo⟩) (hk:pre.length=k) (hc:c.length=n):qm n (.pointer (some ⟨b,k,none⟩)) m=some (.agg c.toArray):=by
 simp only [qm,jH,Option.bind_some,zN hb]
 rw [if_pos (by simp; omega),← hk,List.drop_left' rfl,← hc,List.take_left' rfl]
theorem Yv {m:Mem} {b:Nat} {pre c post:List Value} {e:TypeId} {lo:Option Nat} {n k:Nat} {vs:List Value} (hb:m.get b=some ⟨.cells (pre++(c++post)) e,false,lo⟩) (hk:pre.length=k) (hc:c.length=n) (hv:vs.length=n) (h1:vs.all (·.oneCell')=true) :
  qi n (.pointer (some ⟨b,k,none⟩)) (.agg vs.toArray) m=some (m.put b ⟨.cells (pre++(vs++post)) e,false,lo⟩):=by
 have how:m.jt b=some (pre++(c++post),e,lo):=by simp [Mem.jt,hb]
 have hs:(Value.agg vs.toArray).cells.size=n:=by simpa [Value.cells] using hv
 simp only [qi,jH,Option.bind_some,how]
 rw [if_pos ⟨hs,by simp; omega,by simpa [Value.cells] using h1⟩]
 have:=xe pre c post vs (by omega)
 rw [hk] at this
 simp [Value.cells,this]
theorem Wa {m:Mem} (s:St) {L:Pg} {k:Nat} {ro:Bool} {lo:Option Nat} (hm:m.get s.pm=some ⟨.map (esL L) k,ro,lo⟩) (hlt:s.pm<m.next) :
  ∃ m' pm',Call S tab 154 [.agg s.cells.toArray] m=some (.agg (St.cells { s with pm:=pm' }).toArray,m')∧m.next≤pm'∧pm'<m'.next∧m'.get pm'=some ⟨.map (esL L) k,false,none⟩∧Upd [] m m':=by
 have key:W (Call S tab 154 [.agg s.cells.toArray] m) fun r m'=>∃ pm',r=.agg (St.cells { s with pm:=pm' }).toArray∧m.next≤pm'∧pm'<m'.next∧m'.get pm'=some ⟨.map (esL L) k,false,none⟩∧Upd [] m m':=by
  rw [qjy]
  simp -implicitDefEqProofs only [st0,qc,reduceIte,qQ]
  have u1:Upd [] m (m.add ⟨.cells s.cells 104,false,none⟩):=Upd.add _ _ _
  have g1:(m.add ⟨.cells s.cells 104,false,none⟩).get m.next=some ⟨.cells s.cells 104,false,none⟩:=Mem.qk ..
  have n1:(m.add ⟨.cells s.cells 104,false,none⟩).next=m.next+1:=rfl
  generalize (m.add ⟨.cells s.cells 104,false,none⟩)=m1 at u1 g1 n1
  generalize hz:([.int .u8 0,.int .u8 0,.int .u8 0,.int .u8 0,.int .u8 0,.int .u8 0,.int .u8 0,.int .u8 0,.int .u8 0,.int .u8 0,.int .u8 0,.int .u8 0,.int .u8 0,.int .u8 0,.int .u8 0,.int .u8 0,.int .u8 0,.int .u8 0,.int .u8 0,.int .u8 0,.string ⟨#[]⟩,.map none]:List Value)=z
  have hzl:z.length=22:=by rw [← hz]; rfl
  have u2:Upd [] m1 (m1.add ⟨.cells z 104,false,none⟩):=Upd.add _ _ _
  have g2:(m1.add ⟨.cells z 104,false,none⟩).get m1.next=some ⟨.cells z 104,false,none⟩:=Mem.qk ..
  have n2:(m1.add ⟨.cells z 104,false,none⟩).next=m1.next+1:=rfl
  have h2:=qA u2 (by omega) g1
  generalize (m1.add ⟨.cells z 104,false,none⟩)=m2 at u2 g2 n2 h2
  have hm2:=qA (u1.qD u2) hlt hm
  have e1:qb (.pointer (some ⟨m.next,0+21,none⟩)) m2=some (.map (some s.pm)):=qu h2 s.qiV
  have e2:zp .map false (.map (some s.pm)) (.map none)=some (.bool false):=rfl
  have e3:kR (.iface 102 (.map (some s.pm))) m2=some (.iface 102 (.map (some m2.next)),m2.add ⟨.map (esL L) k,false,none⟩):=by
   have:m2.xL s.pm=some (esL L,k):=by simp [Mem.xL,hm2]
   simp [kR,this]
  have e4:vG 102 false (.map none) (.iface 102 (.map (some m2.next)))=some (.map (some m2.next)):=rfl
  simp -implicitDefEqProofs only [st0,qc,reduceIte,fa,e1,qjl,e2,e3,e4]
  have u3:Upd [] m2 (m2.add ⟨.map (esL L) k,false,none⟩):=Upd.add _ _ _
  have q3:(m2.add ⟨.map (esL L) k,false,none⟩).get m2.next=some ⟨.map (esL L) k,false,none⟩:=Mem.qk ..
  have n3:(m2.add ⟨.map (esL L) k,false,none⟩).next=m2.next+1:=rfl
  have g3:=qA u3 (by omega) g2
  have h3:=qA u3 (by omega) h2
  generalize (m2.add ⟨.map (esL L) k,false,none⟩)=m3 at u3 q3 n3 g3 h3
  have e5:qi 1 (.pointer (some ⟨m.next,0+21,none⟩)) (.map (some m2.next)) m3=some (m3.put m.next ⟨.cells (St.cells { s with pm:=m2.next }) 104,false,none⟩):=by
   rw [← St.qhr]
   exact zr h3 (by rw [s.len]; omega) rfl rfl
  simp -implicitDefEqProofs only [st0,qc,reduceIte,e5]
  have g4:(m3.put m.next ⟨.cells (St.cells { s with pm:=m2.next }) 104,false,none⟩).get m.next=_:=Mem.qj ..
  have g4':(m3.put m.next ⟨.cells (St.cells { s with pm:=m2.next }) 104,false,none⟩).get m1.next=_:=(Mem.qn m3 _ (by omega)).trans g3
  have q4:(m3.put m.next ⟨.cells (St.cells { s with pm:=m2.next }) 104,false,none⟩).get m2.next=_:=(Mem.qn m3 _ (by omega)).trans q3
  have u4:Upd [] m (m3.put m.next ⟨.cells (St.cells { s with pm:=m2.next }) 104,false,none⟩):=((u1.qD u2).qD u3).jL _ (.inr (Nat.le_refl _))
  have n4:(m3.put m.next ⟨.cells (St.cells { s with pm:=m2.next }) 104,false,none⟩).next=m3.next:=rfl
  generalize (m3.put m.next ⟨.cells (St.cells { s with pm:=m2.next }) 104,false,none⟩)=m4 at g4 g4' q4 u4 n4
  have e6:=zK g4 (St.len _)
  have e7:qi 22 (.pointer (some ⟨m1.next,0,none⟩)) (.agg (St.cells { s with pm:=m2.next }).toArray) m4=some (m4.put m1.next ⟨.cells (St.cells { s with pm:=m2.next }) 104,false,none⟩):=by
   have:=vo (v:=.agg (St.cells { s with pm:=m2.next }).toArray) g4' hzl (by simpa [Value.cells] using St.len _) (by simpa [Value.cells] using St.all { s with pm:=m2.next })
   simpa [Value.cells] using this
  have e8:=zK (Mem.qj m4 m1.next ⟨.cells (St.cells { s with pm:=m2.next }) 104,false,none⟩) (St.len _)
  simp -implicitDefEqProofs only [st0,qc,reduceIte,e6,e7,e8]
  exact ⟨m2.next,rfl,by omega,by show m2.next<m4.next; omega,(Mem.qn m4 _ (by omega)).trans q4,u4.jL _ (.inr (by omega))⟩
 obtain ⟨r,m',e,pm',rfl,h1,h2,h3,h4⟩:=key
 exact ⟨m',pm',e,h1,h2,h3,h4⟩
section
variable {o:Wo} {m:Mem}
theorem Wo.len (hu:o.u.length=20):o.cells.length=25:=by unfold Wo.cells; simp [hu]
theorem Wo.qfv (hu:o.u.length=20) (v:Value):o.cells.set (0+23) v=Wo.cells { o with nt:=v }:=by
 unfold Wo.cells
 rw [show 0+23=22+1 by rfl,List.set_cons_succ,List.set_append_right _ _ (by simp [hu]),List.length_map,hu]; rfl
theorem qem (h:WR o m) {ns:List St} (hn:TAp wM 104 m o.nt ns) (hnl:ns.length≤100000) (hd:∀ b∈qe o.nt,b≠o.w∧b≠o.pm∧b≠o.c∧b≠o.p) :
  W (Call S tab 100 [.pointer (some ⟨o.w,0,none⟩)] m) fun r m'=>r=.int .i64 (ns.length:Int)∧∃ pm' nt' k,WR { o with nt:=nt' } m'∧TAp wM 104 m' nt' (ns++[{ o.st h.hu with pm:=pm' }])∧(∀ b∈qe nt',b∈qe o.nt∨m.next≤b)∧pm'∉qe nt'∧m'.get pm'=some ⟨.map (esL o.L) k,false,none⟩∧m.next≤pm'∧pm'<m'.next∧Upd (o.w::qe o.nt) m m':=by
 have d0:decide ((0:Int)=0)=true:=rfl
 obtain ⟨k,lo,hm⟩:=h.hm
 obtain ⟨m1,pm',e1,hp1,hp2,hq,u1⟩:=Wa (o.st h.hu) hm h.lm
 have hw:=h.hw
 rw [Wo.WX o h.hu] at hw
 have e2:qm 22 (.pointer (some ⟨o.w,0+1,none⟩)) m=some (.agg (o.st h.hu).cells.toArray):=qbr (pre:=[.pointer (some ⟨o.c,0,none⟩)]) hw rfl (St.len _)
 have ldN:∀ {M:Mem},M.get o.w=some ⟨.cells o.cells 107,false,none⟩→qb (.pointer (some ⟨o.w,0+23,none⟩)) M=some o.nt:=fun g=>qu g (Wo.at h.hu).2.2.2.2.1
 have e3:qy [.int .u8 0,.int .u8 0,.int .u8 0,.int .u8 0,.int .u8 0,.int .u8 0,.int .u8 0,.int .u8 0,.int .u8 0,.int .u8 0,.int .u8 0,.int .u8 0,.int .u8 0,.int .u8 0,.int .u8 0,.int .u8 0,.int .u8 0,.int .u8 0,.int .u8 0,.int .u8 0,.string ⟨#[]⟩,.map none] [(0,22,.agg (St.cells { o.st h.hu with pm:=pm' }).toArray)]=some (wM.flat [{ o.st h.hu with pm:=pm' }]):=by
  have hc:(Value.agg (St.cells { o.st h.hu with pm:=pm' }).toArray).cells=(St.cells { o.st h.hu with pm:=pm' }).toArray:=rfl
  simp only [qy,hc,List.size_toArray,St.len]
  rw [if_neg (by simp),yX _ _ (by rw [St.len]; rfl),Enc.qde]
  rfl
 have g1:=(u1.same o.w h.lw (by simp)).trans h.hw
 rw [qjU]
 simp -implicitDefEqProofs only [st0,qc,reduceIte,wC h,d0,nck,fa,ldN h.hw,e2,e1,e3]
 refine zU (E:=wM) (l:=ns) [{ o.st h.hu with pm:=pm' }] (by decide) (hn.qt u1) (by simp; omega) fun nt' m3 q1 q2 q3=>?_
 have hwn:o.w∉qe o.nt:=fun hb=>(hd _ hb).1 rfl
 have hlw:=h.lw
 have g3:=(q2.same o.w (by have:=u1.next; omega) hwn).trans g1
 have e4:qi 1 (.pointer (some ⟨o.w,0+23,none⟩)) nt' m3=some (m3.put o.w ⟨.cells (Wo.cells { o with nt:=nt' }) 107,false,none⟩):=by
  rw [← Wo.qfv h.hu]
  exact zr g3 (by rw [Wo.len h.hu]; omega) q1.one.1 q1.one.2
 have n1:=u1.next
 have hn3:=q2.next
 have hr:WR o m3:=(h.qt u1).upd q2 hd
 have hr2:WR { o with nt:=nt' } (m3.put o.w ⟨.cells (Wo.cells { o with nt:=nt' }) 107,false,none⟩):=hr.w ⟨rfl,rfl,rfl,rfl,rfl,rfl⟩ h.hu
 have hwnt:o.w∉qe nt':=fun hb=>(q3 _ hb).elim hwn (fun hb=>by omega)
 have hput:Upd [o.w] m3 (m3.put o.w ⟨.cells (Wo.cells { o with nt:=nt' }) 107,false,none⟩):=Upd.put _ _ (by simp)
 have q4:TAp wM 104 (m3.put o.w ⟨.cells (Wo.cells { o with nt:=nt' }) 107,false,none⟩) nt' (ns++[{ o.st h.hu with pm:=pm' }]):=q1.upd hput (fun b hb hm'=>by simp at hm'; exact hwnt (hm' ▸ hb))
 have e5:qb (.pointer (some ⟨o.w,0+23,none⟩)) (m3.put o.w ⟨.cells (Wo.cells { o with nt:=nt' }) 107,false,none⟩)=some nt':=qu (Mem.qj ..) (Wo.at (o:={ o with nt:=nt' }) h.hu).2.2.2.2.1
 have e6:arith .sub (.int .i64 (((ns++[{ o.st h.hu with pm:=pm' }]).length:Nat):Int)) (.int .i64 1)=some (.int .i64 (ns.length:Int)):=by
  rw [zS (by simp only [List.length_append,List.length_cons,List.length_nil]; omega) (by simp only [List.length_append,List.length_cons,List.length_nil]; omega)]; simp
 simp -implicitDefEqProofs only [st0,qc,reduceIte,nck,fa,e4,e5,q4.tsl.len,e6]
 refine kz (fun r hr=>?_) (xI.2 ⟨rfl,pm',nt',k,hr2,q4,fun b hb=>(q3 b hb).imp id (fun hb=>by omega),?_,?_,hp1,by show pm'<m3.next; omega,?_⟩)
 ·simp only [List.mem_cons,List.not_mem_nil,or_false] at hr
  rcases hr with rfl|rfl
  ·exact okR fun k _ hk=>by
    have:k=0∨k=1∨k=2:=by omega
    rcases this with rfl|rfl|rfl
    ·exact ⟨_,rfl,ldN h.hw⟩
    ·exact ⟨_,rfl,ldN g1⟩
    ·exact ⟨_,rfl,ldN (by rw [Mem.zT _ _ (by omega)]; exact g1)⟩
  ·exact okR fun k _ hk=>by
    obtain rfl:k=0:=by omega
    exact ⟨_,rfl,e2⟩
 ·intro hb
  rcases q3 _ hb with hb|hb
  ·have:=hn.lt _ hb; omega
  ·omega
 ·rw [Mem.qn _ _ (by omega),q2.same pm' (by omega) (fun hb=>by have:=hn.lt _ hb; omega)]; exact hq
 ·exact ((u1.mono (fun b hb _=>by cases hb)).trans (q2.mono (fun b hb _=>List.mem_cons.2 (.inr hb)))).trans (hput.mono (fun b hb _=>by simp at hb; simp [hb]))
theorem qfe (h:WR o m) {ns:List St} {s:St} (hn:TAp wM 104 m o.nt (ns++[s])) (hnl:ns.length≤100000) (hd:∀ b∈qe o.nt,b≠o.w) {L:Pg} {k:Nat} {ro:Bool} {lo:Option Nat} (hm:m.get s.pm=some ⟨.map (esL L) k,ro,lo⟩) (hlt:s.pm<m.next) :
  W (Call S tab 101 [.pointer (some ⟨o.w,0,none⟩),.int .i64 (ns.length:Int)] m) fun r m'=>r=.int .i64 0∧∃ pm',WR { o with u:=s.u,hd:=s.hd,pm:=pm',L:=L } m'∧TAp wM 104 m' o.nt (ns++[s])∧m.next≤pm'∧pm'<m'.next∧Upd [o.w] m m':=by
 have d0:decide ((0:Int)=0)=true:=rfl
 have hlen:(ns++[s]).length=ns.length+1:=by simp
 have ldN:∀ {M:Mem},M.get o.w=some ⟨.cells o.cells 107,false,none⟩→qb (.pointer (some ⟨o.w,0+23,none⟩)) M=some o.nt:=fun g=>qu g (Wo.at h.hu).2.2.2.2.1
 obtain ⟨m1,pm',e1,hp1,hp2,hq,u1⟩:=Wa s hm hlt
 have n1:=u1.next
 have hlw:=h.lw
 have g1:=(u1.same o.w h.lw (by simp)).trans h.hw
 have c1:(((ns.length:Nat):Int)<0)=False:=eq_false (by omega)
 have c2:((((ns++[s]).length:Nat):Int)≤(ns.length:Int))=False:=eq_false (by rw [hlen]; omega)
 obtain ⟨b,off,i1,i2⟩:=hn.tsl.at .i64 (i:=ns.length) (a:=s) (by simp)
 rw [He] at i1 i2
 have i3:=(i2 m hn.tsl).1
 have e2:∀ M,qz 22 o.nt none (some (.int .i64 ((ns.length+1:Nat):Int))) M=some o.nt:=by
  intro M
  rcases hn with ⟨_,h0⟩|⟨b,cap,rest,lo,hv,_,_,_,_,hc⟩
  ·simp at h0
  ·rw [hv]
   simp only [qz]
   rw [bV0 (by omega)]
   simp [hlen]
 have hw1:=g1
 rw [Wo.WX o h.hu] at hw1
 have hcs:∀ (x:Value),Wo.cells { o with u:=s.u,hd:=s.hd,pm:=pm',nt:=x } = .pointer (some ⟨o.c,0,none⟩)::((St.cells { s with pm:=pm' })++[x,.bool false]):=fun x=>by unfold Wo.cells St.cells; simp
 have e3:qi 22 (.pointer (some ⟨o.w,0+1,none⟩)) (.agg (St.cells { s with pm:=pm' }).toArray) m1=some (m1.put o.w ⟨.cells (Wo.cells { o with u:=s.u,hd:=s.hd,pm:=pm' }) 107,false,none⟩):=by
  rw [hcs]
  exact Yv (pre:=[.pointer (some ⟨o.c,0,none⟩)]) hw1 rfl (St.len _) (St.len _) (St.all _)
 have g2:(m1.put o.w ⟨.cells (Wo.cells { o with u:=s.u,hd:=s.hd,pm:=pm' }) 107,false,none⟩).get o.w=some ⟨.cells (Wo.cells { o with u:=s.u,hd:=s.hd,pm:=pm' }) 107,false,none⟩:=Mem.qj ..
 have e4:qi 1 (.pointer (some ⟨o.w,0+23,none⟩)) o.nt (m1.put o.w ⟨.cells (Wo.cells { o with u:=s.u,hd:=s.hd,pm:=pm' }) 107,false,none⟩)=some ((m1.put o.w ⟨.cells (Wo.cells { o with u:=s.u,hd:=s.hd,pm:=pm' }) 107,false,none⟩).put o.w ⟨.cells (Wo.cells { o with u:=s.u,hd:=s.hd,pm:=pm' }) 107,false,none⟩):=by
  have:=zr (o:=0+23) (v:=o.nt) g2 (by rw [Wo.len (o:={ o with u:=s.u,hd:=s.hd,pm:=pm' }) s.hu]; omega) hn.one.1 hn.one.2
  rwa [Wo.qfv (o:={ o with u:=s.u,hd:=s.hd,pm:=pm' }) s.hu] at this
 rw [qjT]
 simp -implicitDefEqProofs only [st0,qc,reduceIte,wC h,d0,c1,nck,fa,ldN h.hw,hn.tsl.len,c2,i1,i3,WH,e1,ldN g1,qE (i:=ns.length) (by omega),e2,e3,e4]
 have u2:Upd [o.w] m1 ((m1.put o.w ⟨.cells (Wo.cells { o with u:=s.u,hd:=s.hd,pm:=pm' }) 107,false,none⟩).put o.w ⟨.cells (Wo.cells { o with u:=s.u,hd:=s.hd,pm:=pm' }) 107,false,none⟩):=(Upd.put _ _ (by simp)).trans (Upd.put _ _ (by simp))
 have g3:((m1.put o.w ⟨.cells (Wo.cells { o with u:=s.u,hd:=s.hd,pm:=pm' }) 107,false,none⟩).put o.w ⟨.cells (Wo.cells { o with u:=s.u,hd:=s.hd,pm:=pm' }) 107,false,none⟩).get o.w=_:=Mem.qj ..
 have x3:((m1.put o.w ⟨.cells (Wo.cells { o with u:=s.u,hd:=s.hd,pm:=pm' }) 107,false,none⟩).put o.w ⟨.cells (Wo.cells { o with u:=s.u,hd:=s.hd,pm:=pm' }) 107,false,none⟩).next=m1.next:=rfl
 generalize ((m1.put o.w ⟨.cells (Wo.cells { o with u:=s.u,hd:=s.hd,pm:=pm' }) 107,false,none⟩).put o.w ⟨.cells (Wo.cells { o with u:=s.u,hd:=s.hd,pm:=pm' }) 107,false,none⟩)=m3 at u2 g3 x3
 have kp:∀ {b:Nat},b<m1.next→b≠o.w→m3.get b=m1.get b:=fun h1 h2=>u2.same _ h1 (by simp [h2])
 obtain ⟨ne1,ne2,ne3,ne4,ne5⟩:=h.ne
 have lc:=h.lc
 have lp:=h.lp
 have hr1:=h.qt u1
 refine kz (fun r hr=>?_) (xI.2 ⟨rfl,pm',⟨g3,s.hu,⟨k,none,(kp hp2 (by omega)).trans hq⟩,?_,?_,h.hP,by show o.w<m3.next; omega,by show pm'<m3.next; omega,by show o.c<m3.next; omega,by show o.p<m3.next; omega,⟨by show o.w≠pm'; omega,ne2,ne3,by show pm'≠o.c; omega,by show pm'≠o.p; omega⟩⟩,?_,hp1,by omega,(u1.mono (fun b hb _=>by cases hb)).trans u2⟩)
 ·have gm:(m1.put o.w ⟨.cells (Wo.cells { o with u:=s.u,hd:=s.hd,pm:=pm' }) 107,false,none⟩).get o.w=_:=Mem.qj ..
  have ldN':=fun {M:Mem} (g:M.get o.w=some ⟨.cells (Wo.cells { o with u:=s.u,hd:=s.hd,pm:=pm' }) 107,false,none⟩)=>qu (o:=0+23) g (Wo.at (o:={ o with u:=s.u,hd:=s.hd,pm:=pm' }) s.hu).2.2.2.2.1
  simp only [List.mem_cons,List.not_mem_nil,or_false] at hr
  rcases hr with rfl|rfl|rfl|rfl
  ·exact okR fun k _ hk=>by
    obtain rfl:k=0:=by omega
    exact ⟨_,rfl,ldN h.hw⟩
  ·exact okR fun k _ hk=>by
    obtain rfl:k=0:=by omega
    exact ⟨_,rfl,i3⟩
  ·exact okR fun k _ hk=>by
    have:k=0∨k=1:=by omega
    rcases this with rfl|rfl
    ·exact ⟨_,rfl,ldN h.hw⟩
    ·exact ⟨_,rfl,ldN g1⟩
  ·exact okR fun k _ hk=>by
    have:k=0∨k=1∨k=2:=by omega
    rcases this with rfl|rfl|rfl<;>exact ⟨_,rfl,e2 _⟩
 ·show ∃ r t ro lo,m3.get o.c=_
  rw [kp (by omega) (fun e=>ne2 e.symm)]; exact hr1.hc
 ·show ∃ d a cap r t ro lo,m3.get o.p=_
  rw [kp (by omega) (fun e=>ne3 e.symm)]; exact hr1.hp
 ·exact (hn.qt u1).upd u2 (fun b hb hm'=>by simp at hm'; exact hd b hb hm')
end
end Go.Fx.Tryz
namespace Go.Fx.Tryz
open Go Go.Fx
structure Wx where
 o:Wo
 xb:Nat
 rest:List Value
 t:TypeId
 err:Nat
 rd:Nat
abbrev Wx.blk (x:Wx):ABlk:=⟨.cells (.pointer (some ⟨x.o.w,0,none⟩)::.int .i64 (x.err:Int)::.int .i64 (x.rd:Int)::x.rest) x.t,false,none⟩
abbrev Wx.v (x:Wx):Value:=.pointer (some ⟨x.xb,0,none⟩)
structure XR (x:Wx) (m:Mem):Prop where
 wr:WR x.o m
 hx:m.get x.xb=some x.blk
 lx:x.xb<m.next
 ne:x.xb≠x.o.w∧x.xb≠x.o.pm∧x.xb≠x.o.c∧x.xb≠x.o.p
theorem XR.upd {x:Wx} {fp:List Nat} {m m':Mem} (h:XR x m) (hu:Upd fp m m') (hf:∀ b∈fp,b≠x.xb∧b≠x.o.w∧b≠x.o.pm∧b≠x.o.c∧b≠x.o.p):XR x m' :=
 ⟨h.wr.upd hu fun b hb=>(hf b hb).2,(hu.same _ h.lx fun hm=>(hf _ hm).1 rfl).trans h.hx,Nat.lt_of_lt_of_le h.lx hu.next,h.ne⟩
theorem XR.qt {x:Wx} {m m':Mem} (h:XR x m) (hu:Upd [] m m'):XR x m':=h.upd hu (fun b hb=>by cases hb)
theorem XR.work {x:Wx} {m m':Mem} {o':Wo} (h:XR x m) (hr:WR o' m') (he:o'.w=x.o.w∧o'.pm=x.o.pm∧o'.c=x.o.c∧o'.p=x.o.p) {fp:List Nat} (hu:Upd fp m m') (hf:∀ b∈fp,b=x.o.w∨b=x.o.pm):XR { x with o:=o' } m':=by
 obtain ⟨e1,e2,e3,e4⟩:=he
 refine ⟨hr,?_,Nat.lt_of_lt_of_le h.lx hu.next,by rw [e1,e2,e3,e4]; exact h.ne⟩
 rw [hu.same _ h.lx fun hm=>by
  rcases hf _ hm with e|e
  ·exact h.ne.1 e
  ·exact h.ne.2.1 e]
 show m.get x.xb=some ⟨.cells (.pointer (some ⟨o'.w,0,none⟩)::_) _,false,none⟩
 rw [e1]; exact h.hx
theorem XR.put {x x':Wx} {m:Mem} (h:XR x m) (he:x'.o=x.o∧x'.xb=x.xb):XR x' (m.put x.xb x'.blk):=by
 obtain ⟨e1,e2⟩:=he
 obtain ⟨n1,n2,n3,n4⟩:=h.ne
 refine ⟨?_,by rw [e2]; exact Mem.qj ..,by rw [e2]; exact h.lx,by rw [e1,e2]; exact h.ne⟩
 rw [e1]
 exact h.wr.upd (fp:=[x.xb]) (Upd.put _ _ (by simp)) (fun b hb=>by simp at hb; subst hb; exact ⟨n1,n2,n3,n4⟩)
section
variable {x:Wx} {m:Mem}
theorem xld (h:XR x m):qb (.pointer (some ⟨x.xb,0+0,none⟩)) m=some (.pointer (some ⟨x.o.w,0,none⟩))∧qb (.pointer (some ⟨x.xb,0+1,none⟩)) m=some (.int .i64 (x.err:Int))∧qb (.pointer (some ⟨x.xb,0+2,none⟩)) m=some (.int .i64 (x.rd:Int)) :=
 ⟨qu h.hx rfl,qu h.hx rfl,qu h.hx rfl⟩
theorem xok (h:XR x m):Call S tab 49 [x.v] m=some (.bool (decide (x.err=0)),m):=by
 refine W_eq ?_
 rw [C49]
 have:decide ((x.err:Int)=0)=decide (x.err=0):=by simp
 simp -implicitDefEqProofs only [st0,qc,reduceIte,nck,fa,(xld h).2.1,this]
 exact ⟨trivial,trivial⟩
theorem Kb (h:XR x m) (he:x.err=0) (e:Nat):Call S tab 97 [x.v,.int .i64 (e:Int)] m=some (.tuple #[],m.put x.xb (Wx.blk { x with err:=e })):=by
 refine W_eq ?_
 have e1:=xok h
 rw [decide_eq_true he] at e1
 have e2:qi 1 (.pointer (some ⟨x.xb,0+1,none⟩)) (.int .i64 (e:Int)) m=some (m.put x.xb (Wx.blk { x with err:=e })):=zr h.hx (by simp) rfl rfl
 rw [C97]
 simp -implicitDefEqProofs only [st0,qc,reduceIte,e1,nck,fa,e2]
 exact ⟨trivial,trivial⟩
theorem qgy (h:XR x m) (he:x.err≠0) (e:Value):Call S tab 97 [x.v,e] m=some (.tuple #[],m):=by
 refine W_eq ?_
 have e1:=xok h
 rw [decide_eq_false he] at e1
 rw [C97]
 simp -implicitDefEqProofs only [st0,qc,reduceIte,e1]
 exact ⟨trivial,trivial⟩
theorem qcf (h:XR x m) (he:x.err=0) (hrd:x.rd<1000) {page left:Nat} (hl:1≤left) (hp:page≤65536) {n:Nd} (hh:x.o.has page=true) (hn:lkL x.o.L page=some (zx n)) (hr:qO n=true) (hs:qV n≤256) :
  W (Call S tab 48 [x.v,.int .i64 (page:Int),.int .i64 (left:Int)] m) fun r m'=>TN m.next m' r n∧XR { x with rd:=x.rd+1 } m'∧Upd [x.xb] m m'∧(n.leaf=true→∃ sp,r=jM true sp (.slice none 0 0) (.slice none 0 0)):=by
 rw [C48]
 have u1:Upd [] m (m.add (qh false (.slice none 0 0) (.slice none 0 0) (.slice none 0 0))):=Upd.add _ _ _
 have g1:(m.add (qh false (.slice none 0 0) (.slice none 0 0) (.slice none 0 0))).get m.next=some (qh false (.slice none 0 0) (.slice none 0 0) (.slice none 0 0)):=Mem.qk ..
 have n1:(m.add (qh false (.slice none 0 0) (.slice none 0 0) (.slice none 0 0))).next=m.next+1:=rfl
 simp -implicitDefEqProofs only [st0,qc,reduceIte]
 generalize (m.add (qh false (.slice none 0 0) (.slice none 0 0) (.slice none 0 0)))=m1 at u1 g1 n1
 have h1:=h.qt u1
 have lx:=h.lx
 have e1:qi 1 (.pointer (some ⟨x.xb,0+2,none⟩)) (.int .i64 ((x.rd+1:Nat):Int)) m1=some (m1.put x.xb (Wx.blk { x with rd:=x.rd+1 })):=zr h1.hx (by simp) rfl rfl
 have h2:XR { x with rd:=x.rd+1 } (m1.put x.xb (Wx.blk { x with rd:=x.rd+1 })):=h1.put ⟨rfl,rfl⟩
 have u2:Upd [x.xb] m (m1.put x.xb (Wx.blk { x with rd:=x.rd+1 })):=(u1.mono (fun b hb _=>by cases hb)).trans (Upd.put _ _ (by simp))
 have g2:(m1.put x.xb (Wx.blk { x with rd:=x.rd+1 })).get m.next=_:=(Mem.qn m1 _ (by omega)).trans g1
 have n2:(m1.put x.xb (Wx.blk { x with rd:=x.rd+1 })).next=m1.next:=rfl
 have e2:((left:Int)=0)=False:=eq_false (by omega)
 have e3:((1000:Int)<((x.rd+1:Nat):Int))=False:=eq_false (by omega)
 simp -implicitDefEqProofs only [st0,qc,reduceIte,nck,fa,(xld h1).2.2,qE (i:=x.rd) (by omega),e1]
 generalize (m1.put x.xb (Wx.blk { x with rd:=x.rd+1 }))=m2 at h2 u2 g2 n2
 have e4:=(xld h2).2.2
 simp -implicitDefEqProofs only [st0,qc,reduceIte,nck,fa,e2,e4,e3]
 rw [P48_0_eq]
 have e5:=xok h2
 rw [decide_eq_true (show ({ x with rd:=x.rd+1 }:Wx).err=0 from he)] at e5
 have e6:=qch h2.wr hp hh hn
 have e7:=Kb h2 he 0
 rw [show (Value.int .i64 ((0:Nat):Int))=.int .i64 0 from rfl] at e7
 have h3:XR { x with rd:=x.rd+1 } (m2.put x.xb (Wx.blk { { x with rd:=x.rd+1 } with err:=0 })):=by
  have:=h2.put (x':={ x with rd:=x.rd+1,err:=0 }) ⟨rfl,rfl⟩
  have e:({ x with rd:=x.rd+1,err:=0 }:Wx)={ x with rd:=x.rd+1 }:=by rw [← he]
  rw [e] at this
  rw [e]
  exact this
 simp -implicitDefEqProofs only [st0,qc,reduceIte,e5,nck,fa,(xld h2).1,e6,xt0,xt1,e7]
 have u3:Upd [x.xb] m2 (m2.put x.xb (Wx.blk { { x with rd:=x.rd+1 } with err:=0 })):=Upd.put _ _ (by simp)
 have g3:(m2.put x.xb (Wx.blk { { x with rd:=x.rd+1 } with err:=0 })).get m.next=_:=(Mem.qn m2 _ (by omega)).trans g2
 have n3:(m2.put x.xb (Wx.blk { { x with rd:=x.rd+1 } with err:=0 })).next=m2.next:=rfl
 generalize (m2.put x.xb (Wx.blk { { x with rd:=x.rd+1 } with err:=0 }))=m3 at h3 u3 g3 n3
 have e8:=xok h3
 rw [decide_eq_true (show ({ x with rd:=x.rd+1 }:Wx).err=0 from he)] at e8
 simp -implicitDefEqProofs only [st0,qc,reduceIte,e8]
 refine qo.2 ((qcD m3 hr hs).mono fun v4 m4 ⟨⟨v,r4,t4,xl⟩,u4⟩=>?_)
 subst r4
 obtain ⟨sp,sk,si,rfl,q1,q2,q3⟩:=t4.ex
 have n4:=u4.next
 have h4:=h3.qt u4
 have g4:=qA u4 (by omega) g3
 have u04:Upd [x.xb] m m4:=(u2.trans u3).qD u4
 simp -implicitDefEqProofs only [st0,qc,reduceIte,xt0,xt1]
 refine xR (c:=[.bool n.leaf,sp,sk,si]) rfl rfl (by simp [q1.one.2,q2.one.2,q3.one.2,show (Value.bool n.leaf).oneCell'=true from rfl]) fun m5 b5 u5 n5=>?_
 have h5:=h4.qt u5
 have g5:=qA u5 (by omega) g4
 have e9:=Kb h5 he 0
 rw [show (Value.int .i64 ((0:Nat):Int))=.int .i64 0 from rfl] at e9
 simp -implicitDefEqProofs only [st0,qc,reduceIte,e9]
 have h6:XR { x with rd:=x.rd+1 } (m5.put x.xb (Wx.blk { { x with rd:=x.rd+1 } with err:=0 })):=by
  have:=h5.put (x':={ x with rd:=x.rd+1,err:=0 }) ⟨rfl,rfl⟩
  have e:({ x with rd:=x.rd+1,err:=0 }:Wx)={ x with rd:=x.rd+1 }:=by rw [← he]
  rw [e] at this
  rw [e]
  exact this
 have u6:Upd [x.xb] m5 (m5.put x.xb (Wx.blk { { x with rd:=x.rd+1 } with err:=0 })):=Upd.put _ _ (by simp)
 have g6:(m5.put x.xb (Wx.blk { { x with rd:=x.rd+1 } with err:=0 })).get m.next=_:=(Mem.qn m5 _ (by omega)).trans g5
 have b6:(m5.put x.xb (Wx.blk { { x with rd:=x.rd+1 } with err:=0 })).get m4.next=_:=(Mem.qn m5 _ (by omega)).trans b5
 generalize (m5.put x.xb (Wx.blk { { x with rd:=x.rd+1 } with err:=0 }))=m6 at h6 u6 g6 b6
 have e10:=xok h6
 rw [decide_eq_true (show ({ x with rd:=x.rd+1 }:Wx).err=0 from he)] at e10
 simp -implicitDefEqProofs only [st0,qc,reduceIte,e10,qF b6,qX g6 n.leaf q1.one.2 q2.one.2 q3.one.2,qF (Mem.qj m6 m.next _)]
 have n6:=u6.next
 have uo:Upd [m.next] m6 (m6.put m.next (qh n.leaf sp sk si)):=Upd.put _ _ (by simp)
 have l5:=(t4.low (lo':=m1.next) (by omega)).qt u5
 refine ⟨((l5.upd u6 (fun b hb=>by simp at hb; omega)).upd uo (fun b hb=>by simp at hb; omega)).low (by omega),h6.upd uo (fun b hb=>?_),(((u04.qD u5).trans u6).jL _ (.inr (Nat.le_refl _))),xl⟩
 simp at hb; subst hb
 have w1:=h.wr.lw; have w2:=h.wr.lm; have w3:=h.wr.lc; have w4:=h.wr.lp
 exact ⟨by show m.next≠x.xb; omega,by show m.next≠x.o.w; omega,by show m.next≠x.o.pm; omega,by show m.next≠x.o.c; omega,by show m.next≠x.o.p; omega⟩
theorem vA (h:XR x m) (he:x.err=0) (hrd:x.rd<1000) {page left:Nat} (hl:1≤left) (hp:page≤65536) {n:Nd} (hh:x.o.has page=true) (hn:lkL x.o.L page=some (zx n)) (hr:qO n=true) (hs:qV n≤256) :
  W (Call S tab 48 [x.v,.int .i64 (page:Int),.int .i64 (left:Int)] m) fun r m'=>TN m.next m' r n∧XR { x with rd:=x.rd+1 } m'∧Upd [x.xb] m m' :=
 (qcf h he hrd hl hp hh hn hr hs).mono fun _ _ ⟨a,b,c,_⟩=>⟨a,b,c⟩
theorem XR.Zg (h:XR x m) (he:x.err=0):Call S tab 97 [x.v,.int .i64 0] m=some (.tuple #[],m.put x.xb x.blk)∧XR x (m.put x.xb x.blk)∧Upd [x.xb] m (m.put x.xb x.blk):=by
 have e:=Kb h he 0
 have e':({ x with err:=0 }:Wx)=x:=by rw [← he]
 rw [e'] at e
 exact ⟨e,h.put ⟨rfl,rfl⟩,Upd.put _ _ (by simp)⟩
theorem wq {lo:Nat} (h:XR x m) (he:x.err=0) {page:Nat} (hp:page≤65536) {n:Nd} {v:Value} (ht:TN lo m v n) (hh:x.o.has page=true) (hr:qO n=true) (hs:qV n≤256) :
  W (Call S tab 74 [x.v,.int .i64 (page:Int),v] m) fun r m'=>r=.tuple #[]∧(∃ c,XR { x with o:={ x.o with L:=upL x.o.L page (zx n) c } } m')∧Upd [x.o.pm,x.xb] m m':=by
 obtain ⟨sp,sk,si,rfl,q1,q2,q3⟩:=ht.ex
 have hfew:=kY hr hs
 rw [C74]
 simp -implicitDefEqProofs only [st0,qc,reduceIte,qQ]
 have u1:Upd [] m (m.add (qh n.leaf sp sk si)):=Upd.add _ _ _
 have g1:(m.add (qh n.leaf sp sk si)).get m.next=some (qh n.leaf sp sk si):=Mem.qk ..
 generalize (m.add (qh n.leaf sp sk si))=m1 at u1 g1
 have h1:=h.qt u1
 simp -implicitDefEqProofs only [st0,qc,reduceIte,qF g1]
 refine qo.2 ((JA (ht.qt u1) hr (by omega) (by omega)).mono fun v2 m2 ⟨r2,u2⟩=>?_)
 rw [if_pos hs] at r2
 subst r2
 have h2:=h1.qt u2
 obtain ⟨e3,h3,u3⟩:=h2.Zg he
 have e4:=xok h3
 rw [decide_eq_true he] at e4
 obtain ⟨m4,c,e5,r4,u4⟩:=qaL h3.wr hp hh (zx n) (Qt hr hs)
 have h4:=h3.work r4 ⟨rfl,rfl,rfl,rfl⟩ u4 (fun b hb=>.inr (by simpa using hb))
 obtain ⟨e6,h6,u6⟩:=h4.Zg he
 have e6':Call S tab 97 [x.v,.int .i64 0] m4=_:=e6
 simp -implicitDefEqProofs only [st0,qc,reduceIte,xt0,xt1,e3,e4,nck,fa,(xld h3).1,e5,e6']
 refine ⟨trivial,⟨c,h6⟩,?_⟩
 refine ((((u1.mono (fun b hb _=>by cases hb)).qD u2).trans (u3.mono (fun b hb _=>?_))).trans (u4.mono (fun b hb _=>?_))).trans (u6.mono (fun b hb _=>?_))
 ·simp at hb; simp [hb]
 ·simp at hb; simp [hb]
 ·simp at hb; simp [hb]
theorem ZB {lo:Nat} (h:XR x m) (he:x.err≠0) (page:Value) {n:Nd} {v:Value} (ht:TN lo m v n) (hr:qO n=true) (hs:qV n≤256) :
  W (Call S tab 74 [x.v,page,v] m) fun r m'=>r=.tuple #[]∧Upd [] m m':=by
 obtain ⟨sp,sk,si,rfl,q1,q2,q3⟩:=ht.ex
 have hfew:=kY hr hs
 rw [C74]
 simp -implicitDefEqProofs only [st0,qc,reduceIte,qQ]
 have u1:Upd [] m (m.add (qh n.leaf sp sk si)):=Upd.add _ _ _
 have g1:(m.add (qh n.leaf sp sk si)).get m.next=some (qh n.leaf sp sk si):=Mem.qk ..
 generalize (m.add (qh n.leaf sp sk si))=m1 at u1 g1
 have h1:=h.qt u1
 simp -implicitDefEqProofs only [st0,qc,reduceIte,qF g1]
 refine qo.2 ((JA (ht.qt u1) hr (by omega) (by omega)).mono fun v2 m2 ⟨r2,u2⟩=>?_)
 rw [if_pos hs] at r2
 subst r2
 have h2:=h1.qt u2
 have e4:=xok h2
 rw [decide_eq_false he] at e4
 simp -implicitDefEqProofs only [st0,qc,reduceIte,xt0,xt1,qgy h2 he,e4]
 exact ⟨trivial,u1.qD u2⟩
theorem qcd (h:XR x m) (he:x.err=0):W (Call S tab 73 [x.v] m) fun r m' =>
  (r=.int .i64 0∧XR { x with err:=8 } m'∧Upd [x.xb] m m')∨∃ n c,1≤n∧n<x.o.P∧xQ x.o.u n=false∧r=.int .i64 (n:Int)∧XR { x with o:={ x.o with u:=zZ x.o.u n,L:=upL x.o.L n (qq 256) c } } m'∧Upd [x.o.w,x.o.pm,x.xb] m m':=by
 have e1:=xok h
 rw [decide_eq_true he] at e1
 rw [C73]
 simp -implicitDefEqProofs only [st0,qc,reduceIte,e1,nck,fa,(xld h).1]
 refine qo.2 ((qej h.wr).mono fun r m1 hc=>?_)
 rcases hc with ⟨rfl,rfl⟩|⟨n,c,n1,n2,n3,rfl,r1,u1⟩
 ·have e2:=Kb h he 8
  rw [show (Value.int .i64 ((8:Nat):Int))=.int .i64 8 from rfl] at e2
  simp -implicitDefEqProofs only [st0,qc,reduceIte,xt0,xt1,e2]
  exact .inl ⟨trivial,h.put (x':={ x with err:=8 }) ⟨rfl,rfl⟩,Upd.put _ _ (by simp)⟩
 ·have h1:=h.work r1 ⟨rfl,rfl,rfl,rfl⟩ u1 (fun b hb=>by simpa using hb)
  obtain ⟨e2,h2,u2⟩:=h1.Zg he
  have e2':Call S tab 97 [x.v,.int .i64 0] m1=_:=e2
  simp -implicitDefEqProofs only [st0,qc,reduceIte,xt0,xt1,e2']
  refine .inr ⟨n,c,n1,n2,n3,rfl,h2,(u1.mono (fun b hb _=>?_)).trans (u2.mono (fun b hb _=>?_))⟩
  ·simp at hb ⊢; omega
  ·simp at hb; simp [hb]
theorem qcg (h:XR x m) (he:x.err=0) {n:Nat} (hn:n≤65536) (hh:x.o.has n=true):W (Call S tab 102 [x.v,.int .i64 (n:Int)] m) fun r m' =>
  r=.tuple #[]∧XR { x with o:={ x.o with u:=zZ x.o.u n } } m'∧Upd [x.o.w,x.xb] m m':=by
 have e1:=xok h
 rw [decide_eq_true he] at e1
 obtain ⟨m1,e2,r1,u1⟩:=qci h.wr hn hh
 have h1:=h.work r1 ⟨rfl,rfl,rfl,rfl⟩ u1 (fun b hb=>.inl (by simpa using hb))
 obtain ⟨e3,h2,u2⟩:=h1.Zg he
 have e3':Call S tab 97 [x.v,.int .i64 0] m1=_:=e3
 rw [qjS]
 simp -implicitDefEqProofs only [st0,qc,reduceIte,e1,nck,fa,(xld h).1,e2,e3']
 refine ⟨trivial,h2,(u1.mono (fun b hb _=>?_)).trans (u2.mono (fun b hb _=>?_))⟩
 ·simp at hb; simp [hb]
 ·simp at hb; simp [hb]
end
end Go.Fx.Tryz
