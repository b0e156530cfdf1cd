/- Parts of a proof: FxOps5, FxOp, FxMap. Conditions: none. -/
import Derived.Test.YtbhdhhgpfanmcaaGreatDoorQw2
set_option linter.unusedSimpArgs false
set_option linter.unusedVariables false
namespace Go.Fx
open Go
def qA (e:TypeId) (size eb:Nat) (v:Value) (n:Nat) (nc:List Value) (m:Mem):Option (Value × Mem) :=
 match v with
 | .slice a len cap =>
  if ¬ ((len+n) * eb<=2 ^ 47/\(len+n)<=2 ^ 47/\nc.length=n * size/\nc.all (·.oneCell')=true) then none
  else if len+n<=cap then
   match a with
   | none=>if len+n=0/\cap=0 then some (.slice none 0 0,m) else none
   | some ⟨b,off,none⟩ =>
    if n * size=0 then some (.slice (some ⟨b,off,none⟩) (len+n) cap,m)
    else (m.jF b).bind λq =>
     if off+(len+n) * size<=q.1.length/\cap≠0 then some (.slice (some ⟨b,off,none⟩) (len+n) cap,m.put b ⟨.cells (qQ q.1 (off+len * size) nc) q.2.1,false,q.2.2⟩) else none
   | _=>none
  else
   match a with
   | none=>if len=0/\cap=0 then some (.slice (some ⟨m.next,0,none⟩) n n,m.add ⟨.cells nc e,false,some size⟩) else none
   | some ⟨b,off,none⟩ =>
    match m.get b with
    | some ⟨.cells c _,_,none⟩ =>
     if off+len * size<=c.length then some (.slice (some ⟨m.next,0,none⟩) (len+n) (len+n),m.add ⟨.cells ((c.drop off).take (len * size)++nc) e,false,some size⟩) else none
    | some ⟨.cells c e',false,some s⟩ =>
     if s=size/\e'=e/\len<=cap/\off+len * size<=c.length then some (.slice (some ⟨m.next,0,none⟩) (len+n) (len+n),(m.kill b).add ⟨.cells ((c.drop off).take (len * size)++nc) e,false,some size⟩) else none
    | _=>none
   | _=>none
 | _=>none
theorem qdL (need:Nat) (h:257<=need):∀ (r c:Nat),c<=2 * need->Builtin.growBy need r c<=2 * need:=by
 intro r
 induction r with
 | zero=>intro c h; exact h
 | succ r ih =>
  intro c hc;simp only [Builtin.growBy];split
  ·exact hc
  ·rename_i hlt;refine ih _ ?_;have:c<need:=by omega
   have:(c+768) / 4<=(need+768) / 4:=Nat.div_le_div_right (by omega);omega
theorem nextslicecap_le (need old:Nat) (h:old<need):Builtin.nextslicecap need old<=2 * need:=by
 unfold Builtin.nextslicecap;split
 ·omega
 ·split
  ·omega
  ·exact qdL need (by omega) 4 old (by omega)
def VU (P:Program) (t:TypeId):Bool :=
 match P.underlying t with
 | some (.slice _)|some .string=>true
 | _=>false
theorem replicate_flatten_eq (z:Array Value) (s len:Nat) (hs:z.size=s):((Array.range (len * s)).map (z[· % z.size]!)).toList=(List.replicate len z.toList).flatten:=by
 subst hs;apply List.ext_getElem?;intro i;by_cases hi:i<len * z.size
 ·have hz:0<z.size:=by
   rcases Nat.eq_zero_or_pos z.size with h|h
   ·rw [h] at hi; simp at hi
   ·exact h
  have h1:(((Array.range (len * z.size)).map (z[· % z.size]!)).toList)[i]? = some (z[i % z.size]!):=by
   simp [hi]
  rw [h1];have hm:i % z.size<z.size:=Nat.mod_lt _ hz;have key:∀ (n i:Nat),i<n * z.size->((List.replicate n z.toList).flatten)[i]? = some (z[i % z.size]!):=by
   intro n
   induction n with
   | zero=>intro i h; simp at h
   | succ n ih =>
    intro i h;rw [List.replicate_succ,List.flatten_cons];by_cases h2:i<z.size
    ·rw [List.getElem?_append_left (by simpa using h2)];rw [Nat.mod_eq_of_lt h2];simp [h2]
    ·rw [List.getElem?_append_right (by simp; omega)];rw [Nat.add_mul] at h;rw [show z.toList.length=z.size by simp,ih (i - z.size) (by omega)];congr 2;exact (Nat.mod_eq_sub_mod (by omega)).symm
  rw [key len i hi]
 ·rw [List.getElem?_eq_none (by simp; omega),List.getElem?_eq_none];simp [List.length_flatten];omega
theorem wrap_small {n:Int} (h0:0<=n) (h:n<=2 ^ 47):IntKind.i64.wrap n=n:=by
 have e:n % (2 ^ IntKind.i64.bits:Int)=n:=Int.emod_eq_of_lt h0 (by simp only [IntKind.bits]; omega);unfold IntKind.wrap;simp only [e];have:¬ (n ≥ (2 ^ (IntKind.i64.bits - 1):Int)):=by simp only [IntKind.bits]; omega
 simp [IntKind.signed,this]
theorem KE (z:Value) (c:Nat):((List.replicate c z.cells.toList).flatten).toArray=Builtin.zeroCells z.cells c:=by
 apply Array.toList_inj.1;exact (replicate_flatten_eq z.cells z.cells.size c rfl).symm
theorem Jm {P:Program} {tx:TypeId} (hx:VU P tx=true):(∃ e2,P.underlying tx=some (.slice e2))∨P.underlying tx=some .string:=by
 unfold VU at hx;cases hd:P.underlying tx with
 | none=>rw [hd] at hx; cases hx
 | some d=>rw [hd] at hx; cases d<;>simp at hx ⊢
inductive AppSrc (P:Program) (tx:TypeId) (X:Value) (size n bytes:Nat) (z:Value):Prop where
 | src (hx:VU P tx=true) (hlen:∀ w,(Builtin.lenOf X).run P w=.ok n w)
 | zero (k kk:IntKind) (hx:P.underlying tx=some (.int k)) (hX:X=.int kk n) (hn:n<=2 ^ 47) (hb:n * bytes<=2 ^ 47)
def qhc (P:Program) (tx:TypeId) (X:Value) (size n:Nat) (z:Value) (w:World) (NC:List Value):Prop :=
 (VU P tx=true->(Builtin.firstCells size n X).run P w=.ok NC.toArray w)/\(VU P tx=false->NC.toArray=if n * size=0 then #[] else Builtin.zeroCells z.cells n)
theorem Jl {P:Program} {tx:TypeId} {k:IntKind} (h:P.underlying tx=some (.int k)):VU P tx=false:=by simp [VU,h]
theorem run_append_grow {P:Program} {φ:Ren} {m:Mem} {w:World} (hi:Inv φ m w) {ts tx e ty:TypeId} {i:TypeInfo} {z:Value} {size:Nat} {base:Option Addr} {len CAP n:Nat} {X:Value} {old nc:List Value}
  (ht:P.underlying ts=some (.slice e)) (hti:P.info? e=some i) (hsz:i.size=size) (hz:i.zero=some z) (hsrc:AppSrc P tx X size n i.bytes z)
  (hnew:∀ w',Inv φ m w'->∃ NC,qhc P tx X size n z w' NC/\VRs φ nc NC)
  (hold:∀ w',Inv φ m w'->∃ OC,(Builtin.firstCells size len (.slice base len CAP)).run P w'=.ok OC.toArray w'/\VRs φ old OC)
  (hneed:¬ len+n<=CAP) (hb:(len+n) * i.bytes<=2 ^ 47) (hb':len+n<=2 ^ 47) (hol:old.length=len * size) (hnl:nc.length=n * size) (hzs:z.cells.size=size) :
  ∃ w' φ' cap',(Builtin.append_ #[ts,tx] ty #[.slice base len CAP,X]).run P w=.ok (.slice (some ⟨w.heap.size,0,none⟩) (len+n) cap') w'/\len+n<=cap'/\φ' m.next=some ⟨w.heap.size,0,some size,cap' * size⟩ /\
   Inv φ' (m.add ⟨.cells (old++nc) e,false,some size⟩) w'/\Frm φ m w φ' (m.add ⟨.cells (old++nc) e,false,some size⟩) w':=by
 have hfor:(Question.appendCap (len+n) CAP e).forced=false:=rfl;have hcut:len+n<=(Question.appendCap (len+n) CAP e).cut (w.tape w.drawn (.appendCap (len+n) CAP e)):=by simp [Question.cut]
 generalize hcap:(Question.appendCap (len+n) CAP e).cut (w.tape w.drawn (.appendCap (len+n) CAP e))=cap' at hcut;have hi1:Inv φ m { w with drawn:=w.drawn+1 }:=hi.drawn rfl;obtain ⟨OC,hO,rO⟩:=hold _ hi1;obtain ⟨NC,hN,rN⟩:=hnew _ hi1;have hOl:OC.length=len * size:=by rw [<- rO.1]; exact hol
 have hNl:NC.length=n * size:=by rw [<- rN.1]; exact hnl
 generalize hR:Builtin.zeroCells z.cells (cap' - (len+n))=R;have hRl:R.size=(cap' - (len+n)) * size:=by rw [<- hR]; simp [Builtin.zeroCells,hzs]
 obtain ⟨φ',h1,h2,h3⟩:=hi1.wS (c:=old++nc) (C:=OC++NC) R.toList e size (rO.append rN);have hlen2:(OC++NC++R.toList).length=cap' * size:=by
  simp only [laI,hOl,hNl,Array.length_toList,hRl];rw [<- Nat.add_mul,<- Nat.add_mul]; congr 1; omega
 rw [hlen2] at h3;refine ⟨_,φ',cap',?_,hcut,h3,h1,(Frm.drawn (φ:=φ) (m:=m) (w:=w) (w':={ w with drawn:=w.drawn+1 }) rfl rfl rfl rfl).trans h2⟩;have hnc:=nextslicecap_le (len+n) CAP (by omega);have hroom:¬ (Builtin.nextslicecap (len+n) CAP * i.bytes > 2 ^ 48):=by
  have:Builtin.nextslicecap (len+n) CAP * i.bytes<=2 * (len+n) * i.bytes:=Nat.mul_le_mul_right _ hnc;rw [Nat.mul_assoc] at this;omega
 have hmax:¬ (((len+n:Nat):Int) > IntKind.i64.max):=by
  have:IntKind.i64.max=9223372036854775807:=by decide
  rw [this];omega
 have hA:OC.toArray++NC.toArray++R=(OC++NC++R.toList).toArray:=by apply Array.toList_inj.1; simp
 cases hsrc with
 | src hx hlen =>
  have hN:=hN.1 hx;rcases Jm hx with ⟨e2,hd⟩|hd
  ·simp only [Builtin.append_,Sem.run_bind,qy ht,ze hti,hsz,qy hd,Result.andThen_ok,Sem.run_pure,List.getElem?_toArray,List.getElem?_cons_zero,List.getElem?_cons_succ,Bool.false_eq_true,if_false,hlen,
    if_neg hneed,Sem.run_ite,js hti,if_neg hroom,zV hti hz,Bool.not_false,if_true]
   rw [if_neg (λh=>hmax h.1)];simp only [run_choose,hfor,hcap,Bool.false_eq_true,if_false,Result.andThen_ok,run_askRoom,hO,hN,newRow,Sem.run_bind,Sem.run_pure,run_newObj,hR,hA]
  ·simp only [Builtin.append_,Sem.run_bind,qy ht,ze hti,hsz,qy hd,Result.andThen_ok,Sem.run_pure,List.getElem?_toArray,List.getElem?_cons_zero,List.getElem?_cons_succ,Bool.false_eq_true,if_false,hlen,
    if_neg hneed,Sem.run_ite,js hti,if_neg hroom,zV hti hz,Bool.not_false,if_true]
   rw [if_neg (λh=>hmax h.1)];simp only [run_choose,hfor,hcap,Bool.false_eq_true,if_false,Result.andThen_ok,run_askRoom,hO,hN,newRow,Sem.run_bind,Sem.run_pure,run_newObj,hR,hA]
 | zero k kk hx hX hn hbn =>
  subst hX;have hN:=hN.2 (Jl hx);have hw:IntKind.i64.wrap (n:Int)=n:=wrap_small (by omega) (by omega);have hneg:¬ ((n:Int)<0):=by omega
  have h48:¬ ((n:Int) * (i.bytes:Int) > 2 ^ 48):=by rw [<- Int.natCast_mul]; omega
  by_cases h0:n * size=0
  ·rw [if_pos h0] at hN;simp only [Builtin.append_,Sem.run_bind,qy ht,ze hti,hsz,qy hx,Result.andThen_ok,Sem.run_pure,List.getElem?_toArray,List.getElem?_cons_zero,List.getElem?_cons_succ,if_true,asInt,asIntOf,hw,
    if_neg hneg,if_neg h48,Int.toNat_natCast,if_neg hneed,Sem.run_ite,js hti,if_neg hroom,zV hti hz,Bool.not_true,Bool.false_eq_true,if_false,if_pos h0]
   rw [if_neg (λh=>hmax h.1)];simp only [run_choose,hfor,hcap,Bool.false_eq_true,if_false,Result.andThen_ok,run_askRoom,hO,newRow,Sem.run_bind,Sem.run_pure,run_newObj,hR,<- hN,hA]
  ·rw [if_neg h0] at hN;simp only [Builtin.append_,Sem.run_bind,qy ht,ze hti,hsz,qy hx,Result.andThen_ok,Sem.run_pure,List.getElem?_toArray,List.getElem?_cons_zero,List.getElem?_cons_succ,if_true,asInt,asIntOf,hw,
    if_neg hneg,if_neg h48,Int.toNat_natCast,if_neg hneed,Sem.run_ite,js hti,if_neg hroom,zV hti hz,Bool.not_true,Bool.false_eq_true,if_false,if_neg h0]
   rw [if_neg (λh=>hmax h.1)];simp only [run_choose,hfor,hcap,Bool.false_eq_true,if_false,Result.andThen_ok,run_askRoom,hO,newRow,Sem.run_bind,Sem.run_pure,run_newObj,hR,<- hN,hA]
theorem xL {P:Program} {w w':World} {ts tx e ty:TypeId} {i:TypeInfo} {z:Value} {base:Option Addr} {len CAP n:Nat} {X:Value} {NC:List Value}
  (ht:P.underlying ts=some (.slice e)) (hti:P.info? e=some i) (hz:i.zero=some z) (hsrc:AppSrc P tx X i.size n i.bytes z)
  (hnew:qhc P tx X i.size n z w NC) (hneed:len+n<=CAP)
  (hst:∀ a,base=some a->(Go.storeCells (a.add (len * i.size)) NC).run P w=.ok () w') (hno:base=none->w'=w) :
  (Builtin.append_ #[ts,tx] ty #[.slice base len CAP,X]).run P w=.ok (.slice base (len+n) CAP) w':=by
 cases hsrc with
 | src hx hlen =>
  have hnew:=hnew.1 hx;rcases Jm hx with ⟨e2,hd⟩|hd
  ·simp only [Builtin.append_,Sem.run_bind,qy ht,ze hti,qy hd,Result.andThen_ok,Sem.run_pure,List.getElem?_toArray,List.getElem?_cons_zero,List.getElem?_cons_succ,Bool.false_eq_true,if_false,hlen,
    if_pos hneed,Sem.run_ite,Bool.not_false,if_true,hnew]
   cases base with
   | none=>simp [hno rfl]
   | some a=>have:=hst a rfl; simp [this]
  ·simp only [Builtin.append_,Sem.run_bind,qy ht,ze hti,qy hd,Result.andThen_ok,Sem.run_pure,List.getElem?_toArray,List.getElem?_cons_zero,List.getElem?_cons_succ,Bool.false_eq_true,if_false,hlen,
    if_pos hneed,Sem.run_ite,Bool.not_false,if_true,hnew]
   cases base with
   | none=>simp [hno rfl]
   | some a=>have:=hst a rfl; simp [this]
 | zero k kk hx hX hn hbn =>
  subst hX;have hN:=hnew.2 (Jl hx);have hw:IntKind.i64.wrap (n:Int)=n:=wrap_small (by omega) (by omega);have hneg:¬ ((n:Int)<0):=by omega
  have h48:¬ ((n:Int) * (i.bytes:Int) > 2 ^ 48):=by rw [<- Int.natCast_mul]; omega
  have key:(if n * i.size=0 then #[] else Builtin.zeroCells z.cells n).toList=NC:=by rw [<- hN]
  by_cases h0:n * i.size=0
  ·rw [if_pos h0] at key;obtain rfl:NC=[]:=key.symm;simp only [Builtin.append_,Sem.run_bind,qy ht,ze hti,qy hx,Result.andThen_ok,Sem.run_pure,List.getElem?_toArray,List.getElem?_cons_zero,List.getElem?_cons_succ,if_true,asInt,asIntOf,hw,
    if_neg hneg,if_neg h48,Int.toNat_natCast,if_pos hneed,Sem.run_ite,js hti,Bool.not_true,Bool.false_eq_true,if_false,if_pos h0,zV hti hz,key]
   cases base with
   | none=>simp [hno rfl]
   | some a=>have:=hst a rfl; simp [this]
  ·rw [if_neg h0] at key;simp only [Builtin.append_,Sem.run_bind,qy ht,ze hti,qy hx,Result.andThen_ok,Sem.run_pure,List.getElem?_toArray,List.getElem?_cons_zero,List.getElem?_cons_succ,if_true,asInt,asIntOf,hw,
    if_neg hneg,if_neg h48,Int.toNat_natCast,if_pos hneed,Sem.run_ite,js hti,Bool.not_true,Bool.false_eq_true,if_false,if_neg h0,zV hti hz,key]
   cases base with
   | none=>simp [hno rfl]
   | some a=>have:=hst a rfl; simp [this]
theorem hZ {P:Program} {φ:Ren} {m m':Mem} {w:World} (hi:Inv φ m w) {ts tx e ty:TypeId} {i:TypeInfo} {z:Value} {v V X u:Value} {n:Nat} {nc:List Value}
  (ht:P.underlying ts=some (.slice e)) (hti:P.info? e=some i) (hz:i.zero=some z) (hzs:z.cells.size=i.size) (hv:VR φ v V) (hS:AppSrc P tx X i.size n i.bytes z) (hnew:∀ w',Inv φ m w'->∃ NC,qhc P tx X i.size n z w' NC/\VRs φ nc NC) (h:qA e i.size i.bytes v n nc m=some (u,m')) :
  ∃ U w' φ',(Builtin.append_ #[ts,tx] ty #[V,X]).run P w=.ok U w'/\VR φ' u U/\Inv φ' m' w'/\Frm φ m w φ' m' w':=by
 unfold qA at h;split at h
 rotate_left
 ·cases h
 rename_i a len cap;split at h
 ·cases h
 rename_i hroom;have hroom:=Decidable.not_not.1 hroom;obtain ⟨hb,hb',hnl,hone⟩:=hroom;split at h
 ·rename_i hneed;split at h
  ·split at h
   ·rename_i hz0;cases h
    obtain ⟨h0,rfl⟩:=hz0;cases hv
    obtain rfl:n=0:=by omega
    obtain ⟨NC,hN,_⟩:=hnew w hi;exact ⟨.slice none 0 0,w,φ,xL ht hti hz hS hN (by omega) (λa h=>by cases h) (λ_=>rfl),.sliceNil,hi,Frm.refl φ m w⟩
   ·cases h
  ·rename_i b off;split at h
   ·rename_i hns;cases h
    obtain ⟨NC,hN,rN⟩:=hnew w hi;have:NC=[]:=by
     have:=rN.1;rw [hnl,hns] at this;simpa using this.symm
    subst this;cases hv with
    | sliceEx _ _ _ _ l hl hlo =>
     exact ⟨_,w,φ,xL ht hti hz hS hN hneed (λa h=>by simp [Go.storeCells]) (λh=>by cases h),.sliceEx _ _ _ _ l hl hlo,hi,Frm.refl φ m w⟩
    | sliceZero _ _ A =>
     obtain rfl:n=0:=by omega
     exact ⟨_,w,φ,xL ht hti hz hS hN hneed (λa h=>by simp [Go.storeCells]) (λh=>by cases h),.sliceZero _ _ A,hi,Frm.refl φ m w⟩
    | sliceLoose _ _ _ _ off' cap' s l hl hlo hoff hlen' hcap hroom =>
     exact ⟨_,w,φ,xL ht hti hz hS hN (by omega) (λa h=>by simp [Go.storeCells]) (λh=>by cases h),.sliceLoose _ _ _ _ off' cap' s l hl hlo hoff hneed hcap hroom,hi,Frm.refl φ m w⟩
   ·rename_i hns;simp only [bsI] at h;obtain ⟨⟨c,e',lo⟩,hq,h⟩:=h;have hg:=Mem.wg hq;split at h
    ·rename_i hc;cases h
     obtain ⟨hc,hc0⟩:=hc;obtain ⟨NC,hN,rN⟩:=hnew w hi;rw [Nat.add_mul] at hc;cases hv with
     | sliceEx _ _ _ _ l hl hlo =>
      obtain ⟨w',hrun,h4,h5⟩:=Inv.storeCells (P:=P) hl (off+len * i.size) nc NC 0 c m w hi hg rN (λv hv=>List.all_eq_true.1 hone v hv) (by simp only at hc; omega);refine ⟨_,w',φ,xL ht hti hz hS hN hneed (λa h=>?_) (λh=>by cases h),.sliceEx _ _ _ _ l hl hlo,h4,h5⟩
      cases h
      rw [jq,Nat.add_assoc]; exact hrun
     | sliceZero _ _ A=>exact absurd ((congrArg (· * i.size) (show n=0 by omega)).trans (Nat.zero_mul _)) hns
     | sliceLoose _ _ _ _ off' cap' s l hl hlo hoff hlen' hcap hroom =>
      have:off'=l.base+off:=hoff hc0;subst this;obtain ⟨w',hrun,h4,h5⟩:=Inv.storeCells (P:=P) hl (off+len * i.size) nc NC 0 c m w hi hg rN (λv hv=>List.all_eq_true.1 hone v hv) (by simp only at hc; omega);refine ⟨_,w',φ,xL ht hti hz hS hN (by omega) (λa h=>?_) (λh=>by cases h),.sliceLoose _ _ _ _ _ cap' s l hl hlo (λ_=>rfl) hneed hcap hroom,h4,h5⟩
      cases h
      rw [jq,Nat.add_assoc]; exact hrun
    ·cases h
  ·cases h
 ·rename_i hneed;split at h
  ·split at h
   ·rename_i hz0;cases h
    obtain ⟨rfl,rfl⟩:=hz0;cases hv
    obtain ⟨w',φ',cap',h1,h2,h3,h4,h5⟩:=run_append_grow (ty:=ty) (base:=none) (CAP:=0) (old:=[]) hi ht hti rfl hz hS hnew (λw' _=>⟨[],by simp [Builtin.firstCells],VRs.nil φ⟩) hneed hb hb' (by simp) hnl hzs;rw [Nat.zero_add] at h1 h2;refine ⟨_,w',φ',h1,?_,by simpa using h4,by simpa using h5⟩;exact .sliceLoose _ _ _ _ 0 cap' i.size _ h3 rfl (λ_=>by simp) (Nat.le_refl _) h2 (by simp)
   ·cases h
  ·rename_i b off;split at h
   ·rename_i c e' ro hg;split at h
    ·rename_i hc;cases h
     cases hv with
     | sliceEx _ _ _ _ l hl hlo =>
      obtain ⟨w',φ',cap',h1,h2,h3,h4,h5⟩:=run_append_grow (ty:=ty) (base:=some ⟨l.blk,l.base+off,none⟩) (CAP:=cap) (old:=(c.drop off).take (len * i.size)) hi ht hti rfl hz hS hnew
       (λw' hi'=>by
        obtain ⟨Vs,h1,h2⟩:=hi'.loadCells (P:=P) hg hl off (len * i.size) hc;exact ⟨Vs,by simpa [Builtin.firstCells] using h1,h2⟩) hneed hb hb' (by simp; omega) hnl hzs
      refine ⟨_,w',φ',h1,?_,h4,h5⟩;exact .sliceLoose _ _ _ _ 0 cap' i.size _ h3 rfl (λ_=>by simp) (Nat.le_refl _) h2 (by simp)
     | sliceZero _ _ A =>
      obtain ⟨w',φ',cap',h1,h2,h3,h4,h5⟩:=run_append_grow (ty:=ty) (base:=some A) (CAP:=0) (len:=0) (old:=(c.drop off).take (0 * i.size)) hi ht hti rfl hz hS hnew
       (λw' hi'=>⟨[],by simp [Builtin.firstCells,Go.loadCells,Go.loadCellsFrom],by simpa using VRs.nil φ⟩) hneed hb hb' (by simp) hnl hzs
      refine ⟨_,w',φ',h1,?_,h4,h5⟩;exact .sliceLoose _ _ _ _ 0 cap' i.size _ h3 rfl (λ_=>by simp) (Nat.le_refl _) h2 (by simp)
     | sliceLoose _ _ _ _ off' cap' s l hl hlo hoff hlen' hcap hroom =>
      obtain ⟨k,hk,ok,_⟩:=hi.live b _ hg;rw [hl] at hk; cases hk
      replace ok:=ok.1; rw [hlo] at ok; cases ok
    ·cases h
   ·rename_i c e' s hg;split at h
    ·rename_i hc;cases h
     obtain ⟨rfl,rfl,hlc,hc⟩:=hc;cases hv with
     | sliceEx _ _ _ _ l hl hlo =>
      obtain ⟨k,hk,ok,_⟩:=hi.live b _ hg;rw [hl] at hk; cases hk
      replace ok:=ok.1; rw [hlo] at ok; cases ok
     | sliceZero _ _ A =>
      obtain ⟨q,hq,_⟩:=hi.live b _ hg;obtain ⟨w',φ',cap',h1,h2,h3,h4,h5⟩:=run_append_grow (ty:=ty) (base:=some A) (CAP:=0) (len:=0) (old:=(c.drop off).take (0 * i.size)) hi ht hti rfl hz hS hnew
       (λw' hi'=>⟨[],by simp [Builtin.firstCells,Go.loadCells,Go.loadCellsFrom],by simpa using VRs.nil φ⟩) hneed hb hb' (by simp) hnl hzs
      obtain ⟨h6,h7⟩:=h4.kill b;have hbn:b≠m.next:=by have:=(hi.below b q hq).1; omega
      have hg':∀ d,((m.kill b).add ⟨.cells ((c.drop off).take (0 * i.size)++nc) e',false,some i.size⟩).get d=((m.add ⟨.cells ((c.drop off).take (0 * i.size)++nc) e',false,some i.size⟩).kill b).get d:=by
       intro d;rw [Mem.zw,Mem.xW,Mem.xW,Mem.zw,Mem.xY];by_cases h1:d=m.next
       ·rw [if_pos h1,if_pos h1,if_neg (λh=>hbn (h.symm.trans h1))]
       ·rw [if_neg h1,if_neg h1]
      exact ⟨_,w',φ',h1,.sliceLoose _ _ _ _ 0 cap' i.size _ h3 rfl (λ_=>by simp) (Nat.le_refl _) h2 (by simp),h6.ext hg' rfl,(h5.trans h7).ext hg' rfl⟩
     | sliceLoose _ _ _ _ off' CAP s l hl hlo hoff hlen' hcap hroom =>
      obtain ⟨k,hk,ok,_⟩:=hi.live b _ hg;rw [hl] at hk; cases hk
      replace ok:=ok.1; rw [hlo] at ok; cases ok
      by_cases hfit:len+n<=CAP
      ·obtain ⟨NC,hN,rN⟩:=hnew w hi;obtain ⟨w',φ',hrun,h4,h5,h6⟩:=hi.HY (P:=P) hg hl hoff hlen' hroom hfit hc rN (λv hv=>List.all_eq_true.1 hone v hv) hnl;have hfin:VR φ' (.slice (some ⟨m.next,0,none⟩) (len+n) (len+n)) (.slice (some ⟨l.blk,off',none⟩) (len+n) CAP) :=
        VR.sliceLoose m.next 0 (len+n) (len+n) off' CAP i.size ⟨l.blk,off',some i.size,l.size⟩ h6 rfl (λ_=>rfl) (Nat.le_refl _) hfit hroom
       refine ⟨_,w',φ',xL ht hti hz hS hN hfit (λa h=>?_) (λh=>by cases h),hfin,h4,h5⟩
       cases h
       rw [jq]; exact hrun
      ·have hold:∀ w',Inv φ m w'->∃ OC,(Builtin.firstCells i.size len (.slice (some ⟨l.blk,off',none⟩) len CAP)).run P w'=.ok OC.toArray w'/\VRs φ ((c.drop off).take (len * i.size)) OC:=by
        intro w' hi';by_cases h0:cap=0
        ·have:len=0:=by omega
         subst this;exact ⟨[],by simp [Builtin.firstCells,Go.loadCells,Go.loadCellsFrom],by simpa using VRs.nil φ⟩
        ·have:=hoff h0;subst this;obtain ⟨Vs,h1,h2⟩:=hi'.loadCells (P:=P) hg hl off (len * i.size) hc;exact ⟨Vs,by simpa [Builtin.firstCells] using h1,h2⟩
       obtain ⟨w',φ',cap',h1,h2,h3,h4,h5⟩:=run_append_grow (ty:=ty) hi ht hti rfl hz hS hnew hold hfit hb hb' (by simp; omega) hnl hzs;obtain ⟨h6,h7⟩:=h4.kill b;have hbn:b≠m.next:=by have:=(hi.below b l hl).1; omega
       have hg':∀ d,((m.kill b).add ⟨.cells ((c.drop off).take (len * i.size)++nc) e',false,some i.size⟩).get d=((m.add ⟨.cells ((c.drop off).take (len * i.size)++nc) e',false,some i.size⟩).kill b).get d:=by
        intro d;rw [Mem.zw,Mem.xW,Mem.xW,Mem.zw,Mem.xY];by_cases h1:d=m.next
        ·rw [if_pos h1,if_pos h1,if_neg (λh=>hbn (h.symm.trans h1))]
        ·rw [if_neg h1,if_neg h1]
       exact ⟨_,w',φ',h1,.sliceLoose _ _ _ _ 0 cap' i.size _ h3 rfl (λ_=>by simp) (Nat.le_refl _) h2 (by simp),h6.ext hg' rfl,(h5.trans h7).ext hg' rfl⟩
    ·cases h
   ·cases h
  ·cases h
theorem YZ {P:Program} {φ:Ren} {m:Mem} {size:Nat} {x X:Value} {n:Nat} {nc:List Value} (hx:VR φ x X) (h:qM size x m=some (n,nc)):∀ w,(Builtin.lenOf X).run P w=.ok n w:=by
 intro w;unfold qM at h;split at h
 ·cases h; cases hx; simp [Builtin.lenOf]
 ·split at h
  ·rename_i h0; cases h; cases hx; simp [Builtin.lenOf]
  ·cases h
 ·split at h
  ·rename_i h0; cases h; subst h0; cases hx<;>simp [Builtin.lenOf]
  ·simp only [bsI] at h;obtain ⟨c,_,h⟩:=h;split at h
   ·cases h; cases hx<;>simp [Builtin.lenOf]
   ·cases h
 ·cases h
theorem Wk {P:Program} {φ:Ren} {m m':Mem} {w:World} (hi:Inv φ m w) {ts tx e ty:TypeId} {i:TypeInfo} {z:Value} {v V x X u:Value} {n:Nat} {nc:List Value}
  (ht:P.underlying ts=some (.slice e)) (hti:P.info? e=some i) (hz:i.zero=some z) (hzs:z.cells.size=i.size) (hx:VU P tx=true) (hv:VR φ v V) (hxv:VR φ x X)
  (hsrc:qM i.size x m=some (n,nc)) (h:qA e i.size i.bytes v n nc m=some (u,m')) :
  ∃ U w' φ',(Builtin.append_ #[ts,tx] ty #[V,X]).run P w=.ok U w'/\VR φ' u U/\Inv φ' m' w'/\Frm φ m w φ' m' w':=by
 refine hZ hi ht hti hz hzs hv (.src hx (YZ hxv hsrc)) (λw' hi'=>?_) h;obtain ⟨_,_,_,hnew⟩:=qbU (P:=P) hi' hxv hsrc;obtain ⟨NC,h1,h2⟩:=hnew w' hi';exact ⟨NC,⟨λ_=>h1,λhf=>by rw [hx] at hf; cases hf⟩,h2⟩
def xk (e:TypeId) (size eb:Nat) (z v x:Value) (m:Mem):Option (Value × Mem):=match x with
 | .int _ k=>if 0<=k/\k<=2 ^ 47/\k.toNat * eb<=2 ^ 47 then qA e size eb v k.toNat (List.replicate k.toNat z.cells.toList).flatten m else none
 | _=>none
theorem KG {P:Program} {φ:Ren} {m m':Mem} {w:World} (hi:Inv φ m w) {ts tx e ty:TypeId} {k:IntKind} {i:TypeInfo} {z:Value} {v V x X u:Value}
  (ht:P.underlying ts=some (.slice e)) (hti:P.info? e=some i) (hz:i.zero=some z) (hzs:z.cells.size=i.size) (hzp:z.cells.toList.all Fx.plain=true) (hx:P.underlying tx=some (.int k)) (hv:VR φ v V) (hxv:VR φ x X)
  (h:xk e i.size i.bytes z v x m=some (u,m')) :
  ∃ U w' φ',(Builtin.append_ #[ts,tx] ty #[V,X]).run P w=.ok U w'/\VR φ' u U/\Inv φ' m' w'/\Frm φ m w φ' m' w':=by
 unfold xk at h;split at h
 rotate_left
 ·cases h
 rename_i kk c;split at h
 rotate_left
 ·cases h
 rename_i hc;obtain ⟨h0,h1,h2⟩:=hc;obtain ⟨c,rfl⟩:=Int.eq_ofNat_of_zero_le h0;simp only [Int.ofNat_eq_natCast,Int.toNat_natCast] at h h1 h2;cases hxv
 refine hZ hi ht hti hz hzs hv (.zero k kk hx rfl (by omega) h2) (λw' hi'=>?_) h;refine ⟨(List.replicate c z.cells.toList).flatten,⟨λhf=>(by rw [Jl hx] at hf; cases hf),λ_=>?_⟩,VRs.plain ?_⟩
 ·split
  ·rename_i hz0;apply Array.toList_inj.1;have:((List.replicate c z.cells.toList).flatten).length=0:=by simp [hzs,hz0]
   simpa using List.length_eq_zero_iff.1 this
  ·rename_i hz0;rw [KE z c]
 ·rw [List.all_eq_true];intro v hv;obtain ⟨l,hl,hvl⟩:=List.mem_flatten.1 hv;rw [List.eq_of_mem_replicate hl] at hvl;exact List.all_eq_true.1 hzp v hvl
end Go.Fx
namespace Go.Fx
open Go
def vk (size:Nat) (dst:Value) (n:Nat) (nc:List Value) (m:Mem):Option (Value × Mem) :=
 match dst with
 | .slice none len _=>if len=0 then some (.int .i64 0,m) else none
 | .slice (some ⟨b,off,none⟩) len cap =>
  let k:=Nat.min n len
  if k=0 then some (.int .i64 0,m)
  else (m.jF b).bind λq =>
   if off+len * size<=q.1.length/\cap≠0/\nc.length=n * size/\nc.all (·.oneCell')=true then some (.int .i64 k,m.put b ⟨.cells (qQ q.1 off (nc.take (k * size))) q.2.1,false,q.2.2⟩) else none
 | _=>none
def min2 (a b:Value):Option Value :=
 match a,b with
 | .int k x,.int _ y=>some (.int k (if y<x then y else x))
 | _,_=>none
def max2 (a b:Value):Option Value :=
 match a,b with
 | .int k x,.int _ y=>some (.int k (if y > x then y else x))
 | _,_=>none
def jz (f:Value->Value->Option Value):Value->List Value->Option Value
 | a,[]=>some a
 | a,b::r=>match f a b with
  | some c=>jz f c r
  | none=>none
theorem Xg {P:Program} {φ:Ren} {w:World} {f:Value->Value->Option Value} {g:Value->Value->Sem Value} (hfg:∀ a b A B u,VR φ a A->VR φ b B->f a b=some u->(g A B).run P w=.ok u w/\VR φ u u/\∃ k n,u=.int k n) :
  ∀ (l L:List Value) (a A u:Value),VR φ a A->VRs φ l L->jz f a l=some u->∃ U,(L.foldlM g A).run P w=.ok U w/\VR φ u U:=by
 intro l
 induction l with
 | nil =>
  intro L a A u ha hl h;have:L=[]:=by have:=hl.1; simpa using this.symm
  subst this;cases h
  exact ⟨A,by simp,ha⟩
 | cons b l ih =>
  intro L a A u ha hl h;cases L with
  | nil=>have:=hl.1; simp at this
  | cons B L =>
   simp only [jz] at h;split at h
   ·rename_i c hc;obtain ⟨h1,h2,_⟩:=hfg a b A B c ha (hl.2 0 b B rfl rfl) hc;obtain ⟨U,h3,h4⟩:=ih L c c u h2 ⟨by have:=hl.1; simpa using this,λi x y hx hy=>hl.2 (i+1) x y (by simpa using hx) (by simpa using hy)⟩ h;exact ⟨U,by simp [List.foldlM_cons,h1,h3],h4⟩
   ·cases h
theorem qar {P:Program} {φ:Ren} {w:World} (a b A B u:Value) (ha:VR φ a A) (hb:VR φ b B) (h:min2 a b=some u):(Builtin.min2 A B).run P w=.ok u w/\VR φ u u/\∃ k n,u=.int k n:=by
 unfold min2 at h;split at h
 ·cases h; cases ha; cases hb; exact ⟨by simp [Builtin.min2],.int ..,_,_,rfl⟩
 ·cases h
theorem qas {P:Program} {φ:Ren} {w:World} (a b A B u:Value) (ha:VR φ a A) (hb:VR φ b B) (h:max2 a b=some u):(Builtin.max2 A B).run P w=.ok u w/\VR φ u u/\∃ k n,u=.int k n:=by
 unfold max2 at h;split at h
 ·cases h; cases ha; cases hb; exact ⟨by simp [Builtin.max2],.int ..,_,_,rfl⟩
 ·cases h
theorem qaC {P:Program} {φ:Ren} {m:Mem} {w:World} (hi:Inv φ m w) {size:Nat} {x X:Value} {n k:Nat} {nc:List Value} (hx:VR φ x X) (h:qM size x m=some (n,nc)) (hk:k<=n) (hk0:k≠0) (hnl:nc.length=n * size) :
  ∃ NC,(Builtin.firstCells size k X).run P w=.ok NC.toArray w/\VRs φ (nc.take (k * size)) NC:=by
 unfold qM at h;simp only [<- Array.toList_map] at h;split at h
 ·rename_i s;cases h
  cases hx
  have hs1:size=1:=by
   simp only [Array.toList_map,List.length_map,Array.length_toList] at hnl;have h1:s.data.size=s.size:=rfl;rw [h1] at hnl;have h2:s.size * 1=s.size * size:=by omega
   exact (Nat.eq_of_mul_eq_mul_left (by omega) h2).symm
  subst hs1;refine ⟨((s.extract 0 k).data.map λb=>Value.int .u8 b.toNat).toList,by simp only [Builtin.firstCells,Sem.run_pure,Array.toArray_toList],?_⟩;have:((s.data.map λb=>Value.int .u8 b.toNat).toList).take (k * 1)=((s.extract 0 k).data.map λb=>Value.int .u8 b.toNat).toList:=by
   simp only [Array.toList_map,Nat.mul_one,<- List.map_take,ByteArray.data_extract,Array.toList_extract,List.extract_eq_take_drop,List.drop_zero];simp
  rw [this];exact VRs.bytes _
 ·split at h
  ·cases h; omega
  ·cases h
 ·rename_i b off k' c;split at h
  ·cases h; omega
  ·rename_i hz;simp only [bsI] at h;obtain ⟨cs,hc,h⟩:=h;split at h
   ·rename_i hlen;cases h
    obtain ⟨e,ro,lo,hg⟩:=Mem.jl hc;have hmul:k * size<=n * size:=Nat.mul_le_mul_right _ hk;have htk:((cs.drop off).take (n * size)).take (k * size)=(cs.drop off).take (k * size):=by rw [List.take_take]; congr 1; omega
    rw [htk];cases hx with
    | sliceEx _ _ _ _ l hl hlo =>
     obtain ⟨Vs,h1,h2⟩:=hi.loadCells (P:=P) hg hl off (k * size) (by omega);exact ⟨Vs,by simpa [Builtin.firstCells] using h1,h2⟩
    | sliceZero _ _ A=>exact absurd rfl hz
    | sliceLoose _ _ _ _ off' cap' s l hl hlo hoff hlen' hcap hroom =>
     have:off'=l.base+off:=hoff (by omega);subst this;obtain ⟨Vs,h1,h2⟩:=hi.loadCells (P:=P) hg hl off (k * size) (by omega);exact ⟨Vs,by simpa [Builtin.firstCells] using h1,h2⟩
   ·cases h
 ·cases h
theorem qav {P:Program} {φ:Ren} {m m':Mem} {w:World} (hi:Inv φ m w) {ts tx e ty:TypeId} {i:TypeInfo} {v V x X u:Value} {n:Nat} {nc:List Value}
  (ht:P.underlying ts=some (.slice e)) (hti:P.info? e=some i) (hv:VR φ v V) (hxv:VR φ x X) (hsrc:qM i.size x m=some (n,nc)) (h:vk i.size v n nc m=some (u,m')) :
  ∃ w',(Builtin.copy_ #[ts,tx] ty #[V,X]).run P w=.ok u w'/\VR φ u u/\Inv φ m' w'/\Frm φ m w φ m' w':=by
 obtain ⟨hlen,_,_,hnew⟩:=qbU (P:=P) hi hxv hsrc;have key:∀ (base:Option Addr) (len CAP:Nat) (NC:List Value) (w':World),(Builtin.firstCells i.size (Nat.min n len) X).run P w=.ok NC.toArray w->(∀ a,base=some a->(Go.storeCells a NC).run P w=.ok () w')->(base=none->w'=w) ->
   (Builtin.copy_ #[ts,tx] ty #[.slice base len CAP,X]).run P w=.ok (.int .i64 (Nat.min n len)) w':=by
  intro base len CAP NC w' h1 h2 h3;simp only [Builtin.copy_,Sem.run_bind,qy ht,ze hti,Result.andThen_ok,Sem.run_pure,List.getElem?_toArray,List.getElem?_cons_zero,List.getElem?_cons_succ,hlen,h1];cases base with
  | none=>simp [h3 rfl,goInt]
  | some a=>have:=h2 a rfl; simp [this,goInt]
 have h0:∀ (len:Nat),Nat.min n len=0->∃ NC:List Value,(Builtin.firstCells i.size (Nat.min n len) X).run P w=.ok NC.toArray w/\NC=[]:=by
  intro len h0;rw [h0];unfold qM at hsrc;simp only [<- Array.toList_map] at hsrc;split at hsrc
  ·cases hxv; exact ⟨[],by simp [Builtin.firstCells],rfl⟩
  ·cases hxv; exact ⟨[],by simp [Builtin.firstCells],rfl⟩
  ·cases hxv<;>exact ⟨[],by simp [Builtin.firstCells,Go.loadCells,Go.loadCellsFrom],rfl⟩
  ·cases hsrc
 unfold vk at h;split at h
 ·rename_i len cap;split at h
  ·rename_i hz;cases h
   subst hz;cases hv
   obtain ⟨NC,h1,rfl⟩:=h0 0 (Nat.min_zero n);have:=key none 0 0 [] w h1 (λa h=>by cases h) (λ_=>rfl)
   rw [show Nat.min n 0=0 from Nat.min_zero n] at this;exact ⟨w,this,.int ..,hi,Frm.refl φ m w⟩
  ·cases h
 ·rename_i b off len cap;simp only at h;split at h
  ·rename_i hk;cases h
   obtain ⟨NC,h1,rfl⟩:=h0 len hk;cases hv with
   | sliceEx _ _ _ _ l hl hlo =>
    have:=key (some ⟨l.blk,l.base+off,none⟩) len cap [] w h1 (λa h=>by simp [Go.storeCells]) (λh=>by cases h)
    rw [hk] at this;exact ⟨w,this,.int ..,hi,Frm.refl φ m w⟩
   | sliceZero _ _ A =>
    have:=key (some A) 0 0 [] w h1 (λa h=>by simp [Go.storeCells]) (λh=>by cases h)
    rw [hk] at this;exact ⟨w,this,.int ..,hi,Frm.refl φ m w⟩
   | sliceLoose _ _ _ _ off' cap' s l hl hlo hoff hlen' hcap hroom =>
    have:=key (some ⟨l.blk,off',none⟩) len cap' [] w h1 (λa h=>by simp [Go.storeCells]) (λh=>by cases h)
    rw [hk] at this;exact ⟨w,this,.int ..,hi,Frm.refl φ m w⟩
  ·rename_i hk;simp only [bsI] at h;obtain ⟨⟨c,e',lo⟩,hq,h⟩:=h;have hg:=Mem.wg hq;split at h
   ·rename_i hh;cases h
    obtain ⟨h1,h2,h3,h4⟩:=hh;simp only at h1;have hkn:Nat.min n len<=n:=Nat.min_le_left ..;have hkl:Nat.min n len<=len:=Nat.min_le_right ..;obtain ⟨NC,hN,rN⟩:=qaC (P:=P) hi hxv hsrc hkn hk h3;have hmul:Nat.min n len * i.size<=len * i.size:=Nat.mul_le_mul_right _ hkl;have hone:∀ v∈nc.take (Nat.min n len * i.size),v.oneCell'=true:=λv hv=>List.all_eq_true.1 h4 v (List.mem_of_mem_take hv)
    have htl:(nc.take (Nat.min n len * i.size)).length<=Nat.min n len * i.size:=by simp; omega
    cases hv with
    | sliceEx _ _ _ _ l hl hlo =>
     obtain ⟨w',hrun,h5,h6⟩:=Inv.storeCells (P:=P) hl off _ NC 0 c m w hi hg rN hone (by omega);exact ⟨w',key _ len cap NC w' hN (λa h=>by cases h; exact hrun) (λh=>by cases h),.int ..,h5,h6⟩
    | sliceZero _ _ A=>exact absurd (Nat.min_zero n) hk
    | sliceLoose _ _ _ _ off' cap' s l hl hlo hoff hlen' hcap hroom =>
     have:off'=l.base+off:=hoff h2;subst this;obtain ⟨w',hrun,h5,h6⟩:=Inv.storeCells (P:=P) hl off _ NC 0 c m w hi hg rN hone (by omega);exact ⟨w',key _ len cap' NC w' hN (λa h=>by cases h; exact hrun) (λh=>by cases h),.int ..,h5,h6⟩
   ·cases h
 ·cases h
def strOf:List Value->Option (List UInt8)
 | []=>some []
 | .int .u8 n::r=>(strOf r).map (UInt8.ofNat n.toNat::·)
 | _::_=>none
def xZ (v:Value) (m:Mem):Option Value :=
 match v with
 | .slice none _ _=>some (.string .empty)
 | .slice (some ⟨b,off,none⟩) len _=>if len=0 then some (.string .empty) else (m.xp b).bind λc=>if off+len<=c.length then (strOf ((c.drop off).take len)).map λl=>.string ⟨l.toArray⟩ else none
 | _=>none
theorem Ji {φ:Ren}:∀ (l L:List Value) (r:List UInt8),VRs φ l L->strOf l=some r->strOf L=some r:=by
 intro l
 induction l with
 | nil =>
  intro L r hl h;have:L=[]:=by have:=hl.1; simpa using this.symm
  subst this; exact h
 | cons v l ih =>
  intro L r hl h;cases L with
  | nil=>have:=hl.1; simp at this
  | cons V L =>
   have hv:VR φ v V:=hl.2 0 v V rfl rfl;unfold strOf at h;split at h
   ·rename_i he; cases he
   ·rename_i n r' he;cases he
    cases hv
    simp only [msI] at h;obtain ⟨q,hq,rfl⟩:=h;have:=ih L q ⟨by have:=hl.1; simpa using this,λi x y hx hy=>hl.2 (i+1) x y (by simpa using hx) (by simpa using hy)⟩ hq;simp [strOf,this]
   ·cases h
theorem YY {P:Program} {w:World}:∀ (L:List Value) (s:ByteArray) (r:List UInt8),strOf L=some r ->
  (forIn L s (λc (s:ByteArray)=>match c with
   | .int .u8 n=>pure (ForInStep.yield (s.push (UInt8.ofNat n.toNat)))
   | _=>do
    (stuck "bytesToString: byte expected" : Sem PUnit)
    pure (ForInStep.yield s)):Sem ByteArray).run P w=.ok ⟨s.data++r.toArray⟩ w:=by
 intro L
 induction L with
 | nil =>
  intro s r h;cases h
  simp
 | cons v L ih =>
  intro s r h;unfold strOf at h;split at h
  ·rename_i he; cases he
  ·rename_i n r' he;cases he
   simp only [msI] at h;obtain ⟨q,hq,rfl⟩:=h;have:=ih (s.push (UInt8.ofNat n.toNat)) q hq;simp only [List.forIn_cons,Sem.run_bind,Sem.run_pure,Result.andThen_ok];rw [this];congr 2;apply Array.toList_inj.1;simp [ByteArray.push]
  ·cases h
theorem qdj {P:Program} {φ:Ren} {m:Mem} {w:World} (hi:Inv φ m w) {s d e:TypeId} (hs:P.underlying s=some (.slice e)) (hd:P.underlying d=some .string) (he:P.underlying e=some (.int .u8)) {v V u:Value} (hv:VR φ v V) (h:xZ v m=some u) :
  (convert s d V).run P w=.ok u w/\VR φ u u:=by
 have hconv:∀ X:Value,(convert s d X).run P w=(Conv.bytesToString X).run P w∨(∀ a n c,X≠.slice a n c):=by
  intro X;cases X with
  | slice a n c=>left; simp [convert,qy hs,qy hd,qy he]
  | _=>right; intro a n c h; cases h
 have conv:∀ a n c,(convert s d (.slice a n c)).run P w=(Conv.bytesToString (.slice a n c)).run P w:=λa n c=>(hconv _).resolve_right (λh=>h a n c rfl)
 unfold xZ at h;split at h
 ·cases h
  cases hv
  exact ⟨by rw [conv]; simp [Conv.bytesToString],.string _⟩
 ·rename_i b off len cap;have fin:∀ (a:Addr) (c:Nat) (L:List Value) (r:List UInt8),(Go.loadCells a len).run P w=.ok L.toArray w->strOf L=some r->(Conv.bytesToString (.slice (some a) len c)).run P w=.ok (.string ⟨r.toArray⟩) w:=by
   intro a c L r h1 h2;have:=YY (P:=P) (w:=w) L ByteArray.empty r h2;simp only [Conv.bytesToString,Sem.run_bind,h1,Result.andThen_ok];rw [<- Array.forIn_toList,List.toList_toArray];refine Eq.trans (congrArg (λx=>Result.andThen x (λ(a:ByteArray) w'=>Sem.run P (pure (Value.string a)) w')) this) ?_;simp
  split at h
  ·rename_i hz;subst hz;cases h
   refine ⟨?_,.string _⟩;have h0:∀ a:Addr,(Go.loadCells a 0).run P w=.ok ([]:List Value).toArray w:=λa=>by simp [Go.loadCells,Go.loadCellsFrom]
   cases hv with
   | sliceEx _ _ _ _ l hl hlo=>rw [conv]; exact fin _ _ [] [] (h0 _) rfl
   | sliceZero _ _ A=>rw [conv]; exact fin _ _ [] [] (h0 _) rfl
   | sliceLoose _ _ _ _ off' cap' s l hl hlo hoff hlen' hcap hroom=>rw [conv]; exact fin _ _ [] [] (h0 _) rfl
  ·rename_i hz;simp only [bsI] at h;obtain ⟨cs,hc,h⟩:=h;split at h
   ·rename_i hlen;simp only [msI] at h;obtain ⟨r,hr,rfl⟩:=h;obtain ⟨e',ro,lo,hg⟩:=Mem.jl hc;refine ⟨?_,.string _⟩;cases hv with
    | sliceEx _ _ _ _ l hl hlo =>
     obtain ⟨Vs,h1,h2⟩:=hi.loadCells (P:=P) hg hl off len hlen;rw [conv]; exact fin _ _ Vs r h1 (Ji _ _ _ h2 hr)
    | sliceZero _ _ A=>exact absurd rfl hz
    | sliceLoose _ _ _ _ off' cap' s l hl hlo hoff hlen' hcap hroom =>
     have:off'=l.base+off:=hoff (by omega);subst this;obtain ⟨Vs,h1,h2⟩:=hi.loadCells (P:=P) hg hl off len hlen;rw [conv]; exact fin _ _ Vs r h1 (Ji _ _ _ h2 hr)
   ·cases h
 ·cases h
end Go.Fx
namespace Go.Fx
open Go
theorem Inv.setObj {φ:Ren} {m:Mem} {w:World} (h:Inv φ m w) {b:Nat} {x:ABlk} {l:Loc} (hb:m.get b=some x) (hx:x.ro=false) (hl:φ b=some l) (y:ABlk) (O:Obj) (hy:y.ro=false)
  (ok:kq φ { w with heap:=w.heap.setIfInBounds l.blk O } y l) :
  Inv φ (m.put b y) { w with heap:=w.heap.setIfInBounds l.blk O }/\Frm φ m w φ (m.put b y) { w with heap:=w.heap.setIfInBounds l.blk O }:=by
 have hoth:∀ B,B≠l.blk->(w.heap.setIfInBounds l.blk O)[B]? = w.heap[B]?:=λB hB=>by rw [Array.getElem?_setIfInBounds_ne (Ne.symm hB)]
 have hsz:(w.heap.setIfInBounds l.blk O).size=w.heap.size:=Array.size_setIfInBounds ..;refine ⟨⟨λd z hz=>?_,λd e z u k j hz hu hk hj hr hne=>?_,λd k hk=>by rw [show ({ w with heap:=w.heap.setIfInBounds l.blk O }:World).heap.size=w.heap.size from hsz]; exact h.below d k hk⟩,
  ⟨Ren.le_refl φ,by rw [show ({ w with heap:=w.heap.setIfInBounds l.blk O }:World).heap.size=w.heap.size from hsz]; exact Nat.le_refl _,λB hB hno=>hoth B (λe=>hno b x l hb hl hx e.symm),λd z k hz hk hr=>?_,rfl,rfl,rfl,Nat.le_refl _,λ_ _=>rfl,λd _ hn=>?_,λd z k hz hk=>?_⟩⟩
 ·rw [Mem.zi] at hz;by_cases e:d=b
  ·rw [if_pos e] at hz; cases hz; subst e; exact ⟨l,hl,ok⟩
  ·rw [if_neg e] at hz;obtain ⟨k,hk,okk⟩:=h.live d z hz;exact ⟨k,hk,okk.congr (hoth k.blk (λe'=>h.apart b d x z l k hb hz hl hk hx (Ne.symm e) e'.symm))⟩
 ·rw [Mem.zi] at hz hu;have g:∀ d (z:ABlk),(if d=b then some y else m.get d)=some z->∃ z',m.get d=some z'/\(z.ro=false->z'.ro=false):=by
   intro d z hz;by_cases e:d=b
   ·rw [if_pos e] at hz; cases hz; exact ⟨x,by rw [e]; exact hb,λ_=>hx⟩
   ·rw [if_neg e] at hz; exact ⟨z,hz,id⟩
  obtain ⟨z',hz',rz⟩:=g d z hz;obtain ⟨u',hu',_⟩:=g e u hu;exact h.apart d e z' u' k j hz' hu' hk hj (rz hr) hne
 ·rw [Mem.zi] at hz;by_cases e:d=b
  ·rw [e,hl] at hk; cases hk; exact .inr ⟨b,x,l,hb,hl,hx,rfl⟩
  ·rw [if_neg e] at hz; exact .inr ⟨d,z,k,hz,hk,hr,rfl⟩
 ·rw [Mem.zi,if_neg (by rintro rfl; rw [hb] at hn; cases hn)]; exact hn
 ·rw [Mem.zi] at hz;by_cases e:d=b
  ·rw [e] at hk; exact .inr ⟨b,x,k,hb,hk,rfl⟩
  ·rw [if_neg e] at hz; exact .inr ⟨d,z,k,hz,hk,rfl⟩
theorem WW (a b:ByteArray):(a == b)=true↔a=b:=by
 cases a with|mk a=>cases b with|mk b =>
 show (ByteArray.beq ⟨a⟩ ⟨b⟩)=true↔_;simp [ByteArray.beq]
inductive KK where
 | int|str
 deriving DecidableEq
def kkT (P:Program) (t:TypeId):Option KK:=match P.underlying t with
 | some (.int _)=>some .int
 | some .string=>some .str
 | _=>none
def KU:KK->Value->Value->Option Bool
 | .int,.int k a,.int k' b=>if k=k' then some (a == b) else none
 | .str,.string a,.string b=>some (a == b)
 | _,_,_=>none
def kV (kk:KK) (k:Value):List MapEntry->Nat->Option (Option (Nat × Value))
 | [],_=>some none
 | e::es,i=>match KU kk k e.key with
  | some true=>some (some (i,e.val))
  | some false=>kV kk k es (i+1)
  | none=>none
def Mem.xq (m:Mem) (b:Nat):Option (List MapEntry × Nat):=match m.get b with
 | some ⟨.map es c,_,_⟩=>some (es,c)
 | _=>none
def Mem.jL (m:Mem) (b:Nat):Option (List MapEntry × Nat × Option Nat):=match m.get b with
 | some ⟨.map es c,false,lo⟩=>some (es,c,lo)
 | _=>none
theorem Mem.ZO {m:Mem} {b:Nat} {es:List MapEntry} {c:Nat} (h:m.xq b=some (es,c)):∃ ro lo,m.get b=some ⟨.map es c,ro,lo⟩:=by
 unfold Mem.xq at h;split at h
 ·rename_i es' c' ro lo hg; cases h; exact ⟨ro,lo,hg⟩
 ·cases h
theorem Mem.Qm {m:Mem} {b:Nat} {es:List MapEntry} {c:Nat} {lo:Option Nat} (h:m.jL b=some (es,c,lo)):m.get b=some ⟨.map es c,false,lo⟩:=by
 unfold Mem.jL at h;split at h
 ·rename_i es' c' lo' hg; cases h; exact hg
 ·cases h
theorem Inv.xq {φ:Ren} {m:Mem} {w:World} (h:Inv φ m w) {b:Nat} {es:List MapEntry} {c:Nat} {ro:Bool} {lo:Option Nat} {l:Loc} (hg:m.get b=some ⟨.map es c,ro,lo⟩) (hl:φ b=some l):(l.loose=lo/\(ro=false->lo=none->l.base=0))/\∃ ES,w.heap[l.blk]? = some (.map ES c)/\EsR φ es ES.toList:=by
 obtain ⟨k,hk,h1,h2⟩:=h.live b _ hg;rw [hl] at hk; cases hk
 exact ⟨h1,h2⟩
def zK (m:Mem):Value × Mem:=(.map (some m.next),m.add ⟨.map [] 0,false,none⟩)
def yA (v:Value) (m:Mem):Option Value:=match v with
 | .map none=>some (.int .i64 0)
 | .map (some b)=>(m.xq b).map λp=>.int .i64 p.1.length
 | _=>none
def vN (ok:Bool) (v:Value) (t:Bool):Value:=if ok then .tuple #[v,.bool t] else v
def zl (kk:KK) (z:Value) (ok:Bool) (x k:Value) (m:Mem):Option Value:=match x with
 | .map none=>(kV kk k [] 0).map λ_=>vN ok z false
 | .map (some b)=>(m.xq b).bind λp=>(kV kk k p.1 0).map λr=>match r with
  | some (_,v)=>vN ok v true
  | none=>vN ok z false
 | _=>none
def QY:KK->Value->Bool
 | .int,.int _ _=>true
 | .str,.string _=>true
 | _,_=>false
def zt (kk:KK) (x k v:Value) (m:Mem):Option Mem:=match x with
 | .map (some b)=>(m.jL b).bind λp=>if QY kk k=true then (kV kk k p.1 0).map λr=>match r with
  | some (i,_)=>m.put b ⟨.map (p.1.modify i λe=>{ e with val:=v }) p.2.1,false,p.2.2⟩
  | none=>m.put b ⟨.map (p.1++[{ key:=k,val:=v,born:=p.2.1 }]) (p.2.1+1),false,p.2.2⟩ else none
 | _=>none
def XG (kk:KK) (x k:Value) (m:Mem):Option Mem:=match x with
 | .map none=>some m
 | .map (some b)=>(m.jL b).bind λp=>(kV kk k p.1 0).map λr=>match r with
  | some (i,_)=>m.put b ⟨.map (p.1.eraseIdx i) p.2.1,false,p.2.2⟩
  | none=>m.put b ⟨.map p.1 p.2.1,false,p.2.2⟩
 | _=>none
def ZG (x:Value) (m:Mem):Option Mem:=match x with
 | .map none=>some m
 | .map (some b)=>(m.jL b).map λp=>m.put b ⟨.map [] p.2.1,false,p.2.2⟩
 | _=>none
theorem YX {P:Program} {φ:Ren} {t:TypeId} {kk:KK} (ht:kkT P t=some kk) {k K e:Value} {r:Bool} (hk:VR φ k K) (h:KU kk k e=some r):∃ d,P.underlying t=some d/\Instr.sameNow d K e=some r:=by
 unfold kkT at ht;split at ht
 ·rename_i kd hd;cases ht
  refine ⟨_,hd,?_⟩;unfold KU at h;split at h
  ·cases hk
   simpa [Instr.sameNow] using h
  ·rename_i h0; cases h0
  ·cases h
 ·rename_i hd;cases ht
  refine ⟨_,hd,?_⟩;unfold KU at h;split at h
  ·rename_i h0; cases h0
  ·cases hk
   simpa [Instr.sameNow] using h
  ·cases h
 ·cases ht
def FR (φ:Ren):Option (Nat × Value)->Option (Nat × Value)->Prop
 | none,none=>True
 | some (i,v),some (j,V)=>i=j/\VR φ v V
 | _,_=>False
theorem Ke {P:Program} {φ:Ren} {t:TypeId} {kk:KK} {d:TypeDesc} (ht:kkT P t=some kk) (hd:P.underlying t=some d) {k K:Value} (hk:VR φ k K):∀ (es ES:List MapEntry) (i:Nat) (r:Option (Nat × Value)),EsR φ es ES->kV kk k es i=some r ->
  ∃ R,Instr.findNow d K ES i=some R/\FR φ r R
 | [],ES,i,r,he,h=>by
  have:ES=[]:=by have:=he.1; simpa using this.symm
  subst this;cases h
  exact ⟨none,rfl,trivial⟩
 | e::es,[],i,r,he,h=>by have:=he.1; simp at this
 | e::es,E::ES,i,r,he,h=>by
  obtain ⟨h1,h2,h3⟩:=he.2 0 e E rfl rfl;have hr:EsR φ es ES:=⟨by have:=he.1; simpa using this,λj x y hx hy=>he.2 (j+1) x y (by simpa using hx) (by simpa using hy)⟩;simp only [kV] at h;split at h
  ·rename_i hs;cases h
   obtain ⟨d',hd',hs'⟩:=YX ht hk hs;rw [hd] at hd'; cases hd'
   rw [h1] at hs';exact ⟨some (i,E.val),by simp [Instr.findNow,hs'],rfl,h3⟩
  ·rename_i hs;obtain ⟨d',hd',hs'⟩:=YX ht hk hs;rw [hd] at hd'; cases hd'
   rw [h1] at hs';obtain ⟨R,g1,g2⟩:=Ke ht hd hk es ES (i+1) r hr h;exact ⟨R,by simp [Instr.findNow,hs',g1],g2⟩
  ·cases h
theorem KI {P:Program} {w:World} {t:TypeId} {kk:KK} (ht:kkT P t=some kk) (e:Bool) (n:Nat) (K:Value):(Instr.checkKey e (n+1) t K).run P w=.ok () w:=by
 unfold kkT at ht;split at ht
 ·rename_i kd hd; simp [Instr.checkKey,qy hd]
 ·rename_i hd; simp [Instr.checkKey,qy hd]
 ·cases ht
theorem run_checkKey {P:Program} {w:World} {t:TypeId} {kk:KK} (ht:kkT P t=some kk) (e:Bool) (K:Value):(Instr.checkKey e 10000 t K).run P w=.ok () w:=KI ht e 9999 K
theorem run_findKey {P:Program} {φ:Ren} {w:World} {t:TypeId} {kk:KK} (ht:kkT P t=some kk) {k K:Value} (hk:VR φ k K) {es ES:List MapEntry} {r:Option (Nat × Value)} (he:EsR φ es ES) (h:kV kk k es 0=some r) :
  ∃ R,(Instr.findKey t K ES).run P w=.ok R w/\FR φ r R:=by
 have hd:∃ d,P.underlying t=some d:=by
  unfold kkT at ht;cases hd:P.underlying t with
  | none=>rw [hd] at ht; cases ht
  | some d=>exact ⟨d,rfl⟩
 obtain ⟨d,hd⟩:=hd;obtain ⟨R,h1,h2⟩:=Ke ht hd hk es ES 0 r he h;exact ⟨R,by simp [Instr.findKey,qy hd,h1],h2⟩
theorem xV {P:Program} {w:World} {r:Nat} {ES:Array MapEntry} {c:Nat} (h:w.heap[r]? = some (.map ES c)):(getObj r).run P w=.ok (.map ES c) w:=by
 simp [getObj,Sem.run,h]
theorem vz {P:Program} {w:World} {r:Nat} {ES:Array MapEntry} {c:Nat} (h:w.heap[r]? = some (.map ES c)) (O:Obj):(setObj r O).run P w=.ok () { w with heap:=w.heap.setIfInBounds r O }:=by
 simp [setObj,Sem.run,h]
theorem YN {P:Program} {φ:Ren} {m:Mem} {w:World} (hi:Inv φ m w) (t:TypeId) :
  ∃ V w' φ',(Instr.makeMap t none).run P w=.ok V w'/\VR φ' (zK m).1 V/\Inv φ' (zK m).2 w'/\Frm φ m w φ' (zK m).2 w':=by
 have:=hi.alloc (.map #[] 0) ⟨.map [] 0,false,none⟩ ⟨w.heap.size,0,none,0⟩ rfl ⟨⟨rfl,λ_ _=>rfl⟩,#[],by simp,rfl,λi x y h=>by simp at h⟩;exact ⟨.map (some w.heap.size),_,_,(by simp [Instr.makeMap]),.map m.next _ (Ren.zB ..),this.1,this.2⟩
theorem qat {P:Program} {φ:Ren} {m:Mem} {w:World} (hi:Inv φ m w) {ts key elem ty:TypeId} {v V u:Value} (ht:P.underlying ts=some (.map key elem)) (hv:VR φ v V) (h:yA v m=some u) :
  (Builtin.len_ #[ts] ty #[V]).run P w=.ok u w/\VR φ u u:=by
 unfold yA at h;split at h
 ·cases h; cases hv; exact ⟨by simp [Builtin.len_,qy ht,goInt],.int ..⟩
 ·rename_i b;simp only [msI] at h;obtain ⟨⟨es,c⟩,hm,rfl⟩:=h;obtain ⟨ro,lo,hg⟩:=Mem.ZO hm;cases hv with
  | map _ l hl =>
   obtain ⟨_,ES,h1,h2⟩:=hi.xq hg hl;refine ⟨?_,.int ..⟩;have:ES.size=es.length:=by have:=h2.1; simpa using this.symm
   simp [Builtin.len_,qy ht,xV h1,goInt,this]
 ·cases h
theorem VR.vN {φ:Ren} {v V:Value} (h:VR φ v V) (ok t:Bool):VR φ (vN ok v t) (if ok then .tuple #[V,.bool t] else V):=by
 cases ok
 ·exact h
 ·exact VRs.tuple (xs:=[v,.bool t]) (ys:=[V,.bool t]) (VRs.cons h (VRs.cons (.bool t) (VRs.nil φ)))
theorem Wb {P:Program} {φ:Ren} {m:Mem} {w:World} (hi:Inv φ m w) {ts key elem:TypeId} {kk:KK} {i:TypeInfo} {z v V k K u:Value} {ok:Bool} (ht:P.underlying ts=some (.map key elem)) (hkt:kkT P key=some kk) (hti:P.info? elem=some i) (hz:i.zero=some z) (hzp:VR φ z z) (hv:VR φ v V) (hk:VR φ k K) (h:zl kk z ok v k m=some u) :
  ∃ U,(Instr.lookup ts V K ok).run P w=.ok U w/\VR φ u U:=by
 unfold zl at h;split at h
 ·simp only [msI] at h;obtain ⟨r,hf,rfl⟩:=h;cases hv
  have hr:r=none:=by simpa [kV] using hf.symm
  subst hr;obtain ⟨R,h1,h2⟩:=run_findKey (P:=P) (w:=w) hkt hk (es:=[]) (ES:=[]) ⟨rfl,λi x y h=>by simp at h⟩ hf;cases R with
  | some _=>exact h2.elim
  | none =>
   refine ⟨_,?_,hzp.vN ok false⟩;cases ok<;>simp [Instr.lookup,qy ht,run_checkKey hkt,h1,zV hti hz]
 ·rename_i b;simp only [bsI,msI] at h;obtain ⟨⟨es,c⟩,hm,r,hf,rfl⟩:=h;obtain ⟨ro,lo,hg⟩:=Mem.ZO hm;cases hv with
  | map _ l hl =>
   obtain ⟨_,ES,h1,h2⟩:=hi.xq hg hl;obtain ⟨R,h3,h4⟩:=run_findKey (P:=P) (w:=w) hkt hk h2 hf;cases r with
   | none=>cases R with
    | some _=>exact h4.elim
    | none =>
     refine ⟨_,?_,hzp.vN ok false⟩;cases ok<;>simp [Instr.lookup,qy ht,xV h1,run_checkKey hkt,h3,zV hti hz]
   | some p=>cases R with
    | none=>exact h4.elim
    | some q =>
     obtain ⟨j,y⟩:=p;obtain ⟨j',Y⟩:=q;obtain ⟨rfl,hvr⟩:=h4;refine ⟨_,?_,hvr.vN ok true⟩;cases ok<;>simp [Instr.lookup,qy ht,xV h1,run_checkKey hkt,h3]
 ·cases h
theorem EsR.modify {φ:Ren} {es ES:List MapEntry} (h:EsR φ es ES) {v V:Value} (hv:VR φ v V) (i:Nat) {K:Value} (hK:∀ E,ES[i]? = some E->K=E.key):EsR φ (es.modify i λe=>{ e with val:=v }) (ES.modify i λe=>{ e with key:=K,val:=V }):=by
 refine ⟨by simp [h.1],λj x y hx hy=>?_⟩;rw [List.getElem?_modify] at hx hy;simp only [Option.map_eq_map,msI] at hx hy;obtain ⟨x',hx',rfl⟩:=hx;obtain ⟨y',hy',rfl⟩:=hy;obtain ⟨h1,h2,h3⟩:=h.2 j x' y' hx' hy';by_cases e:i=j
 ·subst e;simp only [if_true];exact ⟨by rw [hK y' hy',h1],h2,hv⟩
 ·simp only [if_neg e];exact ⟨h1,h2,h3⟩
theorem Wm {d:TypeDesc} {a b:Value} (h:Instr.sameNow d a b=some true) (ha:(∃ k i,a=.int k i)∨∃ s,a=.string s):a=b/\Instr.sameBits 10000 b a=true:=by
 rcases ha with ⟨k,i,rfl⟩|⟨s,rfl⟩
 ·cases b<;>cases d<;>simp [Instr.sameNow] at h
  obtain ⟨rfl,rfl⟩:=h;exact ⟨rfl,by simp [Instr.sameBits]⟩
 ·cases b<;>cases d<;>simp [Instr.sameNow] at h
  have:=(WW _ _).1 h;subst this;exact ⟨rfl,by simp [Instr.sameBits,WW]⟩
theorem Kd {d:TypeDesc} {K:Value}:∀ (ES:List MapEntry) (i j:Nat) (V:Value),Instr.findNow d K ES i=some (some (j,V))->∃ q E,j=i+q/\ES[q]? = some E/\Instr.sameNow d K E.key=some true
 | [],i,j,V,h=>by simp [Instr.findNow] at h
 | E::ES,i,j,V,h=>by
  simp only [Instr.findNow] at h;split at h
  ·rename_i hs;cases h
   exact ⟨0,E,rfl,rfl,hs⟩
  ·obtain ⟨q,E',h1,h2,h3⟩:=Kd ES (i+1) j V h;exact ⟨q+1,E',by omega,by simpa using h2,h3⟩
  ·cases h
theorem Wp {P:Program} {φ:Ren} {w:World} {t:TypeId} {kk:KK} (ht:kkT P t=some kk) {k K:Value} (hk:VR φ k K) (hok:QY kk k=true) {es ES:List MapEntry} {r:Option (Nat × Value)} (he:EsR φ es ES) (h:kV kk k es 0=some r) :
  ∃ R,(Instr.findKey t K ES).run P w=.ok R w/\FR φ r R/\∀ i V,R=some (i,V)->∃ E,ES[i]? = some E/\E.key=K/\(Instr.keyThatStays E.key K).run P w=.ok K w:=by
 have hd:∃ d,P.underlying t=some d:=by
  unfold kkT at ht;cases hd:P.underlying t with
  | none=>rw [hd] at ht; cases ht
  | some d=>exact ⟨d,rfl⟩
 obtain ⟨d,hd⟩:=hd;obtain ⟨R,h1,h2⟩:=Ke ht hd hk es ES 0 r he h;refine ⟨R,by simp [Instr.findKey,qy hd,h1],h2,λi V hR=>?_⟩;subst hR;obtain ⟨q,E,h3,h4,h5⟩:=Kd ES 0 i V h1;rw [Nat.zero_add] at h3;subst h3;have hform:(∃ k i,K=.int k i)∨∃ s,K=.string s:=by
  unfold QY at hok;split at hok
  ·cases hk; exact .inl ⟨_,_,rfl⟩
  ·cases hk; exact .inr ⟨_,rfl⟩
  ·cases hok
 obtain ⟨h6,h7⟩:=Wm h5 hform;exact ⟨E,h4,h6.symm,by simp [Instr.keyThatStays,h7]⟩
theorem QE {P:Program} {φ:Ren} {m m':Mem} {w:World} (hi:Inv φ m w) {ts key elem:TypeId} {kk:KK} {v V k K x X:Value} (ht:P.underlying ts=some (.map key elem)) (hkt:kkT P key=some kk) (hv:VR φ v V) (hk:VR φ k K) (hx:VR φ x X) (h:zt kk v k x m=some m') :
  ∃ w',(Instr.mapUpdate ts V K X).run P w=.ok () w'/\Inv φ m' w'/\Frm φ m w φ m' w':=by
 unfold zt at h;split at h
 ·rename_i b;simp only [bsI] at h;obtain ⟨⟨es,c,lo⟩,hm,h⟩:=h;have hg:=Mem.Qm hm;split at h
  ·rename_i hok;simp only [msI] at h;obtain ⟨r,hf,rfl⟩:=h;cases hv with
   | map _ l hl =>
    obtain ⟨hlo,ES,h1,h2⟩:=hi.xq hg hl;obtain ⟨R,h3,h4,h5⟩:=Wp (P:=P) (w:=w) hkt hk hok h2 hf;have hlt:l.blk<w.heap.size:=hi.jm hl;cases r with
    | none=>cases R with
     | some _=>exact h4.elim
     | none =>
      have:=hi.setObj hg rfl hl ⟨.map (es++[{ key:=k,val:=x,born:=c }]) (c+1),false,lo⟩ (.map (ES.push { key:=K,val:=X,born:=c }) (c+1)) rfl ⟨hlo,ES.push { key:=K,val:=X,born:=c },by simp [hlt],?_⟩
      ·exact ⟨_,by simp [Instr.mapUpdate,qy ht,xV h1,run_checkKey hkt,h3,vz h1],this.1,this.2⟩
      ·have hkK:k=K:=by
        unfold QY at hok;split at hok
        ·cases hk; rfl
        ·cases hk; rfl
        ·cases hok
       refine ⟨by have:=h2.1; simp at this ⊢; exact this,λj a b ha hb=>?_⟩;have hlen:es.length=ES.toList.length:=h2.1;rw [Array.toList_push] at hb;by_cases hj:j<es.length
       ·rw [List.getElem?_append_left hj] at ha;rw [List.getElem?_append_left (by omega)] at hb;exact h2.2 j a b ha hb
       ·rw [List.getElem?_append_right (by omega)] at ha;rw [List.getElem?_append_right (by omega),<- hlen] at hb;cases hjj:j - es.length with
        | zero=>rw [hjj] at ha hb; simp at ha hb; subst ha; subst hb; exact ⟨hkK,rfl,hx⟩
        | succ n=>rw [hjj] at ha; simp at ha
    | some p=>cases R with
     | none=>exact h4.elim
     | some q =>
      obtain ⟨j,y⟩:=p;obtain ⟨j',Y⟩:=q;obtain ⟨rfl,hvr⟩:=h4;obtain ⟨E,h6,h7,h8⟩:=h5 j Y rfl;have hE:ES[j]? = some E:=by simpa using h6
      have hkey:((ES[j]?).map (·.key)).getD K=E.key:=by rw [hE]; rfl
      have:=hi.setObj hg rfl hl ⟨.map (es.modify j λe=>{ e with val:=x }) c,false,lo⟩ (.map (ES.modify j λe=>{ e with key:=K,val:=X }) c) rfl ⟨hlo,ES.modify j λe=>{ e with key:=K,val:=X },by simp [hlt],?_⟩
      ·exact ⟨_,by simp [Instr.mapUpdate,qy ht,xV h1,run_checkKey hkt,h3,hkey,h8,vz h1],this.1,this.2⟩
      ·rw [Array.toList_modify];exact h2.modify hx j (λE' hE'=>by rw [h6] at hE'; cases hE'; exact h7.symm)
  ·cases h
 ·cases h
theorem qau {P:Program} {φ:Ren} {m m':Mem} {w:World} (hi:Inv φ m w) {ts tk key elem ty:TypeId} {kk:KK} {v V k K:Value} (ht:P.underlying ts=some (.map key elem)) (hkt:kkT P key=some kk) (hv:VR φ v V) (hk:VR φ k K) (h:XG kk v k m=some m') :
  ∃ w',(Builtin.delete_ #[ts,tk] ty #[V,K]).run P w=.ok (.tuple #[]) w'/\Inv φ m' w'/\Frm φ m w φ m' w':=by
 unfold XG at h;split at h
 ·cases h; cases hv
  exact ⟨w,by simp [Builtin.delete_,qy ht,run_checkKey hkt],hi,Frm.refl φ m w⟩
 ·rename_i b;simp only [bsI,msI] at h;obtain ⟨⟨es,c,lo⟩,hm,r,hf,rfl⟩:=h;have hg:=Mem.Qm hm;cases hv with
  | map _ l hl =>
   obtain ⟨hlo,ES,h1,h2⟩:=hi.xq hg hl;obtain ⟨R,h3,h4⟩:=run_findKey (P:=P) (w:=w) hkt hk h2 hf;have hlt:l.blk<w.heap.size:=hi.jm hl;cases r with
   | none=>cases R with
    | some _=>exact h4.elim
    | none =>
     have:=hi.setObj hg rfl hl ⟨.map es c,false,lo⟩ (.map ES c) rfl ⟨hlo,ES,by simp [hlt],h2⟩;exact ⟨_,by simp [Builtin.delete_,qy ht,xV h1,run_checkKey hkt,h3,vz h1],this.1,this.2⟩
   | some p=>cases R with
    | none=>exact h4.elim
    | some q =>
     obtain ⟨j,y⟩:=p;obtain ⟨j',Y⟩:=q;obtain ⟨rfl,hvr⟩:=h4;have:=hi.setObj hg rfl hl ⟨.map (es.eraseIdx j) c,false,lo⟩ (.map (ES.eraseIdxIfInBounds j) c) rfl ⟨hlo,ES.eraseIdxIfInBounds j,by simp [hlt],?_⟩
     ·exact ⟨_,by simp [Builtin.delete_,qy ht,xV h1,run_checkKey hkt,h3,vz h1],this.1,this.2⟩
     ·rw [Array.toList_eraseIdxIfInBounds];refine ⟨?_,λi a b ha hb=>?_⟩
      ·rw [List.length_eraseIdx,List.length_eraseIdx,h2.1]
      ·rw [List.getElem?_eraseIdx] at ha hb;split at ha
       ·rename_i hij; rw [if_pos hij] at hb; exact h2.2 i a b ha hb
       ·rename_i hij; rw [if_neg hij] at hb; exact h2.2 (i+1) a b ha hb
 ·cases h
theorem Wh {P:Program} {φ:Ren} {m m':Mem} {w:World} (hi:Inv φ m w) {ts key elem ty:TypeId} {v V:Value} (ht:P.underlying ts=some (.map key elem)) (hv:VR φ v V) (h:ZG v m=some m') :
  ∃ w',(Builtin.clear_ #[ts] ty #[V]).run P w=.ok (.tuple #[]) w'/\Inv φ m' w'/\Frm φ m w φ m' w':=by
 unfold ZG at h;split at h
 ·cases h; cases hv
  exact ⟨w,by simp [Builtin.clear_,qy ht],hi,Frm.refl φ m w⟩
 ·rename_i b;simp only [msI] at h;obtain ⟨⟨es,c,lo⟩,hm,rfl⟩:=h;have hg:=Mem.Qm hm;cases hv with
  | map _ l hl =>
   obtain ⟨hlo,ES,h1,h2⟩:=hi.xq hg hl;have hlt:l.blk<w.heap.size:=hi.jm hl;have:=hi.setObj hg rfl hl ⟨.map [] c,false,lo⟩ (.map #[] c) rfl ⟨hlo,#[],by simp [hlt],rfl,λi x y h=>by simp at h⟩;exact ⟨_,by simp [Builtin.clear_,qy ht,xV h1,vz h1],this.1,this.2⟩
 ·cases h
end Go.Fx
