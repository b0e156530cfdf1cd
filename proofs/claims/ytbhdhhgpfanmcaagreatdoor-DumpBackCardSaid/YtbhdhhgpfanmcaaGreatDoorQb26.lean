/- Parts of a proof: DuQ, DuR, DuS, DuT, DuU, DuV. Conditions: none. -/
import Derived.Test.YtbhdhhgpfanmcaaGreatDoorQb25
namespace Go.Fx.Tryz
open Go Go.Fx
theorem qhs {s:Bs} (hs:s.length<2 ^ 62) (m:Mem):∀ (d i:Nat),s.length - i=d->i<=s.length->W (qad (str s) (.int .i64 (i:Int)) m) λr m'=>r=.bool ((s.drop i).all okC&&(decide (1<=s.length)&&decide (s.length<=8)))/\m'=m:=by
 intro d
 induction d with
 | zero =>
  intro i hd hi;obtain rfl:i=s.length:=by omega
  rw [P69_0_eq];simp only [st0,zb,Int.lt_irrefl];rw [P69_1_eq,List.drop_length];by_cases c1:1<=s.length
  ·have e1:((1:Int)<=(s.length:Int))=True:=eq_true (by omega);by_cases c2:s.length<=8
   ·have e2:((s.length:Int)<=8)=True:=eq_true (by omega);simp only [st0,zb,e1,e2,decide_eq_true c1,decide_eq_true c2];exact ⟨rfl,trivial⟩
   ·have e2:((s.length:Int)<=8)=False:=eq_false (by omega);simp only [st0,zb,e1,e2,decide_eq_true c1,decide_eq_false c2];exact ⟨rfl,trivial⟩
  ·have e1:((1:Int)<=(s.length:Int))=False:=eq_false (by omega);simp only [st0,zb,e1,decide_eq_false c1];exact ⟨rfl,trivial⟩
 | succ d ih =>
  intro i hd hi;have hlt:i<s.length:=by omega
  have e1:((i:Int)<(s.length:Int))=True:=eq_true (by omega);have hx:=yL (l:=s) (i:=i) (b:=s[i]) (List.getElem?_eq_getElem hlt);have hdr:s.drop i=s[i]::s.drop (i+1):=List.drop_eq_getElem_cons hlt;have hok:okC s[i]=true->W (qad (str s) (.int .i64 ((i+1:Nat):Int)) m) λr m'=>r=.bool ((s.drop i).all okC&&(decide (1<=s.length)&&decide (s.length<=8)))/\m'=m:=λhk=>by
   rw [hdr,List.all_cons,hk,Bool.true_and]; exact ih (i+1) (by omega) hlt
  have hbad:okC s[i]=false->(Value.bool false=.bool ((s.drop i).all okC&&(decide (1<=s.length)&&decide (s.length<=8)))/\True):=λhk=>by
   rw [hdr,List.all_cons,hk]; exact ⟨rfl,trivial⟩
  rw [P69_0_eq];by_cases c1:s[i].toNat<97
  ·have e2:((s[i].toNat:Int)<97)=True:=eq_true (by omega);by_cases c2:s[i].toNat=95
   ·have e3:((s[i].toNat:Int)=95)=True:=eq_true (by omega);simp only [st0,zb,e1,hx,e2,e3,qC (i:=i) (by omega)];exact hok ((wE _).2 (.inr c2))
   ·have e3:((s[i].toNat:Int)=95)=False:=eq_false (by omega);simp only [st0,zb,e1,hx,e2,e3];refine hbad ?_;cases h:okC s[i] with
    | false=>rfl
    | true=>have:=(wE _).1 h; omega
  ·have e2:((s[i].toNat:Int)<97)=False:=eq_false (by omega);by_cases c2:s[i].toNat<=122
   ·have e3:((122:Int)<(s[i].toNat:Int))=False:=eq_false (by omega);simp only [st0,zb,e1,hx,e2,e3,qC (i:=i) (by omega)];exact hok ((wE _).2 (.inl ⟨by omega,c2⟩))
   ·have e3:((122:Int)<(s[i].toNat:Int))=True:=eq_true (by omega);have e4:((s[i].toNat:Int)=95)=False:=eq_false (by omega);simp only [st0,zb,e1,hx,e2,e3,e4];refine hbad ?_;cases h:okC s[i] with
    | false=>rfl
    | true=>have:=(wE _).1 h; omega
theorem KT {s:Bs} (hs:s.length<2 ^ 62) (m:Mem):Call S tab 69 [str s] m=some (.bool (zK s),m):=by
 refine W_eq ?_;rw [C69];refine (qhs hs m _ 0 rfl (Nat.zero_le _)).mono λr m' ⟨h1,h2⟩=>⟨?_,h2⟩
 rw [h1,List.drop_zero,JH];have:decide (s≠[])=decide (1<=s.length):=decide_eq_decide.2 ⟨λh=>List.length_pos_iff.2 h,λh e=>by rw [e] at h; simp at h⟩;rw [this];congr 1;cases s.all okC<;>simp
structure RT1 where
 nm:Bs
 b:Option Nat
 n:Nat
 c:Nat
def RT1.sv (r:RT1):Value:=.slice (r.b.map λb=>⟨b,0,none⟩) r.n r.c
def jQ:Enc RT1:=⟨2,λr=>[str r.nm,r.sv],λ_=>rfl,λ_=>rfl⟩
abbrev Rz:=RT1 × List Pr
abbrev tz (z:Rz):Tb:=(z.1.nm,z.2)
theorem qko {v:Value} {l:List Pr} {m:Mem} (h:TAp qL 81 m v l) (nm:Bs):∃ r:RT1,r.nm=nm/\r.sv=v:=by
 rcases h with ⟨rfl,_⟩|⟨b,cap,rest,lo,rfl,_⟩
 ·exact ⟨⟨nm,none,0,0⟩,rfl,rfl⟩
 ·exact ⟨⟨nm,some b,l.length,cap⟩,rfl,rfl⟩
structure RT (xb:Nat) (tv:Value) (Z:List Rz) (m:Mem):Prop where
 g:m.get xb=some ⟨.cells [tv] 38,false,none⟩
 ta:TAp jQ 45 m tv (Z.map (·.1))
 pv:∀ z∈Z,TAp qL 81 m z.1.sv z.2
 lt:xb<m.next
 nx:xb∉qc tv/\∀ z∈Z,xb∉qc z.1.sv
 nt:∀ z∈Z,∀ b∈qc z.1.sv,b∉qc tv
 pw:Z.Pairwise λa b=>∀ q∈qc a.1.sv,q∉qc b.1.sv
 va:Valid (Z.map tz)
def vO (xb:Nat) (tv:Value) (Z:List Rz):List Nat:=xb::(qc tv++Z.flatMap λz=>qc z.1.sv)
section
variable {xb:Nat} {tv:Value} {Z:List Rz} {m:Mem} {nm:Bs}
theorem RT.ld {M:Mem} (g:M.get xb=some ⟨.cells [tv] 38,false,none⟩):qa (.pointer (some ⟨xb,0+0,none⟩)) M=some tv:=qm g rfl
theorem RT.zM {fp:List Nat} {m':Mem} (h:RT xb tv Z m) (u:Upd fp m m') (hf:∀ b∈fp,b∉vO xb tv Z):RT xb tv Z m':=by
 have hx:=u.next;have hl:=h.lt;have k:∀ b,b∈vO xb tv Z->b∉fp:=λb hb hm=>hf b hm hb
 exact ⟨(u.same _ hl (k _ (by simp [vO]))).trans h.g,h.ta.upd u λb hb=>k b (by simp [vO,hb]),λz hz=>(h.pv z hz).upd u λb hb=>k b (by simp only [vO,List.mem_cons,List.mem_append,List.mem_flatMap]; exact .inr (.inr ⟨z,hz,hb⟩)),by omega,h.nx,h.nt,h.pw,h.va⟩
theorem RT.ZW (h:RT xb tv Z m):∀ b∈vO xb tv Z,b<m.next:=λb hb=>by
 simp only [vO,List.mem_cons,List.mem_append,List.mem_flatMap] at hb;rcases hb with rfl|hb|⟨z,hz,hb⟩
 ·exact h.lt
 ·exact h.ta.lt b hb
 ·exact (h.pv z hz).lt b hb
theorem Qp:jQ.size=2:=rfl
theorem qeN (h:RT xb tv Z m) {i:Nat} (hi:i<Z.length):∃ b off,qj 2 tv (.int .i64 (i:Int))=some (.pointer (some ⟨b,off,none⟩))/\∀ M,TAp jQ 45 M tv (Z.map (·.1))->qa (.pointer (some ⟨b,off+0,none⟩)) M=some (str Z[i].1.nm)/\qa (.pointer (some ⟨b,off+1,none⟩)) M=some Z[i].1.sv:=by
 obtain ⟨b,off,h1,h2⟩:=h.ta.tsl.at .i64 (i:=i) (a:=Z[i].1) (by simp [hi]);rw [Qp] at h1 h2;exact ⟨b,off,h1,λM hM=>⟨(h2 M hM.tsl).2 0 _ rfl,(h2 M hM.tsl).2 1 _ rfl⟩⟩
theorem qeT (h:RT xb tv Z m):∀ (d i:Nat),Z.length - i=d->i<=Z.length->(∀ z∈Z.take i,z.1.nm≠nm)->W (qcG (.pointer (some ⟨xb,0,none⟩)) (str nm) (.int .i64 (i:Int)) m) λr m'=>m'=m /\
  (((∀ z∈Z,z.1.nm≠nm)/\r=.int .i64 (-1))∨∃ a z b,Z=a++z::b/\z.1.nm=nm/\r=.int .i64 (a.length:Int)):=by
 have hT:=h.va.len;rw [List.length_map] at hT;have ln:=h.ta.tsl.len;rw [List.length_map] at ln;intro d
 induction d with
 | zero =>
  intro i hd hi hp;obtain rfl:i=Z.length:=by omega
  rw [List.take_length] at hp;rw [P70_0_eq];simp only [st0,nck,fa,RT.ld h.g,ln,Int.lt_irrefl];exact ⟨trivial,.inl ⟨hp,trivial⟩⟩
 | succ d ih =>
  intro i hd hi hp;have hlt:i<Z.length:=by omega
  have e1:((i:Int)<(Z.length:Int))=True:=eq_true (by omega);obtain ⟨b,off,y1,y2⟩:=qeN h hlt;rw [P70_0_eq];by_cases hc:Z[i].1.nm=nm
  ·have d1:decide (Z[i].1.nm=nm)=true:=decide_eq_true hc;simp only [st0,nck,fa,RT.ld h.g,ln,e1,y1,(y2 m h.ta).1,jw,d1];refine ⟨trivial,.inr ⟨Z.take i,Z[i],Z.drop (i+1),?_,hc,?_⟩⟩
   ·rw [<- List.drop_eq_getElem_cons hlt,List.take_append_drop]
   ·rw [List.length_take,Nat.min_eq_left (by omega)]
  ·have d1:decide (Z[i].1.nm=nm)=false:=decide_eq_false hc;simp only [st0,nck,fa,RT.ld h.g,ln,e1,y1,(y2 m h.ta).1,jw,d1,qC (i:=i) (by omega)];refine ih (i+1) (by omega) hlt λz hz=>?_
   rw [List.take_succ_eq_append_getElem hlt] at hz;rcases List.mem_append.1 hz with hz|hz
   ·exact hp z hz
   ·simp at hz; subst hz; exact hc
theorem qaL (h:RT xb tv Z m) (nm:Bs):W (Call S tab 70 [.pointer (some ⟨xb,0,none⟩),str nm] m) λr m'=>m'=m /\
  (((∀ z∈Z,z.1.nm≠nm)/\r=.int .i64 (-1))∨∃ a z b,Z=a++z::b/\z.1.nm=nm/\r=.int .i64 (a.length:Int)):=by
 rw [C70];exact qeT h _ 0 rfl (Nat.zero_le _) (by simp)
end
end Go.Fx.Tryz
namespace Go.Fx.Tryz
open Go Go.Fx
theorem qcl {nm:Bs}:∀ (T:List Tb) (k:Nat),k<=T.length->(∀ t∈T.take k,ltB t.1 nm=true)->(∀ h:k<T.length,ltB T[k].1 nm=false)->wg T nm=T.take k++(nm,[])::T.drop k
 | [],k,hk,_,_=>by simp at hk; subst hk; rfl
 | t::T,0,_,_,h2=>by
  have:=h2 (by simp);simp only [List.getElem_cons_zero] at this;unfold wg;rw [this]; rfl
 | t::T,k+1,hk,h1,h2=>by
  have ht:=h1 t (by simp);unfold wg;rw [if_pos ht,qcl T k (by simpa using hk) (λq hq=>h1 q (by simp [hq])) (λh=>by have:=h2 (by simpa using h); simpa using this)];rfl
def Grs (xb:Nat) (tv tv':Value) (Z Z':List Rz) (m m':Mem):Prop:=Upd (vO xb tv Z) m m'/\∀ b∈vO xb tv' Z',b∈vO xb tv Z∨m.next<=b
theorem Grs.refl (xb:Nat) (tv:Value) (Z:List Rz) {m m':Mem} (u:Upd [] m m'):Grs xb tv tv Z Z m m':=⟨u.nil',λb hb=>.inl hb⟩
section
variable {xb:Nat} {tv:Value} {Z:List Rz} {m:Mem} {nm:Bs}
abbrev Ho (nm:Bs):Rz:=(⟨nm,none,0,0⟩,[])
theorem qjH (nm:Bs):qt [.string ⟨#[]⟩,.slice none 0 0] [(0,1,str nm)]=some [str nm,.slice none 0 0]:=by kernel_rfl
theorem qhR (nm:Bs):qt [.string ⟨#[]⟩,.slice none 0 0] [(0,2,.agg [str nm,.slice none 0 0].toArray)]=some (jQ.flat [⟨nm,none,0,0⟩]):=by kernel_rfl
theorem Ws:∀ {a b:Rz},(∀ q∈qc a.1.sv,q∉qc b.1.sv)->∀ q∈qc b.1.sv,q∉qc a.1.sv:=λh q hq hm=>h q hm hq
set_option maxRecDepth 4000 in
theorem KW (h:RT xb tv Z m) (hr:zK nm=true) (hno:∀ z∈Z,z.1.nm≠nm) (h12:Z.length<12) {k:Nat} (hk:k<=Z.length) (h1:∀ z∈Z.take k,ltB z.1.nm nm=true) (h2:∀ h:k<Z.length,ltB Z[k].1.nm nm=false) :
  W (qgK (.pointer (some ⟨xb,0,none⟩)) (str nm) (.int .i64 (k:Int)) m) λr m'=>r=.int .i64 0/\∃ tv' Z',RT xb tv' Z' m'/\Grs xb tv tv' Z Z' m m'/\Z'.map tz=wg (Z.map tz) nm:=by
 have ub:Upd [] m (m.zt 22):=Upd.zt _ _ _;have nb:(m.zt 22).next=m.next+22:=rfl;have gb:=qq ub h.lt h.g;have hlt:=h.lt;have hne:=h.nx.1;have hvb:=h.ta.qo ub;have hvlt:=h.ta.lt;have hlen:(Z.map (·.1)).length=Z.length:=List.length_map _;obtain ⟨v1,s1,s2,s3⟩:=hvb.tsl.qbJ (k:=k) (by rw [hlen]; exact hk);rw [Qp] at s1;obtain ⟨v2,w1,w2,w3⟩:=hvb.from (k:=k) (by rw [hlen]; exact hk);rw [Qp] at w1;rw [P35_1_eq];simp only [st0,nck,fa,RT.ld gb,s1];generalize hmb:m.zt 22=mb at ub nb gb hvb s2 w1 w2;refine jy (E:=jQ) (l:=[]) ((Z.map (·.1)).take k) (by decide) (TAp.nil mb) s2.src (by simp; omega) λv3 m3 q1 q2 q3=>?_
 rw [List.nil_append] at q1;have q2:Upd [] mb m3:=q2;have q3:∀ b∈qc v3,mb.next<=b:=λb hb=>(q3 b hb).elim (λh=>by simp [qc] at h) id
 have x3:=q2.next;have g3:=qq q2 (by omega) gb;simp only [st0,qjH,qhR];have u4:Upd [m.next+10] m3 (m3.put (m.next+10) ⟨.cells (jQ.flat [⟨nm,none,0,0⟩]) 45,false,none⟩):=Upd.put _ _ (by simp);have t4:TAp jQ 45 (m3.put (m.next+10) ⟨.cells (jQ.flat [⟨nm,none,0,0⟩]) 45,false,none⟩) (.slice (some ⟨m.next+10,0,none⟩) 1 1) [⟨nm,none,0,0⟩]:=.inr ⟨m.next+10,1,[],none,rfl,by show m.next+10<m3.next; omega,by rw [List.append_nil]; exact Mem.qe ..,.inl rfl,rfl,Nat.le_refl _⟩;have q14:=q1.upd u4 λb hb hm=>by have:=q3 b hb; simp at hm; omega
 have n4:(m3.put (m.next+10) ⟨.cells (jQ.flat [⟨nm,none,0,0⟩]) 45,false,none⟩).next=m3.next:=rfl;have g4:=(u4.same xb (by omega) (by simp; omega)).trans g3;generalize (m3.put (m.next+10) ⟨.cells (jQ.flat [⟨nm,none,0,0⟩]) 45,false,none⟩)=m4 at u4 t4 q14 n4 g4;refine jy (E:=jQ) [⟨nm,none,0,0⟩] (by decide) q14 t4.tsl.src (by simp; omega) λv5 m5 r1 r2 r3=>?_
 have x5:=r2.next;have g5:=(r2.same xb (by omega) (λhm=>by have:=q3 _ hm; omega)).trans g4;have r3:∀ b∈qc v5,mb.next<=b:=λb hb=>(r3 b hb).elim (q3 b) (λh=>by omega)
 have u35:Upd [m.next+10] mb m5:=(q2.nil'.trans u4).then' r2 λb hb=>.inr (q3 b hb)
 have keepV:∀ b∈qc tv,m5.get b=mb.get b:=λb hb=>by have:=hvlt b hb; exact u35.same b (by omega) (by simp; omega)
 have w25:TSl jQ m5 v2 ((Z.map (·.1)).drop k):=w2.mono λb hb=>keepV b (by rw [<- w3]; exact hb)
 simp only [st0,nck,fa,RT.ld g5,w1 m5 keepV];refine jy (E:=jQ) ((Z.map (·.1)).drop k) (by decide) r1 w25.src (by simp; omega) λv6 m6 p1 p2 p3=>?_
 have x6:=p2.next;have g6:=(p2.same xb (by omega) (λhm=>by have:=r3 _ hm; omega)).trans g5;have p3:∀ b∈qc v6,mb.next<=b:=λb hb=>(p3 b hb).elim (r3 b) (λh=>by omega)
 have st:qi 1 (.pointer (some ⟨xb,0+0,none⟩)) v6 m6=some (m6.put xb ⟨.cells [v6] 38,false,none⟩):=zE g6 (by simp) p1.one.1 p1.one.2;simp only [st0,nck,fa,st];have hpb6:xb∉qc v6:=λhm=>by have:=p3 _ hm; omega
 have up:Upd [xb] m6 (m6.put xb ⟨.cells [v6] 38,false,none⟩):=Upd.put _ _ (by simp);have uall:Upd [xb] m (m6.put xb ⟨.cells [v6] 38,false,none⟩):=(((ub.nil' (fp:=[xb])).then' u35 (λb hb=>.inr (by simp at hb; omega))).then' p2 (λb hb=>.inr (by have:=r3 b hb; omega))).trans up;have eT:(Z.take k++Ho nm::Z.drop k).map tz=wg (Z.map tz) nm:=by
  rw [qcl (Z.map tz) k (by rw [List.length_map]; exact hk) (λt ht=>by
   rw [<- List.map_take] at ht;obtain ⟨z,hz,rfl⟩:=List.mem_map.1 ht;exact h1 z hz) (λhlt=>by
   rw [List.getElem_map]; exact h2 (by simpa using hlt))]
  rw [List.map_append,List.map_cons,List.map_take,List.map_drop]
 have hpm:(Z.take k++Ho nm::Z.drop k).Perm (Ho nm::Z):=by
  have:=List.perm_middle (a:=Ho nm) (l₁:=Z.take k) (l₂:=Z.drop k)
  rwa [List.take_append_drop] at this
 have hzm:∀ z∈Z.take k++Ho nm::Z.drop k,z=Ho nm∨z∈Z:=λz hz=>by simpa using hpm.mem_iff.1 hz
 refine jE (λr hr=>?_) (zu.2 ⟨rfl,v6,Z.take k++Ho nm::Z.drop k,⟨Mem.qe ..,?_,λz hz=>?_,by show xb<m6.next; omega,⟨hpb6,λz hz=>?_⟩,λz hz b hb=>?_,?_,?_⟩,⟨uall.mono λb hb _=>by simp at hb; simp [vO,hb],λb hb=>?_⟩,eT⟩)
 ·have keepV3:∀ b∈qc tv,m3.get b=mb.get b:=λb hb=>by have:=hvlt b hb; exact q2.same b (by omega) (by simp)
  have keepV4:∀ b∈qc tv,m4.get b=mb.get b:=λb hb=>by have:=hvlt b hb; exact (u4.same b (by omega) (by simp; omega)).trans (keepV3 b hb)
  simp only [List.mem_cons,List.not_mem_nil,or_false] at hr;rcases hr with rfl|rfl|rfl|rfl
  ·exact okR λk _ hk=>by
    obtain rfl:k=0:=by omega
    exact ⟨_,rfl,RT.ld gb⟩
  ·exact okR λk _ hk=>by
    obtain rfl:k=0:=by omega
    exact ⟨_,rfl,s1 mb⟩
  ·exact okR λk _ hk=>by
    have:k=0∨k=1∨k=2∨k=3:=by omega
    rcases this with rfl|rfl|rfl|rfl
    ·exact ⟨_,rfl,RT.ld gb⟩
    ·exact ⟨_,rfl,RT.ld g3⟩
    ·exact ⟨_,rfl,RT.ld g4⟩
    ·exact ⟨_,rfl,RT.ld g5⟩
  ·exact okR λk _ hk=>by
    have:k=0∨k=1∨k=2∨k=3:=by omega
    rcases this with rfl|rfl|rfl|rfl
    ·exact ⟨_,rfl,w1 mb λb hb=>rfl⟩
    ·exact ⟨_,rfl,w1 m3 keepV3⟩
    ·exact ⟨_,rfl,w1 m4 keepV4⟩
    ·exact ⟨_,rfl,w1 m5 keepV⟩
 ·have e:(Z.take k++Ho nm::Z.drop k).map (·.1)=(Z.map (·.1)).take k++[⟨nm,none,0,0⟩]++(Z.map (·.1)).drop k:=by simp
  rw [e];exact p1.upd up λb hb hm=>by simp at hm; subst hm; exact hpb6 hb
 ·rcases hzm z hz with rfl|hz
  ·exact TAp.nil _
  ·exact (h.pv z hz).upd uall λb hb hm=>by simp at hm; subst hm; exact h.nx.2 z hz hb
 ·rcases hzm z hz with rfl|hz
  ·simp [RT1.sv,qc]
  ·exact h.nx.2 z hz
 ·rcases hzm z hz with rfl|hz
  ·simp [RT1.sv,qc] at hb
  ·intro hm;have:=(h.pv z hz).lt b hb;have:=p3 b hm;omega
 ·refine (hpm.pairwise_iff Ws).2 (List.pairwise_cons.2 ⟨λz hz q hq=>by simp [RT1.sv,qc] at hq,h.pw⟩)
 ·rw [eT];exact h.va.ins hr (λt ht=>by obtain ⟨z,hz,rfl⟩:=List.mem_map.1 ht; exact hno z hz) (by rw [List.length_map]; exact h12)
 ·rcases List.mem_cons.1 hb with rfl|hb
  ·exact .inl (by simp [vO])
  ·rcases List.mem_append.1 hb with hb|hb
   ·exact .inr (by have:=p3 b hb; omega)
   ·obtain ⟨z,hz,hb⟩:=List.mem_flatMap.1 hb;rcases hzm z hz with rfl|hz
    ·simp [RT1.sv,qc] at hb
    ·exact .inl (List.mem_cons.2 (.inr (List.mem_append.2 (.inr (List.mem_flatMap.2 ⟨z,hz,hb⟩)))))
theorem qaD (h:RT xb tv Z m) (hr:zK nm=true) (hno:∀ z∈Z,z.1.nm≠nm) (h12:Z.length<12):∀ (d i:Nat),Z.length - i=d->i<=Z.length->(∀ z∈Z.take i,ltB z.1.nm nm=true) ->
  W (qcK (.pointer (some ⟨xb,0,none⟩)) (str nm) (.int .i64 (i:Int)) m) λr m'=>r=.int .i64 0/\∃ tv' Z',RT xb tv' Z' m'/\Grs xb tv tv' Z Z' m m'/\Z'.map tz=wg (Z.map tz) nm:=by
 have ln:=h.ta.tsl.len;rw [List.length_map] at ln;intro d
 induction d with
 | zero =>
  intro i hd hi hp;obtain rfl:i=Z.length:=by omega
  rw [P35_0_eq];simp only [st0,nck,fa,RT.ld h.g,ln,Int.lt_irrefl];exact KW h hr hno h12 (Nat.le_refl _) hp (λh=>absurd h (by omega))
 | succ d ih =>
  intro i hd hi hp;have hlt:i<Z.length:=by omega
  have e1:((i:Int)<(Z.length:Int))=True:=eq_true (by omega);obtain ⟨b,off,y1,y2⟩:=qeN h hlt;have hnl:=(vm (h.va.right (tz Z[i]) (List.mem_map.2 ⟨Z[i],List.getElem_mem hlt,rfl⟩))).2;have hnl:Z[i].1.nm.length<=8:=hnl;have ha:=Km Z[i].1.nm nm (by omega) m;rw [P35_0_eq];cases hc:ltB Z[i].1.nm nm with
  | true =>
   rw [hc] at ha;simp only [st0,nck,fa,RT.ld h.g,ln,e1,y1,(y2 m h.ta).1,ha,qC (i:=i) (by omega)];refine ih (i+1) (by omega) hlt λz hz=>?_
   rw [List.take_succ_eq_append_getElem hlt] at hz;rcases List.mem_append.1 hz with hz|hz
   ·exact hp z hz
   ·simp at hz; subst hz; exact hc
  | false =>
   rw [hc] at ha;simp only [st0,nck,fa,RT.ld h.g,ln,e1,y1,(y2 m h.ta).1,ha];exact KW h hr hno h12 hi hp λ_=>hc
theorem Ha (h:RT xb tv Z m) (nm:Bs) (hnl:nm.length<2 ^ 62):W (Call S tab 35 [.pointer (some ⟨xb,0,none⟩),str nm] m) λr m'=>∃ tv' Z',RT xb tv' Z' m'/\Grs xb tv tv' Z Z' m m' /\
  ((zK nm=false/\r=.int .i64 1/\Z'=Z)∨(zK nm=true/\(∃ z∈Z,z.1.nm=nm)/\r=.int .i64 11/\Z'=Z)∨(zK nm=true/\(∀ z∈Z,z.1.nm≠nm)/\12<=Z.length/\r=.int .i64 3/\Z'=Z)∨(zK nm=true/\(∀ z∈Z,z.1.nm≠nm)/\Z.length<12/\r=.int .i64 0/\Z'.map tz=wg (Z.map tz) nm)):=by
 have ln:=h.ta.tsl.len;rw [List.length_map] at ln;rw [C35];cases hr:zK nm with
 | false =>
  have hrr:=KT hnl m;rw [hr] at hrr;simp only [st0,hrr];exact ⟨tv,Z,h,Grs.refl _ _ _ (Upd.refl _ _),.inl ⟨trivial,trivial,rfl⟩⟩
 | true =>
  have hrr:=KT hnl m;rw [hr] at hrr;simp only [st0,hrr];refine qh.2 ((qaL h nm).mono λr1 m1 ⟨e,hq⟩=>?_);subst e;rcases hq with ⟨hno,rfl⟩|⟨a,z,b,rfl,e,rfl⟩
  ·have d1:((0:Int)<=-1)=False:=eq_false (by omega);by_cases c12:Z.length<12
   ·have e2:((12:Int)<=(Z.length:Int))=False:=eq_false (by omega);simp only [st0,d1,nck,fa,RT.ld h.g,ln,e2];exact (qaD h hr hno c12 _ 0 rfl (Nat.zero_le _) (by simp)).mono λr m' ⟨e,tv',Z',z1,z2,z3⟩=>⟨tv',Z',z1,z2,.inr (.inr (.inr ⟨trivial,hno,c12,e,z3⟩))⟩
   ·have e2:((12:Int)<=(Z.length:Int))=True:=eq_true (by omega);simp only [st0,d1,nck,fa,RT.ld h.g,ln,e2];exact ⟨tv,Z,h,Grs.refl _ _ _ (Upd.refl _ _),.inr (.inr (.inl ⟨trivial,hno,by omega,trivial,rfl⟩))⟩
  ·have d1:((0:Int)<=(a.length:Int))=True:=eq_true (by omega);simp only [st0,d1];exact ⟨tv,_,h,Grs.refl _ _ _ (Upd.refl _ _),.inr (.inl ⟨trivial,⟨z,by simp,e⟩,trivial,rfl⟩)⟩
end
end Go.Fx.Tryz
namespace Go.Fx.Tryz
open Go Go.Fx
section
variable {xb:Nat} {tv:Value} {Z:List Rz} {m:Mem} {nm:Bs}
abbrev rtF (tb:Nat) (A B:List RT1) (rest:List Value) (e:TypeId) (lo:Option Nat) (nm:Bs) (v:Value):ABlk:=⟨.cells (jQ.flat A++(str nm::v::(jQ.flat B++rest))) e,false,lo⟩
theorem qji (tb:Nat) (A B:List RT1) (rest:List Value) (e:TypeId) (lo:Option Nat) (nm:Bs):Cel tb (A.length * 2+1) (rtF tb A B rest e lo nm):=by
 have hl:(jQ.flat A).length=A.length * 2:=jQ.zd A;refine ⟨λg=>qm g ?_,λg hv h1=>?_⟩
 ·rw [List.getElem?_append_right (by omega),hl,show A.length * 2+1+0 - A.length * 2=1 by omega]; rfl
 ·rename_i M v w;have:=zE (o:=A.length * 2+1+0) (v:=w) g (by simp [hl]) hv h1;rw [this,List.set_append_right _ _ (by omega),hl,show A.length * 2+1+0 - A.length * 2=1 by omega]; rfl
theorem RT.change {a b:List Rz} {z:Rz} (h:RT xb tv (a++z::b) m):∃ (tb off:Nat) (F:Value->ABlk),Cel tb off F/\qj 2 tv (.int .i64 (a.length:Int))=some (.pointer (some ⟨tb,off - 1,none⟩))/\1<=off/\PL tb F z.1.sv z.2 m /\
  ∀ {m':Mem} {v':Value} {l':List Pr},PL tb F v' l' m'->(∀ q∈qc v',q∈qc z.1.sv∨m.next<=q)->Upd [tb] m m'->rowP l'->l'.length<=65535->∃ Z',RT xb tv Z' m'/\Grs xb tv tv (a++z::b) Z' m m'/\Z'.map tz=vF ((a++z::b).map tz) z.1.nm l':=by
 have ht:=h.ta;have hm1:(a++z::b).map (·.1)=a.map (·.1)++z.1::b.map (·.1):=by simp
 rw [hm1] at ht;rcases ht with ⟨_,h0⟩|⟨tb,cap,rest,lo,htv,htl,hg,hlo,hrs,hc⟩
 ·simp at h0
 ·have hal:(a.map (·.1)).length=a.length:=List.length_map _;have hfl:∀ x:RT1,jQ.flat (a.map (·.1)++x::b.map (·.1))++rest=jQ.flat (a.map (·.1))++(str x.nm::x.sv::(jQ.flat (b.map (·.1))++rest)):=λx=>by
   rw [Enc.xp,Enc.jv,List.append_assoc,List.append_assoc]; rfl
  have hbt:qc tv=[tb]:=by rw [htv]; simp [qc]
  refine ⟨tb,a.length * 2+1,rtF tb (a.map (·.1)) (b.map (·.1)) rest 45 lo z.1.nm,?_,?_,by omega,⟨?_,h.pv z (by simp),htl,λhm=>h.nt z (by simp) tb hm (by rw [hbt]; simp)⟩,?_⟩
  ·have:=qji tb (a.map (·.1)) (b.map (·.1)) rest 45 lo z.1.nm
   rwa [hal] at this
  ·rw [htv];have hi:(0:Int)<=(a.length:Int)/\(a.length:Int)<((a.map (·.1)++z.1::b.map (·.1)).length:Int):=by simp; omega
   simp only [qj];rw [if_pos hi];simp
  ·rw [hg,hfl]
  ·intro m' v' l' hp hq u hrow hfew;obtain ⟨r',hrn,hrv⟩:=qko hp.tv z.1.nm;have hx:=u.next;have hpw:=h.pw;have hsym:((a++z::b).Pairwise λa b=>∀ q∈qc a.1.sv,q∉qc b.1.sv)↔((z::(a++b)).Pairwise λa b=>∀ q∈qc a.1.sv,q∉qc b.1.sv):=List.perm_middle.pairwise_iff Ws;have hp1:=List.pairwise_cons.1 (hsym.1 hpw);have hin:∀ y∈a++b,y∈a++z::b:=λy hy=>by rcases List.mem_append.1 hy with h|h<;>simp [h]
   have hzm:∀ y∈a++(r',l')::b,y=(r',l')∨y∈a++b:=λy hy=>by
    rcases List.mem_append.1 hy with h|h
    ·exact .inr (List.mem_append.2 (.inl h))
    ·rcases List.mem_cons.1 h with h|h
     ·exact .inl h
     ·exact .inr (List.mem_append.2 (.inr h))
   have xt:xb≠tb:=λe=>h.nx.1 (by rw [hbt,e]; simp)
   have hlt:=h.lt;have hnd:∀ t∈a++b,t.1.nm≠z.1.nm:=by
    have hnd:=JE h.va.rise;rw [List.map_append,List.map_cons,List.map_append,List.map_cons,List.map_map,List.map_map] at hnd;obtain ⟨n1,n2,n3⟩:=List.nodup_append.1 hnd;obtain ⟨n4,n5⟩:=List.nodup_cons.1 n2;intro t ht e;rcases List.mem_append.1 ht with ht|ht
    ·exact n3 t.1.nm (List.mem_map.2 ⟨t,ht,rfl⟩) z.1.nm (by simp) e
    ·exact n4 (List.mem_map.2 ⟨t,ht,e⟩)
   have eT:(a++(r',l')::b).map tz=vF ((a++z::b).map tz) z.1.nm l':=by
    unfold vF;rw [List.map_map,List.map_append,List.map_append,List.map_cons,List.map_cons];have e1:∀ c:List Rz,(∀ t∈c,t.1.nm≠z.1.nm)->c.map ((λt:Tb=>if t.1=z.1.nm then (z.1.nm,l') else t) ∘ tz)=c.map tz:=λc hc=>List.map_congr_left λt ht=>by simp [hc t ht]
    rw [e1 a λt ht=>hnd t (by simp [ht]),e1 b λt ht=>hnd t (by simp [ht])];simp [tz,hrn]
   refine ⟨a++(r',l')::b,⟨(u.same _ h.lt (by simp; exact xt)).trans h.g,?_,λy hy=>?_,by omega,⟨h.nx.1,λy hy hm=>?_⟩,λy hy q hqy=>?_,?_,?_⟩,⟨u.mono λq hq _=>by simp at hq; subst hq; simp [vO,hbt],λq hq'=>?_⟩,eT⟩
   ·have hm2:(a++(r',l')::b).map (·.1)=a.map (·.1)++r'::b.map (·.1):=by simp
    rw [hm2];refine .inr ⟨tb,cap,rest,lo,by rw [htv]; simp,hp.lt,?_,hlo,by rw [hrs]; simp,by simpa using hc⟩;rw [hfl,hrn,hrv]; exact hp.g
   ·rcases hzm y hy with rfl|hy
    ·show TAp qL _ m' r'.sv l'; rw [hrv]; exact hp.tv
    ·exact (h.pv y (hin y hy)).upd u λq hq hm=>by simp at hm; subst hm; exact h.nt y (hin y hy) _ hq (by rw [hbt]; simp)
   ·rcases hzm y hy with rfl|hy
    ·have hm:xb∈qc r'.sv:=hm;rw [hrv] at hm;rcases hq _ hm with h1|h1
     ·exact h.nx.2 z (by simp) h1
     ·omega
    ·exact h.nx.2 y (hin y hy) hm
   ·rcases hzm y hy with rfl|hy
    ·have hm:q∈qc r'.sv:=hqy;rw [hrv] at hm;intro hc2;rw [hbt] at hc2; simp at hc2; subst hc2;exact hp.ne hm
    ·exact h.nt y (hin y hy) q hqy
   ·refine (List.perm_middle.pairwise_iff Ws).2 (List.pairwise_cons.2 ⟨λy hy q hqr hqy=>?_,hp1.2⟩);have hqr:q∈qc r'.sv:=hqr;rw [hrv] at hqr;rcases hq q hqr with h1|h1
    ·exact hp1.1 y hy q h1 hqy
    ·have:=(h.pv y (hin y hy)).lt q hqy;omega
   ·rw [eT]; exact h.va.set hrow hfew
   ·rcases List.mem_cons.1 hq' with rfl|hq'
    ·exact .inl (by simp [vO])
    ·rcases List.mem_append.1 hq' with hq'|hq'
     ·exact .inl (List.mem_cons.2 (.inr (List.mem_append.2 (.inl hq'))))
     ·obtain ⟨y,hy,hqy⟩:=List.mem_flatMap.1 hq';rcases hzm y hy with rfl|hy
      ·have hqy:q∈qc r'.sv:=hqy;rw [hrv] at hqy;rcases hq q hqy with h1|h1
       ·exact .inl (List.mem_cons.2 (.inr (List.mem_append.2 (.inr (List.mem_flatMap.2 ⟨z,by simp,h1⟩)))))
       ·exact .inr h1
      ·exact .inl (List.mem_cons.2 (.inr (List.mem_append.2 (.inr (List.mem_flatMap.2 ⟨y,hin y hy,hqy⟩)))))
theorem qeK (h:RT xb tv Z m) (hfew:tot (Z.map tz)<=60000) (nm key val:Bs):W (Call S tab 36 [.pointer (some ⟨xb,0,none⟩),str nm,str key,str val] m) λr m'=>∃ Z',RT xb tv Z' m'/\Grs xb tv tv Z Z' m m' /\
  (((∀ z∈Z,z.1.nm≠nm)/\r=.int .i64 7/\Z'=Z)∨(¬ Kv key val/\r=.int .i64 1/\Z'=Z)∨(Kv key val/\r=.int .i64 0/\∃ z∈Z,z.1.nm=nm/\Z'.map tz=vF (Z.map tz) nm (xM z.2 key val))):=by
 rw [C36];refine qh.2 ((qaL h nm).mono λr1 m1 ⟨e,hq⟩=>?_);subst e;rcases hq with ⟨hno,rfl⟩|⟨a,z,b,rfl,e,rfl⟩
 ·have d1:((-1:Int)<0)=True:=eq_true (by omega);simp only [st0,d1];exact ⟨Z,h,Grs.refl _ _ _ (Upd.refl _ _),.inl ⟨hno,trivial,rfl⟩⟩
 ·subst e;have d1:((a.length:Int)<0)=False:=eq_false (by omega);have hr10:=qaF key val m1;by_cases hkv:Kv key val
  ·rw [decide_eq_true hkv] at hr10;obtain ⟨tb,off,F,hF,hi,ho,hpl,hch⟩:=h.change;have hrow:rowP z.2:=h.va.row (tz z) (List.mem_map.2 ⟨z,by simp,rfl⟩);have hl:z.2.length<=60000:=by
    rw [List.map_append,List.map_cons,wv] at hfew;have:tot (tz z::b.map tz)=z.2.length+tot (b.map tz):=by simp [tot]
    omega
   have hpn:=Qj z.2 key val;simp only [st0,d1,hr10,nck,fa,RT.ld h.g,hi];have ho':off - 1+1=off:=by omega
   rw [ho'];refine qh.2 ((qht hF hrow (by omega) hpl (key:=key) (val:=val)).mono λr2 m2 ⟨e,v',p1,p2,u2⟩=>?_);subst e;obtain ⟨Z',z1,z2,z3⟩:=hch p1 p2 u2 (JL hrow hkv.1 hkv.2).1 (by split at hpn<;>omega);exact zu.2 ⟨Z',z1,z2,.inr (.inr ⟨hkv,rfl,z,by simp,rfl,z3⟩)⟩
  ·rw [decide_eq_false hkv] at hr10;simp only [st0,d1,hr10];exact ⟨_,h,Grs.refl _ _ _ (Upd.refl _ _),.inr (.inl ⟨hkv,trivial,rfl⟩)⟩
theorem qeL (h:RT xb tv Z m) (nm key:Bs):W (Call S tab 45 [.pointer (some ⟨xb,0,none⟩),str nm,str key] m) λr m'=>∃ Z',RT xb tv Z' m'/\Grs xb tv tv Z Z' m m' /\
  (((∀ z∈Z,z.1.nm≠nm)/\Z'=Z)∨(∃ z∈Z,z.1.nm=nm/\Z'.map tz=vF (Z.map tz) nm (xy z.2 key))):=by
 rw [C45];refine qh.2 ((qaL h nm).mono λr1 m1 ⟨e,hq⟩=>?_);subst e;rcases hq with ⟨hno,rfl⟩|⟨a,z,b,rfl,e,rfl⟩
 ·have d1:((-1:Int)<0)=True:=eq_true (by omega);simp only [st0,d1];exact ⟨Z,h,Grs.refl _ _ _ (Upd.refl _ _),.inl ⟨hno,rfl⟩⟩
 ·subst e;have d1:((a.length:Int)<0)=False:=eq_false (by omega);obtain ⟨tb,off,F,hF,hi,ho,hpl,hch⟩:=h.change;have hrow:rowP z.2:=h.va.row (tz z) (List.mem_map.2 ⟨z,by simp,rfl⟩);have hl:z.2.length<=65535:=h.va.few (tz z) (List.mem_map.2 ⟨z,by simp,rfl⟩);obtain ⟨c1,_,_,c4⟩:=HM (key:=key) hrow;simp only [st0,d1,nck,fa,RT.ld h.g,hi];have ho':off - 1+1=off:=by omega
  rw [ho'];refine qh.2 ((qaK hF hrow (by omega) hpl (key:=key)).mono λr2 m2 ⟨e,v',p1,p2,u2⟩=>?_);subst e;obtain ⟨Z',z1,z2,z3⟩:=hch p1 p2 u2 c1 (by omega);exact zu.2 ⟨Z',z1,z2,.inr ⟨z,by simp,rfl,z3⟩⟩
end
end Go.Fx.Tryz
namespace Go.Fx.Tryz
open Go Go.Fx
theorem ZH {T:List Tb} (h:T.Pairwise λa b=>ltB a.1 b.1=true) {n:Bs} {a b:List Pr} (ha:(n,a)∈T) (hb:(n,b)∈T):a=b:=by
 induction T with
 | nil=>cases ha
 | cons t T ih =>
  obtain ⟨h1,h2⟩:=List.pairwise_cons.1 h;rcases List.mem_cons.1 ha with ha|ha
  ·rcases List.mem_cons.1 hb with hb|hb
   ·rw [<- ha] at hb; exact (Prod.mk.inj hb).2.symm
   ·have:=h1 _ hb; rw [<- ha,jG] at this; cases this
  ·rcases List.mem_cons.1 hb with hb|hb
   ·have:=h1 _ ha; rw [<- hb,jG] at this; cases this
   ·exact ih h2 ha hb
theorem qdj {T:List Tb} (h:T.Pairwise λa b=>ltB a.1 b.1=true) {n:Bs} {l:List Pr} (hm:(n,l)∈T):vF T n l=T:=by
 unfold vF;refine (List.map_congr_left λt ht=>?_).trans (List.map_id _);by_cases e:t.1=n
 ·rw [if_pos e];have:(n,t.2)∈T:=by rw [<- e]; exact ht
  rw [ZH h hm this,<- e]; rfl
 ·rw [if_neg e]; rfl
structure Fl (m0:Mem) (kp:List Nat) (x:To) (T:List Tb) (xb:Nat) (tv:Value) (Z:List Rz) (m:Mem):Prop where
 tr:TR x T m
 rt:RT xb tv Z m
 dj:∀ b∈x.all,b∉vO xb tv Z
 cp:x.o.c∉vO xb tv Z/\x.o.p∉vO xb tv Z
 kl:∀ b∈kp,b<m.next/\b∉x.all/\b∉vO xb tv Z
 up:Upd [] m0 m
 lo:(∀ b∈x.all,m0.next<=b)/\∀ b∈vO xb tv Z,m0.next<=b
section
variable {m0:Mem} {kp:List Nat} {x x':To} {T T':List Tb} {xb:Nat} {tv tv':Value} {Z Z':List Rz} {m m':Mem}
theorem Fl.tx (f:Fl m0 kp x T xb tv Z m) (h:TR x' T' m') (tn:Tn x x' m m'):Fl m0 kp x' T' xb tv Z m'/\∀ b∈kp,m'.get b=m.get b:=by
 have hx:=tn.upd.next;have hu:=f.up.next;have fp:∀ b∈x.fp,b∈x.all:=λb hb=>List.mem_append.2 (.inl hb)
 have gr:∀ b∈x'.all,b∈x.all∨m.next<=b:=λb hb=>by
  rcases List.mem_append.1 hb with hb|hb
  ·exact ((Tm.Wu (rb:=0) tn).grow b hb).imp (fp b) id
  ·rw [tn.nb] at hb; exact .inl (List.mem_append.2 (.inr hb))
 have al:=f.rt.ZW;refine ⟨⟨h,f.rt.zM tn.upd λb hb=>f.dj b (fp b hb),λb hb hm=>?_,by rw [tn.c,tn.p]; exact f.cp,λb hb=>?_,f.up.then' tn.upd λb hb=>.inr (f.lo.1 b (fp b hb)),⟨λb hb=>?_,f.lo.2⟩⟩,λb hb=>tn.upd.same b (f.kl b hb).1 λhm=>(f.kl b hb).2.1 (fp b hm)⟩
 ·rcases gr b hb with hb|hb
  ·exact f.dj b hb hm
  ·have:=al b hm; omega
 ·obtain ⟨k1,k2,k3⟩:=f.kl b hb;exact ⟨by omega,λhm=>(gr b hm).elim k2 λh=>by omega,k3⟩
 ·exact (gr b hb).elim (f.lo.1 b) λh=>by omega
theorem Fl.up0 (f:Fl m0 kp x T xb tv Z m) (u:Upd [] m m'):Fl m0 kp x T xb tv Z m'/\∀ b∈kp,m'.get b=m.get b:=f.tx (f.tr.qo u) (Tn.of0 u)
theorem Fl.rf (f:Fl m0 kp x T xb tv Z m) (h:RT xb tv' Z' m') (g:Grs xb tv tv' Z Z' m m'):Fl m0 kp x T xb tv' Z' m'/\∀ b∈kp,m'.get b=m.get b:=by
 have hx:=g.1.next;have hu:=f.up.next;have al:=f.tr.ZW;have c:=f.tr.wi.wr.lc;have p:=f.tr.wi.wr.lp;refine ⟨⟨f.tr.qiY g.1 λb hb=>⟨λhm=>f.dj b (List.mem_append.2 (.inl hm)) hb,λe=>f.cp.1 (e ▸ hb),λe=>f.cp.2 (e ▸ hb),λhm=>f.dj b (List.mem_append.2 (.inr hm)) hb⟩,h,λb hb hm=>?_,⟨λhm=>?_,λhm=>?_⟩,λb hb=>?_,f.up.then' g.1 λb hb=>.inr (f.lo.2 b hb),⟨f.lo.1,λb hb=>?_⟩⟩,λb hb=>g.1.same b (f.kl b hb).1 (f.kl b hb).2.2⟩
 ·rcases g.2 b hm with hm|hm
  ·exact f.dj b hb hm
  ·have:=al b hb; omega
 ·exact (g.2 _ hm).elim f.cp.1 λh=>by omega
 ·exact (g.2 _ hm).elim f.cp.2 λh=>by omega
 ·obtain ⟨k1,k2,k3⟩:=f.kl b hb;exact ⟨by omega,k2,λhm=>(g.2 b hm).elim k3 λh=>by omega⟩
 ·exact (g.2 b hb).elim (f.lo.2 b) λh=>by omega
theorem Fl.drop (f:Fl m0 kp x T xb tv Z m):Fl m0 [] x T xb tv Z m:=⟨f.tr,f.rt,f.dj,f.cp,λb hb=>(by cases hb),f.up,f.lo⟩
end
structure Pa where
 nm:Bs
 key:Bs
 val:Bs
 gone:Bool
def yp:Enc Pa:=⟨4,λa=>[str a.nm,str a.key,str a.val,.bool a.gone],λ_=>rfl,λ_=>rfl⟩
theorem qbf:yp.size=4:=rfl
structure Fi (m0:Mem) (kp:List Nat) (x:To) (T:List Tb) (xb:Nat) (tv:Value) (Z:List Rz) (m:Mem):Prop where
 f:Fl m0 kp x T xb tv Z m
 e:Z.map tz=T
section
variable {m0:Mem} {kp:List Nat} {x:To} {T:List Tb} {xb:Nat} {tv:Value} {Z:List Rz} {m:Mem}
theorem Fi.find (h:Fi m0 kp x T xb tv Z m) {z:Rz} (hz:z∈Z):(z.1.nm,z.2)∈T:=by rw [<- h.e]; exact List.mem_map.2 ⟨z,hz,rfl⟩
theorem Fi.no (h:Fi m0 kp x T xb tv Z m) {nm:Bs}:(∀ t∈x.ts,t.nm≠nm)↔∀ z∈Z,z.1.nm≠nm:=by
 constructor
 ·intro hn z hz;exact h.f.tr.mo.no hn _ (h.find hz)
 ·intro hn t ht e;have:=h.f.tr.mo.mem ht;rw [<- h.e] at this;obtain ⟨z,hz,e2⟩:=List.mem_map.1 this;exact hn z hz ((congrArg Prod.fst e2).trans e)
theorem Fi.len (h:Fi m0 kp x T xb tv Z m):Z.length=T.length:=by rw [<- h.e,List.length_map]
theorem qge (h:Fi m0 kp x T xb tv Z m) (nm:Bs) (hnl:nm.length<2 ^ 62):W (Call S tab 20 [x.v,str nm] m) λr m1=>(∀ b∈kp,m1.get b=m.get b)/\∃ x1 T1,Fl m0 kp x1 T1 xb tv Z m1/\x1.v=x.v/\x1.ns=x.ns /\
  W (Call S tab 35 [.pointer (some ⟨xb,0,none⟩),str nm] m1) λr m2=>(∀ b∈kp,m2.get b=m.get b)/\∃ tv' Z',Fi m0 kp x1 T1 xb tv' Z' m2:=by
 refine (XY h.f.tr nm).mono λr m1 hq=>?_
 have hn:=h.no (nm:=nm);have hl:=h.len;have same:Upd [] m m1->(zK nm=true->(∀ z∈Z,z.1.nm≠nm)->¬ Z.length<12)->(∀ b∈kp,m1.get b=m.get b)/\∃ x1 T1,Fl m0 kp x1 T1 xb tv Z m1/\x1.v=x.v/\x1.ns=x.ns /\
  W (Call S tab 35 [.pointer (some ⟨xb,0,none⟩),str nm] m1) λr m2=>(∀ b∈kp,m2.get b=m.get b)/\∃ tv' Z',Fi m0 kp x1 T1 xb tv' Z' m2:=λu hbad=>by
  obtain ⟨f1,k1⟩:=h.f.up0 u;refine ⟨k1,x,T,f1,rfl,rfl,(Ha f1.rt nm hnl).mono λr2 m2 ⟨tv',Z',z1,z2,z3⟩=>?_⟩;obtain ⟨f2,k2⟩:=f1.rf z1 z2;refine ⟨λb hb=>(k2 b hb).trans (k1 b hb),tv',Z',f2,?_⟩;rcases z3 with ⟨_,_,e⟩|⟨_,_,_,e⟩|⟨_,_,_,_,e⟩|⟨a1,a2,a3,_,_⟩
  ·rw [e]; exact h.e
  ·rw [e]; exact h.e
  ·rw [e]; exact h.e
  ·exact absurd a3 (hbad a1 a2)
 rcases hq with ⟨n1,rfl,u⟩|⟨n1,⟨t,ht,e⟩,rfl,u⟩|⟨n1,n2,n3,rfl,u⟩|⟨n1,n2,n3,rfl,x1,tr1,tn1,ns1,_,_⟩
 ·exact same u λh=>by rw [n1] at h; cases h
 ·exact same u λ_ hz=>absurd e (hn.2 hz t ht)
 ·exact same u λ_ _=>by omega
 ·obtain ⟨f1,k1⟩:=h.f.tx tr1 tn1;refine ⟨k1,x1,_,f1,by show (Value.pointer (some ⟨x1.t,0,none⟩))=_; rw [tn1.t],ns1,(Ha f1.rt nm hnl).mono λr2 m2 ⟨tv',Z',z1,z2,z3⟩=>?_⟩;obtain ⟨f2,k2⟩:=f1.rf z1 z2;refine ⟨λb hb=>(k2 b hb).trans (k1 b hb),tv',Z',f2,?_⟩;rcases z3 with ⟨a1,_⟩|⟨_,⟨z,hz,e⟩,_⟩|⟨_,_,a3,_⟩|⟨_,_,_,_,e⟩
  ·rw [n1] at a1; cases a1
  ·exact absurd e (hn.1 n2 z hz)
  ·omega
  ·rw [e,h.e]
theorem qjM (h:Fi m0 kp x T xb tv Z m) (hns:x.ns.length<=90000) (nm key val:Bs):W (Call S tab 21 [x.v,str nm,str key,str val] m) λr m1=>(∀ b∈kp,m1.get b=m.get b)/\∃ x1 T1,x1.v=x.v/\x1.ns.length<=x.ns.length+1/\Fl m0 kp x1 T1 xb tv Z m1/\∃ e:Int,r=.int .i64 e/\(e≠0->Fi m0 kp x1 T1 xb tv Z m1)/\(e=0 ->
  W (Call S tab 36 [.pointer (some ⟨xb,0,none⟩),str nm,str key,str val] m1) λr m2=>(∀ b∈kp,m2.get b=m.get b)/\∃ tv' Z',Fi m0 kp x1 T1 xb tv' Z' m2):=by
 rcases JZ x.ts nm with hn|⟨a,q,b,he,rfl⟩
 ·refine (qhf h.f.tr hn key val).mono λr m1 ⟨e,u⟩=>?_
  obtain ⟨f1,k1⟩:=h.f.up0 u;exact ⟨k1,x,T,rfl,by omega,f1,7,e,λ_=>⟨f1,h.e⟩,λh=>by omega⟩
 ·refine (VO h.f.tr hns he key val).mono λr m1 hq=>?_
  rcases hq with ⟨x1,tr1,tn1,_,hq⟩|⟨n1,e,x1,rt,U,tr1,tn1,_⟩
  ·obtain ⟨f1,k1⟩:=h.f.tx tr1 tn1;have hv:x1.v=x.v:=by show (Value.pointer (some ⟨x1.t,0,none⟩))=_; rw [tn1.t]
   rcases hq with ⟨_,e⟩|⟨_,_,e⟩
   ·exact ⟨k1,x1,T,hv,tn1.gr.len,f1,1,e,λ_=>⟨f1,h.e⟩,λh=>by omega⟩
   ·exact ⟨k1,x1,T,hv,tn1.gr.len,f1,8,e,λ_=>⟨f1,h.e⟩,λh=>by omega⟩
  ·obtain ⟨f1,k1⟩:=h.f.tx tr1 tn1;refine ⟨k1,x1,_,by show (Value.pointer (some ⟨x1.t,0,none⟩))=_; rw [tn1.t],tn1.gr.len,f1,0,e,λh=>absurd rfl h,λ_=>?_⟩;refine (qeK f1.rt (by rw [h.e]; have:=h.f.tr.tot; omega) q.nm key val).mono λr2 m2 ⟨Z',z1,z2,z3⟩=>?_
   obtain ⟨f2,k2⟩:=f1.rf z1 z2;refine ⟨λb hb=>(k2 b hb).trans (k1 b hb),tv,Z',f2,?_⟩;have hq:q∈x.ts:=by rw [he]; simp
   rcases z3 with ⟨a1,_⟩|⟨a1,_⟩|⟨_,_,z,hz,hzn,e⟩
   ·exact absurd rfl (h.no.2 a1 q hq)
   ·exact absurd n1 a1
   ·have h1:=h.find hz;rw [hzn] at h1;rw [e,h.e,ZH h.f.tr.va.rise h1 (h.f.tr.mo.mem hq)]
theorem qjN (h:Fi m0 kp x T xb tv Z m) (hns:x.ns.length<=90000) (nm key:Bs):W (Call S tab 44 [x.v,str nm,str key] m) λr m1=>(∀ b∈kp,m1.get b=m.get b)/\∃ x1 T1,x1.v=x.v/\x1.ns.length<=x.ns.length+1/\Fl m0 kp x1 T1 xb tv Z m1/\∃ (o:Bool) (e:Int),r=.tuple #[.bool o,.int .i64 e]/\(e≠0->Fi m0 kp x1 T1 xb tv Z m1)/\(e=0 ->
  W (Call S tab 45 [.pointer (some ⟨xb,0,none⟩),str nm,str key] m1) λr m2=>(∀ b∈kp,m2.get b=m.get b)/\∃ tv' Z',Fi m0 kp x1 T1 xb tv' Z' m2):=by
 rcases JZ x.ts nm with hn|⟨a,q,b,he,rfl⟩
 ·refine (qhi h.f.tr hn key).mono λr m1 ⟨e,u⟩=>?_
  obtain ⟨f1,k1⟩:=h.f.up0 u;exact ⟨k1,x,T,rfl,by omega,f1,false,7,e,λ_=>⟨f1,h.e⟩,λh=>by omega⟩
 ·have hq:q∈x.ts:=by rw [he]; simp
  have del:∀ {x1:To} {T1:List Tb} {m1:Mem},Fl m0 kp x1 T1 xb tv Z m1->T1=vF T q.nm (xy q.l key)->(∀ b∈kp,m1.get b=m.get b)->W (Call S tab 45 [.pointer (some ⟨xb,0,none⟩),str q.nm,str key] m1) λr m2=>(∀ b∈kp,m2.get b=m.get b)/\∃ tv' Z',Fi m0 kp x1 T1 xb tv' Z' m2:=λ{x1 T1 m1} f1 eT k1=>by
   refine (qeL f1.rt q.nm key).mono λr2 m2 ⟨Z',z1,z2,z3⟩=>?_
   obtain ⟨f2,k2⟩:=f1.rf z1 z2;refine ⟨λb hb=>(k2 b hb).trans (k1 b hb),tv,Z',f2,?_⟩;rcases z3 with ⟨a1,_⟩|⟨z,hz,hzn,e⟩
   ·exact absurd rfl (h.no.2 a1 q hq)
   ·have h1:=h.find hz;rw [hzn] at h1;rw [e,h.e,ZH h.f.tr.va.rise h1 (h.f.tr.mo.mem hq),eT]
  refine (qhj h.f.tr hns he key).mono λr m1 hq3=>?_
  rcases hq3 with ⟨x1,tr1,tn1,_,hq3⟩|⟨n1,e,x1,tr1,tn1⟩
  ·obtain ⟨f1,k1⟩:=h.f.tx tr1 tn1;have hv:x1.v=x.v:=by show (Value.pointer (some ⟨x1.t,0,none⟩))=_; rw [tn1.t]
   rcases hq3 with ⟨n1,e⟩|⟨n1,e⟩
   ·refine ⟨k1,x1,T,hv,tn1.gr.len,f1,false,0,e,λh=>absurd rfl h,λ_=>del f1 ?_ k1⟩;have:xy q.l key=q.l:=by unfold xy; rw [n1,if_neg (by simp)]
    rw [this]; exact (qdj h.f.tr.va.rise (h.f.tr.mo.mem hq)).symm
   ·exact ⟨k1,x1,T,hv,tn1.gr.len,f1,false,8,e,λ_=>⟨f1,h.e⟩,λh=>by omega⟩
  ·obtain ⟨f1,k1⟩:=h.f.tx tr1 tn1;exact ⟨k1,x1,_,by show (Value.pointer (some ⟨x1.t,0,none⟩))=_; rw [tn1.t],tn1.gr.len,f1,true,0,e,λh=>absurd rfl h,λ_=>del f1 rfl k1⟩
end
end Go.Fx.Tryz
namespace Go.Fx.Tryz
open Go Go.Fx
theorem Fi.drop {m0:Mem} {kp:List Nat} {x:To} {T:List Tb} {xb:Nat} {tv:Value} {Z:List Rz} {m:Mem} (h:Fi m0 kp x T xb tv Z m):Fi m0 [] x T xb tv Z m:=⟨h.f.drop,h.e⟩
set_option maxRecDepth 4000 in
theorem qdN {L:List Pa} {s:Value} {m0:Mem} (hs:TSl yp m0 s L) (hsb:∀ b∈qc s,b<m0.next) (hnm:∀ a∈L,a.nm.length<2 ^ 62) {xb:Nat} {xv:Value} :
  ∀ (d i:Nat) (x:To) (T:List Tb) (tv:Value) (Z:List Rz) (m:Mem),200 - i=d->i<=200->Fi m0 [] x T xb tv Z m->x.v=xv->x.ns.length<=i->W (Xv s xv (.pointer (some ⟨xb,0,none⟩)) (.int .i64 (i:Int)) m) λr m'=>∃ x T tv Z,Fi m0 [] x T xb tv Z m'/\r=.tuple #[x.v,.pointer (some ⟨xb,0,none⟩)]/\x.ns.length<=200:=by
 have ln:=hs.len;intro d
 induction d with
 | zero =>
  intro i x T tv Z m hd hi h hv hns;obtain rfl:i=200:=by omega
  have e2:(((200:Nat):Int)<200)=False:=eq_false (by omega);rw [P16_0_eq];by_cases hc:200<L.length
  ·have e1:(((200:Nat):Int)<(L.length:Int))=True:=eq_true (by omega);simp only [st0,ln,e1,e2];exact ⟨x,T,tv,Z,h,by rw [hv],hns⟩
  ·have e1:(((200:Nat):Int)<(L.length:Int))=False:=eq_false (by omega);simp only [st0,ln,e1];exact ⟨x,T,tv,Z,h,by rw [hv],hns⟩
 | succ d ih =>
  intro i x T tv Z m hd hi h hv hns;have e2:((i:Int)<200)=True:=eq_true (by omega);rw [P16_0_eq];by_cases hc:i<L.length
  ·have e1:((i:Int)<(L.length:Int))=True:=eq_true (by omega);have hsm:TSl yp m s L:=hs.upd h.f.up λb hb=>⟨hsb b hb,by simp⟩
   obtain ⟨b,off,y1,y2⟩:=hsm.at .i64 (i:=i) (List.getElem?_eq_getElem hc);rw [qbf] at y1 y2;simp only [st0,ln,e1,e2,y1,(y2 m hsm).1];refine jb (c:=yp.cells L[i]) rfl rfl rfl λm1 g1 u1 n1=>?_
   have ld:∀ {M:Mem},M.get m.next=some ⟨.cells (yp.cells L[i]) 104,false,none⟩->qa (.pointer (some ⟨m.next,0+0,none⟩)) M=some (str L[i].nm)/\qa (.pointer (some ⟨m.next,0+1,none⟩)) M=some (str L[i].key)/\qa (.pointer (some ⟨m.next,0+2,none⟩)) M=some (str L[i].val)/\qa (.pointer (some ⟨m.next,0+3,none⟩)) M=some (.bool L[i].gone):=λg=>⟨qm g rfl,qm g rfl,qm g rfl,qm g rfl⟩
   have f1:Fi m0 [m.next] x T xb tv Z m1:=by
    obtain ⟨f,_⟩:=h.f.up0 u1;have a1:=h.f.tr.ZW;have a2:=h.f.rt.ZW;exact ⟨⟨f.tr,f.rt,f.dj,f.cp,λb hb=>by simp at hb; subst hb; exact ⟨n1,λhm=>by have:=a1 _ hm; omega,λhm=>by have:=a2 _ hm; omega⟩,f.up,f.lo⟩,h.e⟩
   have hnl:=hnm _ (List.getElem_mem hc);simp only [st0,fa,(ld g1).1];rw [<- hv];refine qh.2 ((qge f1 L[i].nm hnl).mono λr2 m2 ⟨k2,x2,T2,f2,v2,ns2,hw⟩=>?_);have g2:=(k2 _ (List.mem_singleton.2 rfl)).trans g1;simp only [st0,fa,(ld g2).1];refine qh.2 (hw.mono λr3 m3 ⟨k3,tv3,Z3,f3⟩=>?_);have g3:=(k3 _ (List.mem_singleton.2 rfl)).trans g1;have next:∀ {m':Mem} {x':To} {T':List Tb} {tv':Value} {Z':List Rz},Fi m0 [m.next] x' T' xb tv' Z' m'->x'.v=x.v->x'.ns.length<=i+1->W (Xv s x.v (.pointer (some ⟨xb,0,none⟩)) (.int .i64 ((i+1:Nat):Int)) m') λr m'=>∃ x T tv Z,Fi m0 [] x T xb tv Z m'/\r=.tuple #[x.v,.pointer (some ⟨xb,0,none⟩)]/\x.ns.length<=200:=λ{m' x' T' tv' Z'} hf hxv hxn=>by
    rw [hv];exact ih (i+1) x' T' tv' Z' m' (by omega) (by omega) hf.drop (hxv.trans hv) hxn
   cases hgo:L[i].gone with
   | true =>
    have lg:qa (.pointer (some ⟨m.next,0+3,none⟩)) m3=some (.bool true):=by rw [<- hgo]; exact (ld g3).2.2.2
    simp only [st0,fa,lg,(ld g3).1,(ld g3).2.1];rw [<- v2];refine qh.2 ((qjN f3 (by rw [ns2]; omega) L[i].nm L[i].key).mono λr4 m4 ⟨k4,x4,T4,v4,ns4,f4,o,e,er,h1,h2⟩=>?_);subst er;have g4:=(k4 _ (List.mem_singleton.2 rfl)).trans g3;by_cases he:e=0
    ·have d1:decide (e=0)=true:=decide_eq_true he;simp only [st0,xt0,xt1,d1,fa,(ld g4).1,(ld g4).2.1,qC (i:=i) (by omega)];refine qh.2 ((h2 he).mono λr5 m5 ⟨k5,tv5,Z5,f5⟩=>?_);rw [v2];exact next f5 (v4.trans v2) (by rw [ns2] at ns4; omega)
    ·have d1:decide (e=0)=false:=decide_eq_false he;simp only [st0,xt0,xt1,d1,qC (i:=i) (by omega)];rw [v2];exact next (h1 he) (v4.trans v2) (by rw [ns2] at ns4; omega)
   | false =>
    have lg:qa (.pointer (some ⟨m.next,0+3,none⟩)) m3=some (.bool false):=by rw [<- hgo]; exact (ld g3).2.2.2
    simp only [st0,fa,lg,(ld g3).1,(ld g3).2.1,(ld g3).2.2.1];rw [<- v2];refine qh.2 ((qjM f3 (by rw [ns2]; omega) L[i].nm L[i].key L[i].val).mono λr4 m4 ⟨k4,x4,T4,v4,ns4,f4,e,er,h1,h2⟩=>?_);subst er;have g4:=(k4 _ (List.mem_singleton.2 rfl)).trans g3;by_cases he:e=0
    ·have d1:decide (e=0)=true:=decide_eq_true he;simp only [st0,d1,fa,(ld g4).1,(ld g4).2.1,(ld g4).2.2.1,qC (i:=i) (by omega)];refine qh.2 ((h2 he).mono λr5 m5 ⟨k5,tv5,Z5,f5⟩=>?_);rw [v2];exact next f5 (v4.trans v2) (by rw [ns2] at ns4; omega)
    ·have d1:decide (e=0)=false:=decide_eq_false he;simp only [st0,d1,qC (i:=i) (by omega)];rw [v2];exact next (h1 he) (v4.trans v2) (by rw [ns2] at ns4; omega)
  ·have e1:((i:Int)<(L.length:Int))=False:=eq_false (by omega);simp only [st0,ln,e1];exact ⟨x,T,tv,Z,h,by rw [hv],by omega⟩
theorem qhQ {L:List Pa} {s:Value} {m:Mem} (hs:TSl yp m s L) (hsb:∀ b∈qc s,b<m.next) (hnm:∀ a∈L,a.nm.length<2 ^ 62):W (Call S tab 16 [s] m) λr m'=>∃ x T xb tv Z,Fi m [] x T xb tv Z m'/\r=.tuple #[x.v,.pointer (some ⟨xb,0,none⟩)]/\x.ns.length<=200:=by
 rw [C16];have hb:W (Call S tab 8 [.int .i64 160] m) _:=Kl (n:=160) (by omega) (by omega) m;refine qh.2 (hb.mono λr1 m1 ⟨x,tr1,e,ns1,nts1,ts1,nb1,P1,fp1,c1,p1,u1⟩=>?_);subst e;have x1:=u1.next;have hf:qt [.slice none 0 0] []=some [.slice none 0 0]:=rfl;simp only [st0,hf,qS];have u2:Upd [] m1 (m1.add ⟨.cells [.slice none 0 0] 38,false,none⟩):=Upd.add _ _ _;have g2:(m1.add ⟨.cells [.slice none 0 0] 38,false,none⟩).get m1.next=some ⟨.cells [.slice none 0 0] 38,false,none⟩:=Mem.qf ..;have n2:(m1.add ⟨.cells [.slice none 0 0] 38,false,none⟩).next=m1.next+1:=rfl;have al:=tr1.ZW;have cl:=tr1.wi.wr.lc;have pl:=tr1.wi.wr.lp;have hra:vO m1.next (.slice none 0 0) []=[m1.next]:=by simp [vO,qc]
 have rt:RT m1.next (.slice none 0 0) [] (m1.add ⟨.cells [.slice none 0 0] 38,false,none⟩):=⟨g2,TAp.nil _,λz hz=>by (cases hz),by omega,⟨by simp [qc],λz hz=>by (cases hz)⟩,λz hz=>by (cases hz),.nil,⟨by simp,by simp,.nil,by simp,by simp⟩⟩
 have fi:Fi m [] x [] m1.next (.slice none 0 0) [] (m1.add ⟨.cells [.slice none 0 0] 38,false,none⟩):=by
  refine ⟨⟨tr1.qo u2,rt,λb hb hm=>?_,by rw [hra]; simp; omega,λb hb=>by (cases hb),u1.qu u2,⟨λb hb=>?_,λb hb=>?_⟩⟩,rfl⟩
  ·rw [hra] at hm; simp at hm; have:=al b hb; omega
  ·rcases List.mem_append.1 hb with hb|hb
   ·exact fp1 b hb
   ·rw [nb1] at hb; simp [qc] at hb
  ·rw [hra] at hb; simp at hb; omega
 refine (qdN hs hsb hnm _ 0 x [] _ [] _ rfl (Nat.zero_le _) fi rfl (by rw [ns1]; simp)).mono λr m' ⟨x',T,tv,Z,f,e,n⟩=>⟨x',T,m1.next,tv,Z,f,e,n⟩
theorem backLaw {L:List Pa} {s:Value} {m:Mem} (hs:TSl yp m s L) (hsb:∀ b∈qc s,b<m.next) (hnm:∀ a∈L,a.nm.length<2 ^ 62):W (Call S tab 5 [s] m) λr _=>r=.bool true:=by
 have d0:decide ((0:Int)=0)=true:=rfl;have d08:decide ((0:Int)=8)=false:=rfl;have d88:decide ((8:Int)=8)=true:=rfl;have d13:decide ((13:Int)=13)=true:=rfl;rw [C5];refine qh.2 ((qfl m).mono λr1 m1 ⟨e,u1⟩=>?_);subst e;simp only [st0];have h1:TSl yp m1 s L:=hs.upd u1 λb hb=>⟨hsb b hb,by simp⟩
 have x1:=u1.next;refine qh.2 ((qhQ h1 (λb hb=>by have:=hsb b hb; omega) hnm).mono λr2 m2 ⟨x,T,xb,tv,Z,fi,e,_⟩=>?_);subst e;have hx:=fi.f.tr;simp only [st0,xt0,xt1];refine qh.2 ((wm hx).mono λr3 m3 ⟨e,u3⟩=>?_);subst e;have hx3:=hx.qo u3;simp only [st0,xt0,xt1];have hb:W (Call S tab 8 [.int .i64 160] m3) _:=Kl (n:=160) (by omega) (by omega) m3;refine qh.2 (hb.mono λr4 m4 ⟨y,ty,e,ns4,nts4,ts4,nb4,P4,fp4,c4,p4,u4⟩=>?_);subst e;have hx4:=hx3.qo u4;have hd:Zm (yn T)=some T:=qgm.2 ⟨hx.va,rfl⟩;have hlen:(yn T).length<2 ^ 62:=by
  have tl:=qbO hx.va T.length;have:=hx.va.len;rw [List.take_length] at tl;unfold yn;rw [List.length_cons]; omega
 refine qh.2 ((Wr ty (by rw [ns4]; simp) (by rw [nts4]; simp) hlen).mono λr5 m5 ⟨y5,T5,ty5,t5,_,nt5,u5,al5,_,_,hq⟩=>?_);have all4:∀ b∈y.all,m3.next<=b:=λb hb=>by
  rcases List.mem_append.1 hb with hb|hb
  ·exact fp4 b hb
  ·rw [nb4] at hb; simp [qc] at hb
 have hx5:=hx3.beside hx4 u5 all4;rcases hq with ⟨k1,rfl,kn⟩|⟨rfl,_,_⟩|⟨k1,_⟩
 ·rw [hd] at k1;cases k1
  simp only [st0,d08];have hv5:y5.v=y.v:=by show (Value.pointer (some ⟨y5.t,0,none⟩))=_; rw [t5]
  have hsm:=HG hx5 ty5;rw [hv5,decide_eq_true rfl] at hsm;refine qh.2 (hsm.mono λr6 m6 ⟨e,u6⟩=>?_);subst e;have ty6:=ty5.qo u6;have hw:=wm ty6;rw [hv5] at hw;simp only [st0,xt0,xt1];refine qh.2 (hw.mono λr7 m7 ⟨e,u7⟩=>?_);subst e;have ty7:=ty6.qo u7;have ds:decide (yn T=yn T)=true:=decide_eq_true rfl;simp only [st0,xt0,xt1];by_cases hT:T=[]
  ·subst hT;have hr:=Wr (s:=yn []) ty7 (by rw [ns4] at kn; simp at kn; omega) (by rw [nts4] at nt5; simp at nt5; omega) hlen;rw [hv5] at hr;refine qh.2 (hr.mono λr8 m8 ⟨y8,T8,ty8,t8,_,_,_,_,_,_,hq⟩=>?_);have hT8:T8=[]:=by
    rcases hq with ⟨k,_⟩|⟨_,k,_⟩|⟨_,_,k⟩
    ·rw [hd] at k; cases k; rfl
    ·exact k
    ·exact k
   subst hT8;have hv8:y8.v=y.v:=by rw [<- hv5]; show (Value.pointer (some ⟨y8.t,0,none⟩))=_; rw [t8]
   have hn8:=yx ty8;rw [hv8] at hn8;obtain ⟨e,er,de⟩:∃ e:Int,r8=.int .i64 e/\decide (e=13)=false:=by
    rcases hq with ⟨_,e,_⟩|⟨e,_⟩|⟨_,e,_⟩
    ·exact ⟨0,e,rfl⟩
    ·exact ⟨8,e,rfl⟩
    ·exact ⟨10,e,rfl⟩
   subst er;simp only [st0,d0,jw,ds,de];refine qh.2 (qh.2 (hn8.mono λnv m9 ⟨tn,_,_⟩=>?_));have ln:qd nv=some (.int .i64 0):=tn.tsl.len;simp only [st0,ln,d0]
  ·have hr:=HH ty7 hT (yn T);rw [hv5] at hr;refine qh.2 (hr.mono λr8 m8 ⟨e,u8⟩=>?_);subst e;simp only [st0,d0,jw,ds,d13]
 ·simp only [st0,d88]
 ·rw [hd] at k1; cases k1
end Go.Fx.Tryz
namespace Go.Fx.Tryz
open Go Go.Fx
set_option maxRecDepth 100000 in
theorem qkv {B:Nat} {m:Mem} {cs:List Value} (hB:B<=140737488351232) (h:WTB Proofs.Tryz.prog B m 3 104 cs):∃ a:Pa,cs=yp.cells a/\a.nm.length<2 ^ 62:=by
 obtain ⟨p1,r1,rfl,h1,p2,r2,rfl,h2,p3,r3,rfl,h3,p4,r4,rfl,h4,rfl⟩:=WT.qhn (ts:=[9,9,9,4]) (by kernel_rfl) h;obtain ⟨s1,rfl,k1⟩:=WT.string (by kernel_rfl) h1;obtain ⟨s2,rfl,_⟩:=WT.string (by kernel_rfl) h2;obtain ⟨s3,rfl,_⟩:=WT.string (by kernel_rfl) h3;obtain ⟨b,rfl⟩:=WT.bool (by kernel_rfl) h4;have hl:s1.data.toList.length=s1.size:=Array.length_toList;exact ⟨⟨s1.data.toList,s2.data.toList,s3.data.toList,b⟩,by rw [str_eta s1,str_eta s2,str_eta s3]; rfl,by show s1.data.toList.length<_; omega⟩
set_option maxRecDepth 100000 in
theorem pas_of {B:Nat} {m:Mem} {v:Value} (hB:B<=140737488351232) (h:WTB Proofs.Tryz.prog B m 4 48 v.cells.toList) (hna:aggT Proofs.Tryz.prog 48=some false->∀ xs,v≠.agg xs) :
  ∃ L:List Pa,TSl yp m v L/\(∀ b∈qc v,b<m.next)/\∀ a∈L,a.nm.length<2 ^ 62:=by
 obtain ⟨l,h1,h2,h3,h4⟩:=WT.qja yp (e:=104) (p:=λa=>a.nm.length<2 ^ 62) (by kernel_rfl) (by kernel_rfl) (by decide) (by kernel_rfl) (λcs h=>qkv hB h) h (hna (by kernel_rfl));exact ⟨l,h1,h3,h4⟩
end Go.Fx.Tryz
