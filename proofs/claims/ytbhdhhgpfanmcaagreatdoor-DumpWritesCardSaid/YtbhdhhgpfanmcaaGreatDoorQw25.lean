/- Parts of a proof: DuR, DuS, DuT, DuU, DuV, DuW. Conditions: none. -/
import Derived.Test.YtbhdhhgpfanmcaaGreatDoorQw24
set_option linter.unusedSimpArgs false
set_option linter.unusedVariables false
namespace Go.Fx.Tryz
open Go Go.Fx
theorem qcl {nm:Bs}:∀ (T:List Tb) (k:Nat),k<=T.length->(∀ t∈T.take k,ltB t.1 nm=true)->(∀ h:k<T.length,ltB T[k].1 nm=false)->wo T nm=T.take k++(nm,[])::T.drop k
 | [],k,hk,_,_=>by simp at hk; subst hk; rfl
 | t::T,0,_,_,h2=>by
  have:=h2 (by simp);simp only [List.getElem_cons_zero] at this;unfold wo;rw [this]; rfl
 | t::T,k+1,hk,h1,h2=>by
  have ht:=h1 t (by simp);unfold wo;rw [if_pos ht,qcl T k (by simpa using hk) (λq hq=>h1 q (by simp [hq])) (λh=>by have:=h2 (by simpa using h); simpa using this)];rfl
def Grs (xb:Nat) (tv tv':Value) (Z Z':List Rz) (m m':Mem):Prop:=Upd (vR xb tv Z) m m'/\∀ b∈vR xb tv' Z',b∈vR xb tv Z∨m.next<=b
theorem Grs.refl (xb:Nat) (tv:Value) (Z:List Rz) {m m':Mem} (u:Upd [] m m'):Grs xb tv tv Z Z m m':=⟨u.nil',λb hb=>.inl hb⟩
section
variable {xb:Nat} {tv:Value} {Z:List Rz} {m:Mem} {nm:Bs}
abbrev Hq (nm:Bs):Rz:=(⟨nm,none,0,0⟩,[])
theorem qjU (nm:Bs):qt [.string ⟨#[]⟩,.slice none 0 0] [(0,1,str nm)]=some [str nm,.slice none 0 0]:=by kernel_rfl
theorem qib (nm:Bs):qt [.string ⟨#[]⟩,.slice none 0 0] [(0,2,.agg [str nm,.slice none 0 0].toArray)]=some (jT.flat [⟨nm,none,0,0⟩]):=by kernel_rfl
theorem Wt:∀ {a b:Rz},(∀ q∈qc a.1.sv,q∉qc b.1.sv)->∀ q∈qc b.1.sv,q∉qc a.1.sv:=λh q hq hm=>h q hm hq
set_option maxRecDepth 4000 in
theorem KZ (h:RT xb tv Z m) (hr:zP nm=true) (hno:∀ z∈Z,z.1.nm≠nm) (h12:Z.length<12) {k:Nat} (hk:k<=Z.length) (h1:∀ z∈Z.take k,ltB z.1.nm nm=true) (h2:∀ h:k<Z.length,ltB Z[k].1.nm nm=false) :
  W (qgR (.pointer (some ⟨xb,0,none⟩)) (str nm) (.int .i64 (k:Int)) m) λr m'=>r=.int .i64 0/\∃ tv' Z',RT xb tv' Z' m'/\Grs xb tv tv' Z Z' m m'/\Z'.map tz=wo (Z.map tz) nm:=by
 have ub:Upd [] m (m.zu 22):=Upd.zu _ _ _;have nb:(m.zu 22).next=m.next+22:=rfl;have gb:=qq ub h.lt h.g;have hlt:=h.lt;have hne:=h.nx.1;have hvb:=h.ta.qn ub;have hvlt:=h.ta.lt;have hlen:(Z.map (·.1)).length=Z.length:=List.length_map _;obtain ⟨v1,s1,s2,s3⟩:=hvb.tsl.qbK (k:=k) (by rw [hlen]; exact hk);rw [Qq] at s1;obtain ⟨v2,w1,w2,w3⟩:=hvb.from (k:=k) (by rw [hlen]; exact hk);rw [Qq] at w1;rw [P35_1_eq];simp only [st0,nck,fa,RT.ld gb,s1];generalize hmb:m.zu 22=mb at ub nb gb hvb s2 w1 w2;refine jy (E:=jT) (l:=[]) ((Z.map (·.1)).take k) (by decide) (TAp.nil mb) s2.src (by simp; omega) λv3 m3 q1 q2 q3=>?_
 rw [List.nil_append] at q1;have q2:Upd [] mb m3:=q2;have q3:∀ b∈qc v3,mb.next<=b:=λb hb=>(q3 b hb).elim (λh=>by simp [qc] at h) id
 have x3:=q2.next;have g3:=qq q2 (by omega) gb;simp only [st0,qjU,qib];have u4:Upd [m.next+10] m3 (m3.put (m.next+10) ⟨.cells (jT.flat [⟨nm,none,0,0⟩]) 45,false,none⟩):=Upd.put _ _ (by simp);have t4:TAp jT 45 (m3.put (m.next+10) ⟨.cells (jT.flat [⟨nm,none,0,0⟩]) 45,false,none⟩) (.slice (some ⟨m.next+10,0,none⟩) 1 1) [⟨nm,none,0,0⟩]:=.inr ⟨m.next+10,1,[],none,rfl,by show m.next+10<m3.next; omega,by rw [List.append_nil]; exact Mem.qe ..,.inl rfl,rfl,Nat.le_refl _⟩;have q14:=q1.upd u4 λb hb hm=>by have:=q3 b hb; simp at hm; omega
 have n4:(m3.put (m.next+10) ⟨.cells (jT.flat [⟨nm,none,0,0⟩]) 45,false,none⟩).next=m3.next:=rfl;have g4:=(u4.same xb (by omega) (by simp; omega)).trans g3;generalize (m3.put (m.next+10) ⟨.cells (jT.flat [⟨nm,none,0,0⟩]) 45,false,none⟩)=m4 at u4 t4 q14 n4 g4;refine jy (E:=jT) [⟨nm,none,0,0⟩] (by decide) q14 t4.tsl.src (by simp; omega) λv5 m5 r1 r2 r3=>?_
 have x5:=r2.next;have g5:=(r2.same xb (by omega) (λhm=>by have:=q3 _ hm; omega)).trans g4;have r3:∀ b∈qc v5,mb.next<=b:=λb hb=>(r3 b hb).elim (q3 b) (λh=>by omega)
 have u35:Upd [m.next+10] mb m5:=(q2.nil'.trans u4).then' r2 λb hb=>.inr (q3 b hb)
 have keepV:∀ b∈qc tv,m5.get b=mb.get b:=λb hb=>by have:=hvlt b hb; exact u35.same b (by omega) (by simp; omega)
 have w25:TSl jT m5 v2 ((Z.map (·.1)).drop k):=w2.mono λb hb=>keepV b (by rw [<- w3]; exact hb)
 simp only [st0,nck,fa,RT.ld g5,w1 m5 keepV];refine jy (E:=jT) ((Z.map (·.1)).drop k) (by decide) r1 w25.src (by simp; omega) λv6 m6 p1 p2 p3=>?_
 have x6:=p2.next;have g6:=(p2.same xb (by omega) (λhm=>by have:=r3 _ hm; omega)).trans g5;have p3:∀ b∈qc v6,mb.next<=b:=λb hb=>(p3 b hb).elim (r3 b) (λh=>by omega)
 have st:qj 1 (.pointer (some ⟨xb,0+0,none⟩)) v6 m6=some (m6.put xb ⟨.cells [v6] 38,false,none⟩):=zF g6 (by simp) p1.one.1 p1.one.2;simp only [st0,nck,fa,st];have hpb6:xb∉qc v6:=λhm=>by have:=p3 _ hm; omega
 have up:Upd [xb] m6 (m6.put xb ⟨.cells [v6] 38,false,none⟩):=Upd.put _ _ (by simp);have uall:Upd [xb] m (m6.put xb ⟨.cells [v6] 38,false,none⟩):=(((ub.nil' (fp:=[xb])).then' u35 (λb hb=>.inr (by simp at hb; omega))).then' p2 (λb hb=>.inr (by have:=r3 b hb; omega))).trans up;have eT:(Z.take k++Hq nm::Z.drop k).map tz=wo (Z.map tz) nm:=by
  rw [qcl (Z.map tz) k (by rw [List.length_map]; exact hk) (λt ht=>by
   rw [<- List.map_take] at ht;obtain ⟨z,hz,rfl⟩:=List.mem_map.1 ht;exact h1 z hz) (λhlt=>by
   rw [List.getElem_map]; exact h2 (by simpa using hlt))]
  rw [List.map_append,List.map_cons,List.map_take,List.map_drop]
 have hpm:(Z.take k++Hq nm::Z.drop k).Perm (Hq nm::Z):=by
  have:=List.perm_middle (a:=Hq nm) (l₁:=Z.take k) (l₂:=Z.drop k)
  rwa [List.take_append_drop] at this
 have hzm:∀ z∈Z.take k++Hq nm::Z.drop k,z=Hq nm∨z∈Z:=λz hz=>by simpa using hpm.mem_iff.1 hz
 refine jC (λr hr=>?_) (zv.2 ⟨rfl,v6,Z.take k++Hq nm::Z.drop k,⟨Mem.qe ..,?_,λz hz=>?_,by show xb<m6.next; omega,⟨hpb6,λz hz=>?_⟩,λz hz b hb=>?_,?_,?_⟩,⟨uall.mono λb hb _=>by simp at hb; simp [vR,hb],λb hb=>?_⟩,eT⟩)
 ·have keepV3:∀ b∈qc tv,m3.get b=mb.get b:=λb hb=>by have:=hvlt b hb; exact q2.same b (by omega) (by simp)
  have keepV4:∀ b∈qc tv,m4.get b=mb.get b:=λb hb=>by have:=hvlt b hb; exact (u4.same b (by omega) (by simp; omega)).trans (keepV3 b hb)
  simp only [lcI,nmI,or_false] at hr;rcases hr with rfl|rfl|rfl|rfl
  ·exact okR λk _ hk=>by
    obtain rfl:k=0:=by omega
    exact ⟨_,rfl,RT.ld gb⟩
  ·exact okR λk _ hk=>by
    obtain rfl:k=0:=by omega
    exact ⟨_,rfl,s1 mb⟩
  ·exact okR λk _ hk=>by
    have:k=0∨k=1∨k=2∨k=3:=by omega
    rcases this with rfl|rfl|rfl|rfl
    ·exact ⟨_,rfl,RT.ld gb⟩
    ·exact ⟨_,rfl,RT.ld g3⟩
    ·exact ⟨_,rfl,RT.ld g4⟩
    ·exact ⟨_,rfl,RT.ld g5⟩
  ·exact okR λk _ hk=>by
    have:k=0∨k=1∨k=2∨k=3:=by omega
    rcases this with rfl|rfl|rfl|rfl
    ·exact ⟨_,rfl,w1 mb λb hb=>rfl⟩
    ·exact ⟨_,rfl,w1 m3 keepV3⟩
    ·exact ⟨_,rfl,w1 m4 keepV4⟩
    ·exact ⟨_,rfl,w1 m5 keepV⟩
 ·have e:(Z.take k++Hq nm::Z.drop k).map (·.1)=(Z.map (·.1)).take k++[⟨nm,none,0,0⟩]++(Z.map (·.1)).drop k:=by simp
  rw [e];exact p1.upd up λb hb hm=>by simp at hm; subst hm; exact hpb6 hb
 ·rcases hzm z hz with rfl|hz
  ·exact TAp.nil _
  ·exact (h.pv z hz).upd uall λb hb hm=>by simp at hm; subst hm; exact h.nx.2 z hz hb
 ·rcases hzm z hz with rfl|hz
  ·simp [RT1.sv,qc]
  ·exact h.nx.2 z hz
 ·rcases hzm z hz with rfl|hz
  ·simp [RT1.sv,qc] at hb
  ·intro hm;have:=(h.pv z hz).lt b hb;have:=p3 b hm;omega
 ·refine (hpm.pairwise_iff Wt).2 (List.pairwise_cons.2 ⟨λz hz q hq=>by simp [RT1.sv,qc] at hq,h.pw⟩)
 ·rw [eT];exact h.va.ins hr (λt ht=>by obtain ⟨z,hz,rfl⟩:=List.mem_map.1 ht; exact hno z hz) (by rw [List.length_map]; exact h12)
 ·rcases lcI.1 hb with rfl|hb
  ·exact .inl (by simp [vR])
  ·rcases List.mem_append.1 hb with hb|hb
   ·exact .inr (by have:=p3 b hb; omega)
   ·obtain ⟨z,hz,hb⟩:=List.mem_flatMap.1 hb;rcases hzm z hz with rfl|hz
    ·simp [RT1.sv,qc] at hb
    ·exact .inl (lcI.2 (.inr (List.mem_append.2 (.inr (List.mem_flatMap.2 ⟨z,hz,hb⟩)))))
theorem qaF (h:RT xb tv Z m) (hr:zP nm=true) (hno:∀ z∈Z,z.1.nm≠nm) (h12:Z.length<12):∀ (d i:Nat),Z.length - i=d->i<=Z.length->(∀ z∈Z.take i,ltB z.1.nm nm=true) ->
  W (qcK (.pointer (some ⟨xb,0,none⟩)) (str nm) (.int .i64 (i:Int)) m) λr m'=>r=.int .i64 0/\∃ tv' Z',RT xb tv' Z' m'/\Grs xb tv tv' Z Z' m m'/\Z'.map tz=wo (Z.map tz) nm:=by
 have ln:=h.ta.tsl.len;rw [List.length_map] at ln;intro d
 induction d with
 | zero =>
  intro i hd hi hp;obtain rfl:i=Z.length:=by omega
  rw [P35_0_eq];simp only [st0,nck,fa,RT.ld h.g,ln,Int.lt_irrefl];exact KZ h hr hno h12 (Nat.le_refl _) hp (λh=>absurd h (by omega))
 | succ d ih =>
  intro i hd hi hp;have hlt:i<Z.length:=by omega
  have e1:((i:Int)<(Z.length:Int))=True:=eq_true (by omega);obtain ⟨b,off,y1,y2⟩:=Wq h hlt;have hnl:=(we (h.va.right (tz Z[i]) (List.mem_map.2 ⟨Z[i],List.getElem_mem hlt,rfl⟩))).2;have hnl:Z[i].1.nm.length<=8:=hnl;have ha:=Ko Z[i].1.nm nm (by omega) m;rw [P35_0_eq];cases hc:ltB Z[i].1.nm nm with
  | true =>
   rw [hc] at ha;simp only [st0,nck,fa,RT.ld h.g,ln,e1,y1,(y2 m h.ta).1,ha,qB (i:=i) (by omega)];refine ih (i+1) (by omega) hlt λz hz=>?_
   rw [tsI hlt] at hz;rcases List.mem_append.1 hz with hz|hz
   ·exact hp z hz
   ·simp at hz; subst hz; exact hc
  | false =>
   rw [hc] at ha;simp only [st0,nck,fa,RT.ld h.g,ln,e1,y1,(y2 m h.ta).1,ha];exact KZ h hr hno h12 hi hp λ_=>hc
theorem Hd (h:RT xb tv Z m) (nm:Bs) (hnl:nm.length<2 ^ 62):W (Call S tab 35 [.pointer (some ⟨xb,0,none⟩),str nm] m) λr m'=>∃ tv' Z',RT xb tv' Z' m'/\Grs xb tv tv' Z Z' m m' /\
  ((zP nm=false/\r=.int .i64 1/\Z'=Z)∨(zP nm=true/\(∃ z∈Z,z.1.nm=nm)/\r=.int .i64 11/\Z'=Z)∨(zP nm=true/\(∀ z∈Z,z.1.nm≠nm)/\12<=Z.length/\r=.int .i64 3/\Z'=Z)∨(zP nm=true/\(∀ z∈Z,z.1.nm≠nm)/\Z.length<12/\r=.int .i64 0/\Z'.map tz=wo (Z.map tz) nm)):=by
 have ln:=h.ta.tsl.len;rw [List.length_map] at ln;rw [C35];cases hr:zP nm with
 | false =>
  have hrr:=KW hnl m;rw [hr] at hrr;simp only [st0,hrr];exact ⟨tv,Z,h,Grs.refl _ _ _ (Upd.refl _ _),.inl ⟨trivial,trivial,rfl⟩⟩
 | true =>
  have hrr:=KW hnl m;rw [hr] at hrr;simp only [st0,hrr];refine qh.2 ((qaN h nm).mono λr1 m1 ⟨e,hq⟩=>?_);subst e;rcases hq with ⟨hno,rfl⟩|⟨a,z,b,rfl,e,rfl⟩
  ·have d1:((0:Int)<=-1)=False:=eq_false (by omega);by_cases c12:Z.length<12
   ·have e2:((12:Int)<=(Z.length:Int))=False:=eq_false (by omega);simp only [st0,d1,nck,fa,RT.ld h.g,ln,e2];exact (qaF h hr hno c12 _ 0 rfl (Nat.zero_le _) (by simp)).mono λr m' ⟨e,tv',Z',z1,z2,z3⟩=>⟨tv',Z',z1,z2,.inr (.inr (.inr ⟨trivial,hno,c12,e,z3⟩))⟩
   ·have e2:((12:Int)<=(Z.length:Int))=True:=eq_true (by omega);simp only [st0,d1,nck,fa,RT.ld h.g,ln,e2];exact ⟨tv,Z,h,Grs.refl _ _ _ (Upd.refl _ _),.inr (.inr (.inl ⟨trivial,hno,by omega,trivial,rfl⟩))⟩
  ·have d1:((0:Int)<=(a.length:Int))=True:=eq_true (by omega);simp only [st0,d1];exact ⟨tv,_,h,Grs.refl _ _ _ (Upd.refl _ _),.inr (.inl ⟨trivial,⟨z,by simp,e⟩,trivial,rfl⟩)⟩
end
end Go.Fx.Tryz
namespace Go.Fx.Tryz
open Go Go.Fx
section
variable {xb:Nat} {tv:Value} {Z:List Rz} {m:Mem} {nm:Bs}
abbrev rtF (tb:Nat) (A B:List RT1) (rest:List Value) (e:TypeId) (lo:Option Nat) (nm:Bs) (v:Value):ABlk:=⟨.cells (jT.flat A++(str nm::v::(jT.flat B++rest))) e,false,lo⟩
theorem qjt (tb:Nat) (A B:List RT1) (rest:List Value) (e:TypeId) (lo:Option Nat) (nm:Bs):Cel tb (A.length * 2+1) (rtF tb A B rest e lo nm):=by
 have hl:(jT.flat A).length=A.length * 2:=jT.zd A;refine ⟨λg=>qm g ?_,λg hv h1=>?_⟩
 ·rw [List.getElem?_append_right (by omega),hl,show A.length * 2+1+0 - A.length * 2=1 by omega]; rfl
 ·rename_i M v w;have:=zF (o:=A.length * 2+1+0) (v:=w) g (by simp [hl]) hv h1;rw [this,List.set_append_right _ _ (by omega),hl,show A.length * 2+1+0 - A.length * 2=1 by omega]; rfl
theorem RT.change {a b:List Rz} {z:Rz} (h:RT xb tv (a++z::b) m):∃ (tb off:Nat) (F:Value->ABlk),Cel tb off F/\qi 2 tv (.int .i64 (a.length:Int))=some (.pointer (some ⟨tb,off - 1,none⟩))/\1<=off/\PL tb F z.1.sv z.2 m /\
  ∀ {m':Mem} {v':Value} {l':List Pr},PL tb F v' l' m'->(∀ q∈qc v',q∈qc z.1.sv∨m.next<=q)->Upd [tb] m m'->rowP l'->l'.length<=65535->∃ Z',RT xb tv Z' m'/\Grs xb tv tv (a++z::b) Z' m m'/\Z'.map tz=vI ((a++z::b).map tz) z.1.nm l':=by
 have ht:=h.ta;have hm1:(a++z::b).map (·.1)=a.map (·.1)++z.1::b.map (·.1):=by simp
 rw [hm1] at ht;rcases ht with ⟨_,h0⟩|⟨tb,cap,rest,lo,htv,htl,hg,hlo,hrs,hc⟩
 ·simp at h0
 ·have hal:(a.map (·.1)).length=a.length:=List.length_map _;have hfl:∀ x:RT1,jT.flat (a.map (·.1)++x::b.map (·.1))++rest=jT.flat (a.map (·.1))++(str x.nm::x.sv::(jT.flat (b.map (·.1))++rest)):=λx=>by
   rw [Enc.xr,Enc.jw,aaI,aaI]; rfl
  have hbt:qc tv=[tb]:=by rw [htv]; simp [qc]
  refine ⟨tb,a.length * 2+1,rtF tb (a.map (·.1)) (b.map (·.1)) rest 45 lo z.1.nm,?_,?_,by omega,⟨?_,h.pv z (by simp),htl,λhm=>h.nt z (by simp) tb hm (by rw [hbt]; simp)⟩,?_⟩
  ·have:=qjt tb (a.map (·.1)) (b.map (·.1)) rest 45 lo z.1.nm
   rwa [hal] at this
  ·rw [htv];have hi:(0:Int)<=(a.length:Int)/\(a.length:Int)<((a.map (·.1)++z.1::b.map (·.1)).length:Int):=by simp; omega
   simp only [qi];rw [if_pos hi];simp
  ·rw [hg,hfl]
  ·intro m' v' l' hp hq u hrow hfew;obtain ⟨r',hrn,hrv⟩:=qkB hp.tv z.1.nm;have hx:=u.next;have hpw:=h.pw;have hsym:((a++z::b).Pairwise λa b=>∀ q∈qc a.1.sv,q∉qc b.1.sv)↔((z::(a++b)).Pairwise λa b=>∀ q∈qc a.1.sv,q∉qc b.1.sv):=List.perm_middle.pairwise_iff Wt;have hp1:=List.pairwise_cons.1 (hsym.1 hpw);have hin:∀ y∈a++b,y∈a++z::b:=λy hy=>by rcases List.mem_append.1 hy with h|h<;>simp [h]
   have hzm:∀ y∈a++(r',l')::b,y=(r',l')∨y∈a++b:=λy hy=>by
    rcases List.mem_append.1 hy with h|h
    ·exact .inr (List.mem_append.2 (.inl h))
    ·rcases lcI.1 h with h|h
     ·exact .inl h
     ·exact .inr (List.mem_append.2 (.inr h))
   have xt:xb≠tb:=λe=>h.nx.1 (by rw [hbt,e]; simp)
   have hlt:=h.lt;have hnd:∀ t∈a++b,t.1.nm≠z.1.nm:=by
    have hnd:=JH h.va.rise;rw [List.map_append,List.map_cons,List.map_append,List.map_cons,List.map_map,List.map_map] at hnd;obtain ⟨n1,n2,n3⟩:=List.nodup_append.1 hnd;obtain ⟨n4,n5⟩:=List.nodup_cons.1 n2;intro t ht e;rcases List.mem_append.1 ht with ht|ht
    ·exact n3 t.1.nm (List.mem_map.2 ⟨t,ht,rfl⟩) z.1.nm (by simp) e
    ·exact n4 (List.mem_map.2 ⟨t,ht,e⟩)
   have eT:(a++(r',l')::b).map tz=vI ((a++z::b).map tz) z.1.nm l':=by
    unfold vI;rw [List.map_map,List.map_append,List.map_append,List.map_cons,List.map_cons];have e1:∀ c:List Rz,(∀ t∈c,t.1.nm≠z.1.nm)->c.map ((λt:Tb=>if t.1=z.1.nm then (z.1.nm,l') else t) ∘ tz)=c.map tz:=λc hc=>List.map_congr_left λt ht=>by simp [hc t ht]
    rw [e1 a λt ht=>hnd t (by simp [ht]),e1 b λt ht=>hnd t (by simp [ht])];simp [tz,hrn]
   refine ⟨a++(r',l')::b,⟨(u.same _ h.lt (by simp; exact xt)).trans h.g,?_,λy hy=>?_,by omega,⟨h.nx.1,λy hy hm=>?_⟩,λy hy q hqy=>?_,?_,?_⟩,⟨u.mono λq hq _=>by simp at hq; subst hq; simp [vR,hbt],λq hq'=>?_⟩,eT⟩
   ·have hm2:(a++(r',l')::b).map (·.1)=a.map (·.1)++r'::b.map (·.1):=by simp
    rw [hm2];refine .inr ⟨tb,cap,rest,lo,by rw [htv]; simp,hp.lt,?_,hlo,by rw [hrs]; simp,by simpa using hc⟩;rw [hfl,hrn,hrv]; exact hp.g
   ·rcases hzm y hy with rfl|hy
    ·show TAp qK _ m' r'.sv l'; rw [hrv]; exact hp.tv
    ·exact (h.pv y (hin y hy)).upd u λq hq hm=>by simp at hm; subst hm; exact h.nt y (hin y hy) _ hq (by rw [hbt]; simp)
   ·rcases hzm y hy with rfl|hy
    ·have hm:xb∈qc r'.sv:=hm;rw [hrv] at hm;rcases hq _ hm with h1|h1
     ·exact h.nx.2 z (by simp) h1
     ·omega
    ·exact h.nx.2 y (hin y hy) hm
   ·rcases hzm y hy with rfl|hy
    ·have hm:q∈qc r'.sv:=hqy;rw [hrv] at hm;intro hc2;rw [hbt] at hc2; simp at hc2; subst hc2;exact hp.ne hm
    ·exact h.nt y (hin y hy) q hqy
   ·refine (List.perm_middle.pairwise_iff Wt).2 (List.pairwise_cons.2 ⟨λy hy q hqr hqy=>?_,hp1.2⟩);have hqr:q∈qc r'.sv:=hqr;rw [hrv] at hqr;rcases hq q hqr with h1|h1
    ·exact hp1.1 y hy q h1 hqy
    ·have:=(h.pv y (hin y hy)).lt q hqy;omega
   ·rw [eT]; exact h.va.set hrow hfew
   ·rcases lcI.1 hq' with rfl|hq'
    ·exact .inl (by simp [vR])
    ·rcases List.mem_append.1 hq' with hq'|hq'
     ·exact .inl (lcI.2 (.inr (List.mem_append.2 (.inl hq'))))
     ·obtain ⟨y,hy,hqy⟩:=List.mem_flatMap.1 hq';rcases hzm y hy with rfl|hy
      ·have hqy:q∈qc r'.sv:=hqy;rw [hrv] at hqy;rcases hq q hqy with h1|h1
       ·exact .inl (lcI.2 (.inr (List.mem_append.2 (.inr (List.mem_flatMap.2 ⟨z,by simp,h1⟩)))))
       ·exact .inr h1
      ·exact .inl (lcI.2 (.inr (List.mem_append.2 (.inr (List.mem_flatMap.2 ⟨y,hin y hy,hqy⟩)))))
theorem qeM (h:RT xb tv Z m) (hfew:tot (Z.map tz)<=60000) (nm key val:Bs):W (Call S tab 36 [.pointer (some ⟨xb,0,none⟩),str nm,str key,str val] m) λr m'=>∃ Z',RT xb tv Z' m'/\Grs xb tv tv Z Z' m m' /\
  (((∀ z∈Z,z.1.nm≠nm)/\r=.int .i64 7/\Z'=Z)∨(¬ Kv key val/\r=.int .i64 1/\Z'=Z)∨(Kv key val/\r=.int .i64 0/\∃ z∈Z,z.1.nm=nm/\Z'.map tz=vI (Z.map tz) nm (xO z.2 key val))):=by
 rw [C36];refine qh.2 ((qaN h nm).mono λr1 m1 ⟨e,hq⟩=>?_);subst e;rcases hq with ⟨hno,rfl⟩|⟨a,z,b,rfl,e,rfl⟩
 ·have d1:((-1:Int)<0)=True:=eq_true (by omega);simp only [st0,d1];exact ⟨Z,h,Grs.refl _ _ _ (Upd.refl _ _),.inl ⟨hno,trivial,rfl⟩⟩
 ·subst e;have d1:((a.length:Int)<0)=False:=eq_false (by omega);have hr10:=qaH key val m1;by_cases hkv:Kv key val
  ·rw [decide_eq_true hkv] at hr10;obtain ⟨tb,off,F,hF,hi,ho,hpl,hch⟩:=h.change;have hrow:rowP z.2:=h.va.row (tz z) (List.mem_map.2 ⟨z,by simp,rfl⟩);have hl:z.2.length<=60000:=by
    rw [List.map_append,List.map_cons,jY] at hfew;have:tot (tz z::b.map tz)=z.2.length+tot (b.map tz):=by simp [tot]
    omega
   have hpn:=Qk z.2 key val;simp only [st0,d1,hr10,nck,fa,RT.ld h.g,hi];have ho':off - 1+1=off:=by omega
   rw [ho'];refine qh.2 ((qhE hF hrow (by omega) hpl (key:=key) (val:=val)).mono λr2 m2 ⟨e,v',p1,p2,u2⟩=>?_);subst e;obtain ⟨Z',z1,z2,z3⟩:=hch p1 p2 u2 (JN hrow hkv.1 hkv.2).1 (by split at hpn<;>omega);exact zv.2 ⟨Z',z1,z2,.inr (.inr ⟨hkv,rfl,z,by simp,rfl,z3⟩)⟩
  ·rw [decide_eq_false hkv] at hr10;simp only [st0,d1,hr10];exact ⟨_,h,Grs.refl _ _ _ (Upd.refl _ _),.inr (.inl ⟨hkv,trivial,rfl⟩)⟩
theorem qeN (h:RT xb tv Z m) (nm key:Bs):W (Call S tab 45 [.pointer (some ⟨xb,0,none⟩),str nm,str key] m) λr m'=>∃ Z',RT xb tv Z' m'/\Grs xb tv tv Z Z' m m' /\
  (((∀ z∈Z,z.1.nm≠nm)/\Z'=Z)∨(∃ z∈Z,z.1.nm=nm/\Z'.map tz=vI (Z.map tz) nm (xA z.2 key))):=by
 rw [C45];refine qh.2 ((qaN h nm).mono λr1 m1 ⟨e,hq⟩=>?_);subst e;rcases hq with ⟨hno,rfl⟩|⟨a,z,b,rfl,e,rfl⟩
 ·have d1:((-1:Int)<0)=True:=eq_true (by omega);simp only [st0,d1];exact ⟨Z,h,Grs.refl _ _ _ (Upd.refl _ _),.inl ⟨hno,rfl⟩⟩
 ·subst e;have d1:((a.length:Int)<0)=False:=eq_false (by omega);obtain ⟨tb,off,F,hF,hi,ho,hpl,hch⟩:=h.change;have hrow:rowP z.2:=h.va.row (tz z) (List.mem_map.2 ⟨z,by simp,rfl⟩);have hl:z.2.length<=65535:=h.va.few (tz z) (List.mem_map.2 ⟨z,by simp,rfl⟩);obtain ⟨c1,_,_,c4⟩:=HM (key:=key) hrow;simp only [st0,d1,nck,fa,RT.ld h.g,hi];have ho':off - 1+1=off:=by omega
  rw [ho'];refine qh.2 ((qaM hF hrow (by omega) hpl (key:=key)).mono λr2 m2 ⟨e,v',p1,p2,u2⟩=>?_);subst e;obtain ⟨Z',z1,z2,z3⟩:=hch p1 p2 u2 c1 (by omega);exact zv.2 ⟨Z',z1,z2,.inr ⟨z,by simp,rfl,z3⟩⟩
end
end Go.Fx.Tryz
namespace Go.Fx.Tryz
open Go Go.Fx
theorem ZJ {T:List Tb} (h:T.Pairwise λa b=>ltB a.1 b.1=true) {n:Bs} {a b:List Pr} (ha:(n,a)∈T) (hb:(n,b)∈T):a=b:=by
 induction T with
 | nil=>cases ha
 | cons t T ih =>
  obtain ⟨h1,h2⟩:=List.pairwise_cons.1 h;rcases lcI.1 ha with ha|ha
  ·rcases lcI.1 hb with hb|hb
   ·rw [<- ha] at hb; exact (Prod.mk.inj hb).2.symm
   ·have:=h1 _ hb; rw [<- ha,jI] at this; cases this
  ·rcases lcI.1 hb with hb|hb
   ·have:=h1 _ ha; rw [<- hb,jI] at this; cases this
   ·exact ih h2 ha hb
theorem qdl {T:List Tb} (h:T.Pairwise λa b=>ltB a.1 b.1=true) {n:Bs} {l:List Pr} (hm:(n,l)∈T):vI T n l=T:=by
 unfold vI;refine (List.map_congr_left λt ht=>?_).trans (List.map_id _);by_cases e:t.1=n
 ·rw [if_pos e];have:(n,t.2)∈T:=by rw [<- e]; exact ht
  rw [ZJ h hm this,<- e]; rfl
 ·rw [if_neg e]; rfl
structure Fl (m0:Mem) (kp:List Nat) (x:To) (T:List Tb) (xb:Nat) (tv:Value) (Z:List Rz) (m:Mem):Prop where
 tr:TR x T m
 rt:RT xb tv Z m
 dj:∀ b∈x.all,b∉vR xb tv Z
 cp:x.o.c∉vR xb tv Z/\x.o.p∉vR xb tv Z
 kl:∀ b∈kp,b<m.next/\b∉x.all/\b∉vR xb tv Z
 up:Upd [] m0 m
 lo:(∀ b∈x.all,m0.next<=b)/\∀ b∈vR xb tv Z,m0.next<=b
section
variable {m0:Mem} {kp:List Nat} {x x':To} {T T':List Tb} {xb:Nat} {tv tv':Value} {Z Z':List Rz} {m m':Mem}
theorem Fl.tx (f:Fl m0 kp x T xb tv Z m) (h:TR x' T' m') (tn:Tn x x' m m'):Fl m0 kp x' T' xb tv Z m'/\∀ b∈kp,m'.get b=m.get b:=by
 have hx:=tn.upd.next;have hu:=f.up.next;have fp:∀ b∈x.fp,b∈x.all:=λb hb=>List.mem_append.2 (.inl hb)
 have gr:∀ b∈x'.all,b∈x.all∨m.next<=b:=λb hb=>by
  rcases List.mem_append.1 hb with hb|hb
  ·exact ((Tm.Wv (rb:=0) tn).grow b hb).imp (fp b) id
  ·rw [tn.nb] at hb; exact .inl (List.mem_append.2 (.inr hb))
 have al:=f.rt.ZX;refine ⟨⟨h,f.rt.zL tn.upd λb hb=>f.dj b (fp b hb),λb hb hm=>?_,by rw [tn.c,tn.p]; exact f.cp,λb hb=>?_,f.up.then' tn.upd λb hb=>.inr (f.lo.1 b (fp b hb)),⟨λb hb=>?_,f.lo.2⟩⟩,λb hb=>tn.upd.same b (f.kl b hb).1 λhm=>(f.kl b hb).2.1 (fp b hm)⟩
 ·rcases gr b hb with hb|hb
  ·exact f.dj b hb hm
  ·have:=al b hm; omega
 ·obtain ⟨k1,k2,k3⟩:=f.kl b hb;exact ⟨by omega,λhm=>(gr b hm).elim k2 λh=>by omega,k3⟩
 ·exact (gr b hb).elim (f.lo.1 b) λh=>by omega
theorem Fl.up0 (f:Fl m0 kp x T xb tv Z m) (u:Upd [] m m'):Fl m0 kp x T xb tv Z m'/\∀ b∈kp,m'.get b=m.get b:=f.tx (f.tr.qn u) (Tn.of0 u)
theorem Fl.rf (f:Fl m0 kp x T xb tv Z m) (h:RT xb tv' Z' m') (g:Grs xb tv tv' Z Z' m m'):Fl m0 kp x T xb tv' Z' m'/\∀ b∈kp,m'.get b=m.get b:=by
 have hx:=g.1.next;have hu:=f.up.next;have al:=f.tr.ZX;have c:=f.tr.wi.wr.lc;have p:=f.tr.wi.wr.lp;refine ⟨⟨f.tr.qjk g.1 λb hb=>⟨λhm=>f.dj b (List.mem_append.2 (.inl hm)) hb,λe=>f.cp.1 (e ▸ hb),λe=>f.cp.2 (e ▸ hb),λhm=>f.dj b (List.mem_append.2 (.inr hm)) hb⟩,h,λb hb hm=>?_,⟨λhm=>?_,λhm=>?_⟩,λb hb=>?_,f.up.then' g.1 λb hb=>.inr (f.lo.2 b hb),⟨f.lo.1,λb hb=>?_⟩⟩,λb hb=>g.1.same b (f.kl b hb).1 (f.kl b hb).2.2⟩
 ·rcases g.2 b hm with hm|hm
  ·exact f.dj b hb hm
  ·have:=al b hb; omega
 ·exact (g.2 _ hm).elim f.cp.1 λh=>by omega
 ·exact (g.2 _ hm).elim f.cp.2 λh=>by omega
 ·obtain ⟨k1,k2,k3⟩:=f.kl b hb;exact ⟨by omega,k2,λhm=>(g.2 b hm).elim k3 λh=>by omega⟩
 ·exact (g.2 b hb).elim (f.lo.2 b) λh=>by omega
theorem Fl.drop (f:Fl m0 kp x T xb tv Z m):Fl m0 [] x T xb tv Z m:=⟨f.tr,f.rt,f.dj,f.cp,λb hb=>(by cases hb),f.up,f.lo⟩
end
structure Pa where
 nm:Bs
 key:Bs
 val:Bs
 gone:Bool
def yr:Enc Pa:=⟨4,λa=>[str a.nm,str a.key,str a.val,.bool a.gone],λ_=>rfl,λ_=>rfl⟩
theorem qbh:yr.size=4:=rfl
structure Fi (m0:Mem) (kp:List Nat) (x:To) (T:List Tb) (xb:Nat) (tv:Value) (Z:List Rz) (m:Mem):Prop where
 f:Fl m0 kp x T xb tv Z m
 e:Z.map tz=T
section
variable {m0:Mem} {kp:List Nat} {x:To} {T:List Tb} {xb:Nat} {tv:Value} {Z:List Rz} {m:Mem}
theorem Fi.find (h:Fi m0 kp x T xb tv Z m) {z:Rz} (hz:z∈Z):(z.1.nm,z.2)∈T:=by rw [<- h.e]; exact List.mem_map.2 ⟨z,hz,rfl⟩
theorem Fi.no (h:Fi m0 kp x T xb tv Z m) {nm:Bs}:(∀ t∈x.ts,t.nm≠nm)↔∀ z∈Z,z.1.nm≠nm:=by
 constructor
 ·intro hn z hz;exact h.f.tr.mo.no hn _ (h.find hz)
 ·intro hn t ht e;have:=h.f.tr.mo.mem ht;rw [<- h.e] at this;obtain ⟨z,hz,e2⟩:=List.mem_map.1 this;exact hn z hz ((congrArg Prod.fst e2).trans e)
theorem Fi.len (h:Fi m0 kp x T xb tv Z m):Z.length=T.length:=by rw [<- h.e,List.length_map]
theorem qgi (h:Fi m0 kp x T xb tv Z m) (nm:Bs) (hnl:nm.length<2 ^ 62):W (Call S tab 20 [x.v,str nm] m) λr m1=>(∀ b∈kp,m1.get b=m.get b)/\∃ x1 T1,Fl m0 kp x1 T1 xb tv Z m1/\x1.v=x.v/\x1.ns=x.ns /\
  W (Call S tab 35 [.pointer (some ⟨xb,0,none⟩),str nm] m1) λr m2=>(∀ b∈kp,m2.get b=m.get b)/\∃ tv' Z',Fi m0 kp x1 T1 xb tv' Z' m2:=by
 refine (Ja h.f.tr nm).mono λr m1 hq=>?_
 have hn:=h.no (nm:=nm);have hl:=h.len;have same:Upd [] m m1->(zP nm=true->(∀ z∈Z,z.1.nm≠nm)->¬ Z.length<12)->(∀ b∈kp,m1.get b=m.get b)/\∃ x1 T1,Fl m0 kp x1 T1 xb tv Z m1/\x1.v=x.v/\x1.ns=x.ns /\
  W (Call S tab 35 [.pointer (some ⟨xb,0,none⟩),str nm] m1) λr m2=>(∀ b∈kp,m2.get b=m.get b)/\∃ tv' Z',Fi m0 kp x1 T1 xb tv' Z' m2:=λu hbad=>by
  obtain ⟨f1,k1⟩:=h.f.up0 u;refine ⟨k1,x,T,f1,rfl,rfl,(Hd f1.rt nm hnl).mono λr2 m2 ⟨tv',Z',z1,z2,z3⟩=>?_⟩;obtain ⟨f2,k2⟩:=f1.rf z1 z2;refine ⟨λb hb=>(k2 b hb).trans (k1 b hb),tv',Z',f2,?_⟩;rcases z3 with ⟨_,_,e⟩|⟨_,_,_,e⟩|⟨_,_,_,_,e⟩|⟨a1,a2,a3,_,_⟩
  ·rw [e]; exact h.e
  ·rw [e]; exact h.e
  ·rw [e]; exact h.e
  ·exact absurd a3 (hbad a1 a2)
 rcases hq with ⟨n1,rfl,u⟩|⟨n1,⟨t,ht,e⟩,rfl,u⟩|⟨n1,n2,n3,rfl,u⟩|⟨n1,n2,n3,rfl,x1,tr1,tn1,ns1,_,_⟩
 ·exact same u λh=>by rw [n1] at h; cases h
 ·exact same u λ_ hz=>absurd e (hn.2 hz t ht)
 ·exact same u λ_ _=>by omega
 ·obtain ⟨f1,k1⟩:=h.f.tx tr1 tn1;refine ⟨k1,x1,_,f1,by show (Value.pointer (some ⟨x1.t,0,none⟩))=_; rw [tn1.t],ns1,(Hd f1.rt nm hnl).mono λr2 m2 ⟨tv',Z',z1,z2,z3⟩=>?_⟩;obtain ⟨f2,k2⟩:=f1.rf z1 z2;refine ⟨λb hb=>(k2 b hb).trans (k1 b hb),tv',Z',f2,?_⟩;rcases z3 with ⟨a1,_⟩|⟨_,⟨z,hz,e⟩,_⟩|⟨_,_,a3,_⟩|⟨_,_,_,_,e⟩
  ·rw [n1] at a1; cases a1
  ·exact absurd e (hn.1 n2 z hz)
  ·omega
  ·rw [e,h.e]
theorem qjZ (h:Fi m0 kp x T xb tv Z m) (hns:x.ns.length<=90000) (nm key val:Bs):W (Call S tab 21 [x.v,str nm,str key,str val] m) λr m1=>(∀ b∈kp,m1.get b=m.get b)/\∃ x1 T1,x1.v=x.v/\x1.ns.length<=x.ns.length+1/\Fl m0 kp x1 T1 xb tv Z m1/\∃ e:Int,r=.int .i64 e/\(e≠0->Fi m0 kp x1 T1 xb tv Z m1)/\(e=0 ->
  W (Call S tab 36 [.pointer (some ⟨xb,0,none⟩),str nm,str key,str val] m1) λr m2=>(∀ b∈kp,m2.get b=m.get b)/\∃ tv' Z',Fi m0 kp x1 T1 xb tv' Z' m2):=by
 rcases Kb x.ts nm with hn|⟨a,q,b,he,rfl⟩
 ·refine (qhn h.f.tr hn key val).mono λr m1 ⟨e,u⟩=>?_
  obtain ⟨f1,k1⟩:=h.f.up0 u;exact ⟨k1,x,T,rfl,by omega,f1,7,e,λ_=>⟨f1,h.e⟩,λh=>by omega⟩
 ·refine (VQ h.f.tr hns he key val).mono λr m1 hq=>?_
  rcases hq with ⟨x1,tr1,tn1,_,hq⟩|⟨n1,e,x1,rt,U,tr1,tn1,_⟩
  ·obtain ⟨f1,k1⟩:=h.f.tx tr1 tn1;have hv:x1.v=x.v:=by show (Value.pointer (some ⟨x1.t,0,none⟩))=_; rw [tn1.t]
   rcases hq with ⟨_,e⟩|⟨_,_,e⟩
   ·exact ⟨k1,x1,T,hv,tn1.gr.len,f1,1,e,λ_=>⟨f1,h.e⟩,λh=>by omega⟩
   ·exact ⟨k1,x1,T,hv,tn1.gr.len,f1,8,e,λ_=>⟨f1,h.e⟩,λh=>by omega⟩
  ·obtain ⟨f1,k1⟩:=h.f.tx tr1 tn1;refine ⟨k1,x1,_,by show (Value.pointer (some ⟨x1.t,0,none⟩))=_; rw [tn1.t],tn1.gr.len,f1,0,e,λh=>absurd rfl h,λ_=>?_⟩;refine (qeM f1.rt (by rw [h.e]; have:=h.f.tr.tot; omega) q.nm key val).mono λr2 m2 ⟨Z',z1,z2,z3⟩=>?_
   obtain ⟨f2,k2⟩:=f1.rf z1 z2;refine ⟨λb hb=>(k2 b hb).trans (k1 b hb),tv,Z',f2,?_⟩;have hq:q∈x.ts:=by rw [he]; simp
   rcases z3 with ⟨a1,_⟩|⟨a1,_⟩|⟨_,_,z,hz,hzn,e⟩
   ·exact absurd rfl (h.no.2 a1 q hq)
   ·exact absurd n1 a1
   ·have h1:=h.find hz;rw [hzn] at h1;rw [e,h.e,ZJ h.f.tr.va.rise h1 (h.f.tr.mo.mem hq)]
theorem qka (h:Fi m0 kp x T xb tv Z m) (hns:x.ns.length<=90000) (nm key:Bs):W (Call S tab 44 [x.v,str nm,str key] m) λr m1=>(∀ b∈kp,m1.get b=m.get b)/\∃ x1 T1,x1.v=x.v/\x1.ns.length<=x.ns.length+1/\Fl m0 kp x1 T1 xb tv Z m1/\∃ (o:Bool) (e:Int),r=.tuple #[.bool o,.int .i64 e]/\(e≠0->Fi m0 kp x1 T1 xb tv Z m1)/\(e=0 ->
  W (Call S tab 45 [.pointer (some ⟨xb,0,none⟩),str nm,str key] m1) λr m2=>(∀ b∈kp,m2.get b=m.get b)/\∃ tv' Z',Fi m0 kp x1 T1 xb tv' Z' m2):=by
 rcases Kb x.ts nm with hn|⟨a,q,b,he,rfl⟩
 ·refine (qhq h.f.tr hn key).mono λr m1 ⟨e,u⟩=>?_
  obtain ⟨f1,k1⟩:=h.f.up0 u;exact ⟨k1,x,T,rfl,by omega,f1,false,7,e,λ_=>⟨f1,h.e⟩,λh=>by omega⟩
 ·have hq:q∈x.ts:=by rw [he]; simp
  have del:∀ {x1:To} {T1:List Tb} {m1:Mem},Fl m0 kp x1 T1 xb tv Z m1->T1=vI T q.nm (xA q.l key)->(∀ b∈kp,m1.get b=m.get b)->W (Call S tab 45 [.pointer (some ⟨xb,0,none⟩),str q.nm,str key] m1) λr m2=>(∀ b∈kp,m2.get b=m.get b)/\∃ tv' Z',Fi m0 kp x1 T1 xb tv' Z' m2:=λ{x1 T1 m1} f1 eT k1=>by
   refine (qeN f1.rt q.nm key).mono λr2 m2 ⟨Z',z1,z2,z3⟩=>?_
   obtain ⟨f2,k2⟩:=f1.rf z1 z2;refine ⟨λb hb=>(k2 b hb).trans (k1 b hb),tv,Z',f2,?_⟩;rcases z3 with ⟨a1,_⟩|⟨z,hz,hzn,e⟩
   ·exact absurd rfl (h.no.2 a1 q hq)
   ·have h1:=h.find hz;rw [hzn] at h1;rw [e,h.e,ZJ h.f.tr.va.rise h1 (h.f.tr.mo.mem hq),eT]
  refine (qhr h.f.tr hns he key).mono λr m1 hq3=>?_
  rcases hq3 with ⟨x1,tr1,tn1,_,hq3⟩|⟨n1,e,x1,tr1,tn1⟩
  ·obtain ⟨f1,k1⟩:=h.f.tx tr1 tn1;have hv:x1.v=x.v:=by show (Value.pointer (some ⟨x1.t,0,none⟩))=_; rw [tn1.t]
   rcases hq3 with ⟨n1,e⟩|⟨n1,e⟩
   ·refine ⟨k1,x1,T,hv,tn1.gr.len,f1,false,0,e,λh=>absurd rfl h,λ_=>del f1 ?_ k1⟩;have:xA q.l key=q.l:=by unfold xA; rw [n1,if_neg (by simp)]
    rw [this]; exact (qdl h.f.tr.va.rise (h.f.tr.mo.mem hq)).symm
   ·exact ⟨k1,x1,T,hv,tn1.gr.len,f1,false,8,e,λ_=>⟨f1,h.e⟩,λh=>by omega⟩
  ·obtain ⟨f1,k1⟩:=h.f.tx tr1 tn1;exact ⟨k1,x1,_,by show (Value.pointer (some ⟨x1.t,0,none⟩))=_; rw [tn1.t],tn1.gr.len,f1,true,0,e,λh=>absurd rfl h,λ_=>del f1 rfl k1⟩
end
end Go.Fx.Tryz
namespace Go.Fx.Tryz
open Go Go.Fx
theorem Fi.drop {m0:Mem} {kp:List Nat} {x:To} {T:List Tb} {xb:Nat} {tv:Value} {Z:List Rz} {m:Mem} (h:Fi m0 kp x T xb tv Z m):Fi m0 [] x T xb tv Z m:=⟨h.f.drop,h.e⟩
set_option maxRecDepth 4000 in
theorem qdQ {L:List Pa} {s:Value} {m0:Mem} (hs:TSl yr m0 s L) (hsb:∀ b∈qc s,b<m0.next) (hnm:∀ a∈L,a.nm.length<2 ^ 62) {xb:Nat} {xv:Value} :
  ∀ (d i:Nat) (x:To) (T:List Tb) (tv:Value) (Z:List Rz) (m:Mem),200 - i=d->i<=200->Fi m0 [] x T xb tv Z m->x.v=xv->x.ns.length<=i->W (Xw s xv (.pointer (some ⟨xb,0,none⟩)) (.int .i64 (i:Int)) m) λr m'=>∃ x T tv Z,Fi m0 [] x T xb tv Z m'/\r=.tuple #[x.v,.pointer (some ⟨xb,0,none⟩)]/\x.ns.length<=200:=by
 have ln:=hs.len;intro d
 induction d with
 | zero =>
  intro i x T tv Z m hd hi h hv hns;obtain rfl:i=200:=by omega
  have e2:(((200:Nat):Int)<200)=False:=eq_false (by omega);rw [P16_0_eq];by_cases hc:200<L.length
  ·have e1:(((200:Nat):Int)<(L.length:Int))=True:=eq_true (by omega);simp only [st0,ln,e1,e2];exact ⟨x,T,tv,Z,h,by rw [hv],hns⟩
  ·have e1:(((200:Nat):Int)<(L.length:Int))=False:=eq_false (by omega);simp only [st0,ln,e1];exact ⟨x,T,tv,Z,h,by rw [hv],hns⟩
 | succ d ih =>
  intro i x T tv Z m hd hi h hv hns;have e2:((i:Int)<200)=True:=eq_true (by omega);rw [P16_0_eq];by_cases hc:i<L.length
  ·have e1:((i:Int)<(L.length:Int))=True:=eq_true (by omega);have hsm:TSl yr m s L:=hs.upd h.f.up λb hb=>⟨hsb b hb,by simp⟩
   obtain ⟨b,off,y1,y2⟩:=hsm.at .i64 (i:=i) (List.getElem?_eq_getElem hc);rw [qbh] at y1 y2;simp only [st0,ln,e1,e2,y1,(y2 m hsm).1];refine jf (c:=yr.cells L[i]) rfl rfl rfl λm1 g1 u1 n1=>?_
   have ld:∀ {M:Mem},M.get m.next=some ⟨.cells (yr.cells L[i]) 104,false,none⟩->qa (.pointer (some ⟨m.next,0+0,none⟩)) M=some (str L[i].nm)/\qa (.pointer (some ⟨m.next,0+1,none⟩)) M=some (str L[i].key)/\qa (.pointer (some ⟨m.next,0+2,none⟩)) M=some (str L[i].val)/\qa (.pointer (some ⟨m.next,0+3,none⟩)) M=some (.bool L[i].gone):=λg=>⟨qm g rfl,qm g rfl,qm g rfl,qm g rfl⟩
   have f1:Fi m0 [m.next] x T xb tv Z m1:=by
    obtain ⟨f,_⟩:=h.f.up0 u1;have a1:=h.f.tr.ZX;have a2:=h.f.rt.ZX;exact ⟨⟨f.tr,f.rt,f.dj,f.cp,λb hb=>by simp at hb; subst hb; exact ⟨n1,λhm=>by have:=a1 _ hm; omega,λhm=>by have:=a2 _ hm; omega⟩,f.up,f.lo⟩,h.e⟩
   have hnl:=hnm _ (List.getElem_mem hc);simp only [st0,fa,(ld g1).1];rw [<- hv];refine qh.2 ((qgi f1 L[i].nm hnl).mono λr2 m2 ⟨k2,x2,T2,f2,v2,ns2,hw⟩=>?_);have g2:=(k2 _ (List.mem_singleton.2 rfl)).trans g1;simp only [st0,fa,(ld g2).1];refine qh.2 (hw.mono λr3 m3 ⟨k3,tv3,Z3,f3⟩=>?_);have g3:=(k3 _ (List.mem_singleton.2 rfl)).trans g1;have next:∀ {m':Mem} {x':To} {T':List Tb} {tv':Value} {Z':List Rz},Fi m0 [m.next] x' T' xb tv' Z' m'->x'.v=x.v->x'.ns.length<=i+1->W (Xw s x.v (.pointer (some ⟨xb,0,none⟩)) (.int .i64 ((i+1:Nat):Int)) m') λr m'=>∃ x T tv Z,Fi m0 [] x T xb tv Z m'/\r=.tuple #[x.v,.pointer (some ⟨xb,0,none⟩)]/\x.ns.length<=200:=λ{m' x' T' tv' Z'} hf hxv hxn=>by
    rw [hv];exact ih (i+1) x' T' tv' Z' m' (by omega) (by omega) hf.drop (hxv.trans hv) hxn
   cases hgo:L[i].gone with
   | true =>
    have lg:qa (.pointer (some ⟨m.next,0+3,none⟩)) m3=some (.bool true):=by rw [<- hgo]; exact (ld g3).2.2.2
    simp only [st0,fa,lg,(ld g3).1,(ld g3).2.1];rw [<- v2];refine qh.2 ((qka f3 (by rw [ns2]; omega) L[i].nm L[i].key).mono λr4 m4 ⟨k4,x4,T4,v4,ns4,f4,o,e,er,h1,h2⟩=>?_);subst er;have g4:=(k4 _ (List.mem_singleton.2 rfl)).trans g3;by_cases he:e=0
    ·have d1:decide (e=0)=true:=decide_eq_true he;simp only [st0,xt0,xt1,d1,fa,(ld g4).1,(ld g4).2.1,qB (i:=i) (by omega)];refine qh.2 ((h2 he).mono λr5 m5 ⟨k5,tv5,Z5,f5⟩=>?_);rw [v2];exact next f5 (v4.trans v2) (by rw [ns2] at ns4; omega)
    ·have d1:decide (e=0)=false:=decide_eq_false he;simp only [st0,xt0,xt1,d1,qB (i:=i) (by omega)];rw [v2];exact next (h1 he) (v4.trans v2) (by rw [ns2] at ns4; omega)
   | false =>
    have lg:qa (.pointer (some ⟨m.next,0+3,none⟩)) m3=some (.bool false):=by rw [<- hgo]; exact (ld g3).2.2.2
    simp only [st0,fa,lg,(ld g3).1,(ld g3).2.1,(ld g3).2.2.1];rw [<- v2];refine qh.2 ((qjZ f3 (by rw [ns2]; omega) L[i].nm L[i].key L[i].val).mono λr4 m4 ⟨k4,x4,T4,v4,ns4,f4,e,er,h1,h2⟩=>?_);subst er;have g4:=(k4 _ (List.mem_singleton.2 rfl)).trans g3;by_cases he:e=0
    ·have d1:decide (e=0)=true:=decide_eq_true he;simp only [st0,d1,fa,(ld g4).1,(ld g4).2.1,(ld g4).2.2.1,qB (i:=i) (by omega)];refine qh.2 ((h2 he).mono λr5 m5 ⟨k5,tv5,Z5,f5⟩=>?_);rw [v2];exact next f5 (v4.trans v2) (by rw [ns2] at ns4; omega)
    ·have d1:decide (e=0)=false:=decide_eq_false he;simp only [st0,d1,qB (i:=i) (by omega)];rw [v2];exact next (h1 he) (v4.trans v2) (by rw [ns2] at ns4; omega)
  ·have e1:((i:Int)<(L.length:Int))=False:=eq_false (by omega);simp only [st0,ln,e1];exact ⟨x,T,tv,Z,h,by rw [hv],by omega⟩
theorem qia {L:List Pa} {s:Value} {m:Mem} (hs:TSl yr m s L) (hsb:∀ b∈qc s,b<m.next) (hnm:∀ a∈L,a.nm.length<2 ^ 62):W (Call S tab 16 [s] m) λr m'=>∃ x T xb tv Z,Fi m [] x T xb tv Z m'/\r=.tuple #[x.v,.pointer (some ⟨xb,0,none⟩)]/\x.ns.length<=200:=by
 rw [C16];have hb:W (Call S tab 8 [.int .i64 160] m) _:=HW (n:=160) (by omega) (by omega) m;refine qh.2 (hb.mono λr1 m1 ⟨x,tr1,e,ns1,nts1,ts1,nb1,P1,fp1,c1,p1,u1⟩=>?_);subst e;have x1:=u1.next;have hf:qt [.slice none 0 0] []=some [.slice none 0 0]:=rfl;simp only [st0,hf,qS];have u2:Upd [] m1 (m1.add ⟨.cells [.slice none 0 0] 38,false,none⟩):=Upd.add _ _ _;have g2:(m1.add ⟨.cells [.slice none 0 0] 38,false,none⟩).get m1.next=some ⟨.cells [.slice none 0 0] 38,false,none⟩:=Mem.qf ..;have n2:(m1.add ⟨.cells [.slice none 0 0] 38,false,none⟩).next=m1.next+1:=rfl;have al:=tr1.ZX;have cl:=tr1.wi.wr.lc;have pl:=tr1.wi.wr.lp;have hra:vR m1.next (.slice none 0 0) []=[m1.next]:=by simp [vR,qc]
 have rt:RT m1.next (.slice none 0 0) [] (m1.add ⟨.cells [.slice none 0 0] 38,false,none⟩):=⟨g2,TAp.nil _,λz hz=>by (cases hz),by omega,⟨by simp [qc],λz hz=>by (cases hz)⟩,λz hz=>by (cases hz),.nil,⟨by simp,by simp,.nil,by simp,by simp⟩⟩
 have fi:Fi m [] x [] m1.next (.slice none 0 0) [] (m1.add ⟨.cells [.slice none 0 0] 38,false,none⟩):=by
  refine ⟨⟨tr1.qn u2,rt,λb hb hm=>?_,by rw [hra]; simp; omega,λb hb=>by (cases hb),u1.qu u2,⟨λb hb=>?_,λb hb=>?_⟩⟩,rfl⟩
  ·rw [hra] at hm; simp at hm; have:=al b hb; omega
  ·rcases List.mem_append.1 hb with hb|hb
   ·exact fp1 b hb
   ·rw [nb1] at hb; simp [qc] at hb
  ·rw [hra] at hb; simp at hb; omega
 refine (qdQ hs hsb hnm _ 0 x [] _ [] _ rfl (Nat.zero_le _) fi rfl (by rw [ns1]; simp)).mono λr m' ⟨x',T,tv,Z,f,e,n⟩=>⟨x',T,m1.next,tv,Z,f,e,n⟩
end Go.Fx.Tryz
namespace Go.Fx.Tryz
open Go Go.Fx
set_option maxRecDepth 100000 in
theorem qkI {B:Nat} {m:Mem} {cs:List Value} (hB:B<=140737488351232) (h:WTB Proofs.Tryz.prog B m 3 104 cs):∃ a:Pa,cs=yr.cells a/\a.nm.length<2 ^ 62:=by
 obtain ⟨p1,r1,rfl,h1,p2,r2,rfl,h2,p3,r3,rfl,h3,p4,r4,rfl,h4,rfl⟩:=WT.qhx (ts:=[9,9,9,4]) (by kernel_rfl) h;obtain ⟨s1,rfl,k1⟩:=WT.string (by kernel_rfl) h1;obtain ⟨s2,rfl,_⟩:=WT.string (by kernel_rfl) h2;obtain ⟨s3,rfl,_⟩:=WT.string (by kernel_rfl) h3;obtain ⟨b,rfl⟩:=WT.bool (by kernel_rfl) h4;have hl:s1.data.toList.length=s1.size:=Array.length_toList;exact ⟨⟨s1.data.toList,s2.data.toList,s3.data.toList,b⟩,by rw [str_eta s1,str_eta s2,str_eta s3]; rfl,by show s1.data.toList.length<_; omega⟩
set_option maxRecDepth 100000 in
theorem pas_of {B:Nat} {m:Mem} {v:Value} (hB:B<=140737488351232) (h:WTB Proofs.Tryz.prog B m 4 48 v.cells.toList) (hna:aggT Proofs.Tryz.prog 48=some false->∀ xs,v≠.agg xs) :
  ∃ L:List Pa,TSl yr m v L/\(∀ b∈qc v,b<m.next)/\∀ a∈L,a.nm.length<2 ^ 62:=by
 obtain ⟨l,h1,h2,h3,h4⟩:=WT.qjm yr (e:=104) (p:=λa=>a.nm.length<2 ^ 62) (by kernel_rfl) (by kernel_rfl) (by decide) (by kernel_rfl) (λcs h=>qkI hB h) h (hna (by kernel_rfl));exact ⟨l,h1,h3,h4⟩
end Go.Fx.Tryz
namespace Go.Fx.Tryz
open Go Go.Fx
theorem qeS (n:Nat) (h:n<65536):arith .rem (.int .u64 (n:Int)) (.int .u64 256)=some (.int .u64 ((n % 256:Nat):Int)):=by
 have e:(n:Int).tmod 256=((n % 256:Nat):Int):=by
  rw [Int.tmod_eq_emod_of_nonneg (by omega)]; omega
 have z:¬ ((256:Int)=0):=by omega
 simp only [arith,iop,if_true,if_neg z,e]
theorem qeV (n:Nat) (h:n<65536):arith .quo (.int .u64 (n:Int)) (.int .u64 256)=some (.int .u64 ((n / 256:Nat):Int)):=by
 have e:IntKind.u64.wrap ((n:Int).tdiv 256)=((n / 256:Nat):Int):=by
  rw [Int.tdiv_eq_ediv_of_nonneg (by omega),XD (by omega) (by omega)]; omega
 have z:¬ ((256:Int)=0):=by omega
 simp only [arith,iop,if_true,if_neg z,e]
theorem qeP (k:Nat) (h1:1<=k) (h2:k<=8) (m:Mem):Call S tab 67 [.int .i64 (k:Int)] m=some (.int .i64 (k:Int),m):=by
 refine W_eq ?_;rw [C67];have h1:((1:Int) > (k:Int))=False:=eq_false (by omega);have h8:((8:Int)<(k:Int))=False:=eq_false (by omega);simp only [st0,h1,h8];exact ⟨trivial,trivial⟩
theorem u8m (n:Nat):UInt8.ofNat (n % 256)=UInt8.ofNat n:=UInt8.toNat_inj.1 (by simp)
theorem qcg (n:Nat) (hn:n<65536) (m:Mem):W (Call S tab 47 [.int .u64 (n:Int),.int .i64 1] m) λr m'=>r=str [UInt8.ofNat n]/\Upd [] m m':=by
 have hz:Call S tab 67 [.int .i64 1] m=some (.int .i64 1,m):=qeP 1 (by omega) (by omega) m;have hm:jD 5 1 [.int .u8 0] (.int .i64 1) (.int .i64 1) m=some (.slice (some ⟨m.next,0,none⟩) 1 1,m.add ⟨.cells [.int .u8 0] 5,false,none⟩):=rfl;have e1:arith .sub (.int .i64 1) (.int .i64 1)=some (.int .i64 0):=rfl;have e2:arith .sub (.int .i64 0) (.int .i64 1)=some (.int .i64 (-1)):=rfl;have hx:qi 1 (.slice (some ⟨m.next,0,none⟩) 1 1) (.int .i64 0)=some (.pointer (some ⟨m.next,0,none⟩)):=rfl;have d0:decide ((0:Int)<=0)=true:=rfl;have d1:decide ((0:Int)<=-1)=false:=rfl;rw [C47];simp only [st0,hz,hm,e1];have u1:Upd [] m (m.add ⟨.cells [.int .u8 0] 5,false,none⟩):=Upd.add _ _ _;have g1:(m.add ⟨.cells [.int .u8 0] 5,false,none⟩).get m.next=some ⟨.cells [.int .u8 0] 5,false,none⟩:=Mem.qf ..;have n1:(m.add ⟨.cells [.int .u8 0] 5,false,none⟩).next=m.next+1:=rfl;generalize (m.add ⟨.cells [.int .u8 0] 5,false,none⟩)=m1 at u1 g1 n1;rw [P47_0_eq];simp only [st0,d0,qeS n hn,vm,hx,qeV n hn,e2];refine stp g1 (by simp) rfl rfl λm2 u2 n2 g2=>?_
 have g2:m2.get m.next=some ⟨.cells (xx.flat [UInt8.ofNat (n % 256)]) 5,false,none⟩:=g2;have hx1:=u1.next;have t2:TAp xx 5 m2 (.slice (some ⟨m.next,0,none⟩) 1 1) [UInt8.ofNat (n % 256)]:=.inr ⟨m.next,1,[],none,rfl,by omega,by rw [List.append_nil]; exact g2,.inl rfl,rfl,Nat.le_refl _⟩;rw [P47_0_eq];simp only [st0,d1,Kn t2.tsl];exact ⟨by rw [u8m],u1.then' u2 λb hb=>.inr (by simp at hb; omega)⟩
theorem qfg (n:Nat) (hn:n<65536) (m:Mem):W (Call S tab 47 [.int .u64 (n:Int),.int .i64 2] m) λr m'=>r=str (xI n)/\Upd [] m m':=by
 have hz:Call S tab 67 [.int .i64 2] m=some (.int .i64 2,m):=qeP 2 (by omega) (by omega) m;have hm:jD 5 1 [.int .u8 0] (.int .i64 2) (.int .i64 2) m=some (.slice (some ⟨m.next,0,none⟩) 2 2,m.add ⟨.cells [.int .u8 0,.int .u8 0] 5,false,none⟩):=rfl;have e0:arith .sub (.int .i64 2) (.int .i64 1)=some (.int .i64 1):=rfl;have e1:arith .sub (.int .i64 1) (.int .i64 1)=some (.int .i64 0):=rfl;have e2:arith .sub (.int .i64 0) (.int .i64 1)=some (.int .i64 (-1)):=rfl;have hx:qi 1 (.slice (some ⟨m.next,0,none⟩) 2 2) (.int .i64 0)=some (.pointer (some ⟨m.next,0,none⟩)):=rfl;have hx1:qi 1 (.slice (some ⟨m.next,0,none⟩) 2 2) (.int .i64 1)=some (.pointer (some ⟨m.next,1,none⟩)):=rfl;have d0:decide ((0:Int)<=0)=true:=rfl;have d01:decide ((0:Int)<=1)=true:=rfl;have d1:decide ((0:Int)<=-1)=false:=rfl;rw [C47];simp only [st0,hz,hm,e0];have u1:Upd [] m (m.add ⟨.cells [.int .u8 0,.int .u8 0] 5,false,none⟩):=Upd.add _ _ _;have g1:(m.add ⟨.cells [.int .u8 0,.int .u8 0] 5,false,none⟩).get m.next=some ⟨.cells [.int .u8 0,.int .u8 0] 5,false,none⟩:=Mem.qf ..;have n1:(m.add ⟨.cells [.int .u8 0,.int .u8 0] 5,false,none⟩).next=m.next+1:=rfl;generalize (m.add ⟨.cells [.int .u8 0,.int .u8 0] 5,false,none⟩)=m1 at u1 g1 n1;rw [P47_0_eq];simp only [st0,d01,qeS n hn,vm,hx1,qeV n hn,e1];refine stp g1 (by simp) rfl rfl λm2 u2 n2 g2=>?_
 rw [P47_0_eq];simp only [st0,d0,qeS (n / 256) (by omega),vm,hx,qeV (n / 256) (by omega),e2];refine stp g2 (by simp) rfl rfl λm3 u3 n3 g3=>?_
 have g3:m3.get m.next=some ⟨.cells (xx.flat [UInt8.ofNat (n / 256 % 256),UInt8.ofNat (n % 256)]) 5,false,none⟩:=g3;have hx1:=u1.next;have t3:TAp xx 5 m3 (.slice (some ⟨m.next,0,none⟩) 2 2) [UInt8.ofNat (n / 256 % 256),UInt8.ofNat (n % 256)]:=.inr ⟨m.next,2,[],none,rfl,by omega,by rw [List.append_nil]; exact g3,.inl rfl,rfl,Nat.le_refl _⟩;rw [P47_0_eq];simp only [st0,d1,Kn t3.tsl];exact ⟨by rw [u8m,u8m]; rfl,(u1.then' u2 λb hb=>.inr (by simp at hb; omega)).then' u3 λb hb=>.inr (by simp at hb; omega)⟩
theorem JD (s:Bs) (hs:s.length<=255) (m:Mem):W (Call S tab 48 [str s] m) λr m'=>r=str (zD s)/\Upd [] m m':=by
 have e1:((255:Int)<(s.length:Int))=False:=eq_false (by omega);rw [C48];simp only [st0,qZ,e1,vu .i64 s.length (by omega)];refine qh.2 ((qcg s.length (by omega) m).mono λr m1 ⟨e,u⟩=>?_);subst e;simp only [st0,vy (Nat.le_refl s.length),List.take_length,yV (a:=[UInt8.ofNat s.length]) (b:=s) (by simp; omega)];exact ⟨rfl,u⟩
theorem apL (a b:Bs):(a++b).length=a.length+b.length:=laI
theorem qeI {l:List Pr} {sv x0 xi:Value} {k0:Bs} (hr:rowP l) (hl:l.length<=65535) (hk:k0.length<=2 ^ 38) {m0:Mem} {Q:Value->Mem->Prop}
  (hQ:∀ m,Upd [] m0 m->W ((arith .add xi (.int .i64 1)).bind λw=>qaf x0 (str (k0++pB l)) w m) Q):∀ (d i:Nat) (m:Mem),l.length - i=d->i<=l.length->RSl 0 qK m sv l->Upd [] m0 m ->
  W (qcN x0 (str (k0++pB (l.take i))) xi sv (.int .i64 (i:Int)) m) Q:=by
 intro d
 induction d with
 | zero =>
  intro i m hd hi h hu;obtain rfl:i=l.length:=by omega
  rw [List.take_length,P19_1_eq];simp only [st0,zf h,Int.lt_irrefl];exact hQ m hu
 | succ d ih =>
  intro i m hd hi h hu;have hlt:i<l.length:=by omega
  have hp:=Hc hr _ (List.getElem_mem hlt);have hkl:=qaR (Hb hr i);rw [ltI] at hkl;have hk1:(k0++pB (l.take i)).length<=2 ^ 38+5000000:=by rw [laI]; omega
  have e1:((i:Int)<(l.length:Int))=True:=eq_true (by omega);obtain ⟨b,off,y1,y2⟩:=qkR h (jB hlt);rw [P19_1_eq];simp only [st0,zf h,e1,y1,fa,(y2 m h).1];refine qh.2 ((JD l[i].1 hp.1 m).mono λr1 m1 ⟨e,u1⟩=>?_);subst e;have h1:=h.qn u1;simp only [st0,y1,fa,(y2 m1 h1).2.1];refine qh.2 ((JD l[i].2 hp.2 m1).mono λr2 m2 ⟨e,u2⟩=>?_);subst e;have h2:=h1.qn u2;have sl:∀ x:Bs,(zD x).length=x.length+1:=λx=>by simp [zD]
  have c1:arith .add (str (zD l[i].1)) (str (zD l[i].2))=some (str (zD l[i].1++zD l[i].2)):=yV (by rw [sl,sl]; omega);have c2:arith .add (str (k0++pB (l.take i))) (str (zD l[i].1++zD l[i].2))=some (str ((k0++pB (l.take i))++(zD l[i].1++zD l[i].2))):=yV (by rw [apL (zD l[i].1),sl,sl]; omega);simp only [st0,c1,c2,qB (i:=i) (by omega)];refine jC (λr hr=>?_) ?_
  ·simp only [lcI,nmI,or_false] at hr;rcases hr with rfl|rfl
   ·exact okR λk _ hk=>by
     obtain rfl:k=0:=by omega
     exact ⟨_,rfl,(y2 m h).1⟩
   ·exact okR λk _ hk=>by
     have:k=0∨k=1:=by omega
     rcases this with rfl|rfl
     ·exact ⟨_,rfl,(y2 m h).2.1⟩
     ·exact ⟨_,rfl,(y2 m1 h1).2.1⟩
  have ev:(k0++pB (l.take i))++(zD l[i].1++zD l[i].2)=k0++pB (l.take (i+1)):=by
   rw [tsI hlt];have e:pB (l.take i++[l[i]])=pB (l.take i)++(zD l[i].1++zD l[i].2):=by simp only [pB,List.map_append,List.flatten_append,List.map_cons,List.map_nil,List.flatten_cons,List.flatten_nil,List.append_nil,xR]
   rw [e]; simp only [aaI]
  rw [ev];exact ih (i+1) m2 (by omega) hlt h2 ((hu.qu u1).qu u2)
theorem qhB {xb:Nat} {tv:Value} {Z:List Rz} {m0:Mem} (h0:RT xb tv Z m0):∀ (d i:Nat) (m:Mem),Z.length - i=d->i<=Z.length->Upd [] m0 m ->
  W (qaf (.pointer (some ⟨xb,0,none⟩)) (str (UInt8.ofNat Z.length::(((Z.map tz).take i).map kY).flatten)) (.int .i64 (i:Int)) m) λr m'=>r=str (ZT (Z.map tz))/\Upd [] m0 m':=by
 have hT:=h0.va.len;rw [List.length_map] at hT;have ln:=h0.ta.tsl.len;rw [List.length_map] at ln;intro d
 induction d with
 | zero =>
  intro i m hd hi hu;have h:=h0.qn hu;obtain rfl:i=Z.length:=by omega
  rw [P19_0_eq];simp only [st0,nck,fa,RT.ld h.g,ln,Int.lt_irrefl];refine ⟨?_,hu⟩;have:(Z.map tz).take Z.length=Z.map tz:=List.take_of_length_le (by simp);rw [this]; unfold ZT; rw [List.length_map]
 | succ d ih =>
  intro i m hd hi hu;have h:=h0.qn hu;have hlt:i<Z.length:=by omega
  have e1:((i:Int)<(Z.length:Int))=True:=eq_true (by omega);obtain ⟨b,off,y1,y2⟩:=Wq h hlt;have y3:qa (.pointer (some ⟨b,off+1+0,none⟩)) m=some Z[i].1.sv:=(y2 m h.ta).2;have hz:tz Z[i]∈Z.map tz:=List.mem_map.2 ⟨Z[i],List.getElem_mem hlt,rfl⟩;have hrow:rowP Z[i].2:=h.va.row _ hz;have hfew:Z[i].2.length<=65535:=h.va.few _ hz;have hrt:Z[i].1.nm.length<=8:=(we (h.va.right _ hz)).2;have rs:RSl 0 qK m Z[i].1.sv Z[i].2:=(h.pv Z[i] (List.getElem_mem hlt)).rsl λ_ _=>Nat.zero_le _
  have tl:=qbP h.va i;rw [ltI,List.length_map] at tl;have hkl:(UInt8.ofNat Z.length::(((Z.map tz).take i).map kY).flatten).length<=70000000:=by rw [lnI]; omega
  rw [P19_0_eq];simp only [st0,nck,fa,RT.ld h.g,ln,e1,y1,y3,(y2 m h.ta).1];refine qh.2 ((JD Z[i].1.nm (by omega) m).mono λr1 m1 ⟨e,u1⟩=>?_);subst e;simp only [st0,zf rs,vu .i64 Z[i].2.length (by omega)];refine qh.2 ((qfg Z[i].2.length (by omega) m1).mono λr2 m2 ⟨e,u2⟩=>?_);subst e;have rs2:=(rs.qn u1).qn u2;have sl:∀ x:Bs,(zD x).length=x.length+1:=λx=>by simp [zD]
  have nl:(xI Z[i].2.length).length=2:=rfl;have c1:arith .add (str (zD Z[i].1.nm)) (str (xI Z[i].2.length))=some (str (zD Z[i].1.nm++xI Z[i].2.length)):=yV (by rw [sl,nl]; omega);have c2:arith .add (str (UInt8.ofNat Z.length::(((Z.map tz).take i).map kY).flatten)) (str (zD Z[i].1.nm++xI Z[i].2.length))=some (str ((UInt8.ofNat Z.length::(((Z.map tz).take i).map kY).flatten)++(zD Z[i].1.nm++xI Z[i].2.length))):=yV (by rw [laI,sl,nl]; omega);simp only [st0,c1,c2];have hb:((UInt8.ofNat Z.length::(((Z.map tz).take i).map kY).flatten)++(zD Z[i].1.nm++xI Z[i].2.length)).length<=2 ^ 38:=by rw [laI,laI,sl,nl]; omega
  have hst:(UInt8.ofNat Z.length::(((Z.map tz).take i).map kY).flatten)++(zD Z[i].1.nm++xI Z[i].2.length)=((UInt8.ofNat Z.length::(((Z.map tz).take i).map kY).flatten)++(zD Z[i].1.nm++xI Z[i].2.length))++pB (Z[i].2.take 0):=by rw [List.take_zero]; show _=_++[]; rw [List.append_nil]
  rw [hst];refine qeI (m0:=m0) hrow hfew hb (λM u=>?_) _ 0 m2 rfl (Nat.zero_le _) rs2 ((hu.qu u1).qu u2);simp only [st0,qB (i:=i) (by omega)];have e:((UInt8.ofNat Z.length::(((Z.map tz).take i).map kY).flatten)++(zD Z[i].1.nm++xI Z[i].2.length))++pB Z[i].2=UInt8.ofNat Z.length::(((Z.map tz).take (i+1)).map kY).flatten:=by
   rw [tsI (by simpa using hlt),List.getElem_map];have e:kY (tz Z[i])=zD Z[i].1.nm++(xI Z[i].2.length++pB Z[i].2):=rfl;simp only [List.map_append,List.flatten_append,List.map_cons,List.map_nil,List.flatten_cons,List.flatten_nil,List.append_nil,e,aaI,List.cons_append]
  rw [e];exact ih (i+1) M (by omega) hlt u
theorem qdm {xb:Nat} {tv:Value} {Z:List Rz} {m:Mem} (h:RT xb tv Z m):W (Call S tab 19 [.pointer (some ⟨xb,0,none⟩)] m) λr m'=>r=str (ZT (Z.map tz))/\Upd [] m m':=by
 have hT:=h.va.len;rw [List.length_map] at hT;have ln:=h.ta.tsl.len;rw [List.length_map] at ln;rw [C19];simp only [st0,nck,fa,RT.ld h.g,ln,vu .i64 Z.length (by omega)];refine qh.2 ((qcg Z.length (by omega) m).mono λr m1 ⟨e,u⟩=>?_);subst e;exact (qhB (h.qn u) _ 0 m1 rfl (Nat.zero_le _) (Upd.refl _ _)).mono λr m' ⟨a,b⟩=>⟨a,u.qu b⟩
theorem qih {x:To} {T:List Tb} {m0:Mem} (h0:TR x T m0) {nv:Value} (hn:RSl 0 encS m0 nv (T.map (·.1))):∀ (d i:Nat) (m:Mem),T.length - i=d->i<=T.length->Upd [] m0 m->W (qcO x.v (.int .i64 ((tot (T.take i):Nat):Int)) nv (.int .i64 (T.length:Int)) (.int .i64 (i:Int)) m) λr m'=>r=.tuple #[.int .i64 ((tot T:Nat):Int),.int .i64 0]/\Upd [] m0 m':=by
 have ht:=h0.tot;intro d
 induction d with
 | zero =>
  intro i m hd hi hu;obtain rfl:i=T.length:=by omega
  rw [List.take_length,P18_0_eq];simp only [st0,Int.lt_irrefl];exact ⟨trivial,hu⟩
 | succ d ih =>
  intro i m hd hi hu;have h:=h0.qn hu;have hlt:i<T.length:=by omega
  have e1:((i:Int)<(T.length:Int))=True:=eq_true (by omega);have d0:decide ((0:Int)=0)=true:=rfl;obtain ⟨a,q,b,he,q1,q2⟩:=h.find (List.getElem_mem hlt);have hnM:=hn.qn hu;obtain ⟨pk,y1,y2⟩:=HA hnM (show (T.map (·.1))[i]? = some q.nm by rw [List.getElem?_map,List.getElem?_eq_getElem hlt,q1]; rfl);have et:tot (T.take (i+1))=tot (T.take i)+q.l.length:=by rw [tsI hlt,jY,q2]; simp [tot]
  have hsum:tot (T.take (i+1))+tot (T.drop (i+1))=tot T:=by rw [<- jY,List.take_append_drop]
  have hT:=h0.va.len;rw [P18_0_eq];simp only [st0,e1,y1,y2 m hnM];refine qh.2 ((qgw h he).mono λr1 m1 ⟨e,u1⟩=>?_);subst e;simp only [st0,xt0,xt1,d0,addN (i:=tot (T.take i)) (j:=q.l.length) (by omega),qB (i:=i) (by omega)];rw [<- et];exact ih (i+1) m1 (by omega) hlt (hu.qu u1)
theorem qgq {x:To} {T:List Tb} {m:Mem} (h:TR x T m):W (Call S tab 18 [x.v] m) λr m'=>r=.tuple #[.int .i64 ((tot T:Nat):Int),.int .i64 0]/\Upd [] m m':=by
 have d0:decide ((0:Int)=0)=true:=rfl;rw [C18];refine qh.2 ((WS h).mono λr1 m1 ⟨e,u1⟩=>?_);subst e;simp only [st0,d0];refine qh.2 ((Zy (h.qn u1)).mono λnv m2 ⟨tn,nb,u2⟩=>?_);have ln:=tn.tsl.len;rw [List.length_map] at ln;simp only [st0,ln];have u:=u1.qu u2;exact (qih (h.qn u) (tn.rsl λ_ _=>Nat.zero_le _) _ 0 m2 rfl (Nat.zero_le _) (Upd.refl _ _)).mono λr m' ⟨a,b⟩=>⟨a,u.qu b⟩
theorem qhg {xb:Nat} {tv:Value} {Z:List Rz} {m:Mem} (h:RT xb tv Z m) (ht:tot (Z.map tz)<=60000):∀ (d i:Nat),Z.length - i=d->i<=Z.length->W (qiq (.pointer (some ⟨xb,0,none⟩)) (str (ZT (Z.map tz))) (.int .i64 0) (.int .i64 ((tot (Z.map tz):Nat):Int)) (.int .i64 0) (.int .i64 ((tot ((Z.map tz).take i):Nat):Int)) (.int .i64 (i:Int)) m) λr _=>r=.bool true:=by
 have hT:=h.va.len;rw [List.length_map] at hT;have ln:=h.ta.tsl.len;rw [List.length_map] at ln;intro d
 induction d with
 | zero =>
  intro i hd hi;obtain rfl:i=Z.length:=by omega
  have e0:(Z.map tz).take Z.length=Z.map tz:=List.take_of_length_le (by simp);have d0:decide ((0:Int)=0)=true:=rfl;have ds:decide (ZT (Z.map tz)=ZT (Z.map tz))=true:=decide_eq_true rfl;have dt:decide (((tot (Z.map tz):Nat):Int)=((tot (Z.map tz):Nat):Int))=true:=decide_eq_true rfl;rw [e0,P6_0_eq];simp only [st0,nck,fa,RT.ld h.g,ln,Int.lt_irrefl];rw [P6_1_eq];simp only [st0,d0];refine qh.2 (qh.2 ((qdm h).mono λr m1 ⟨e,u⟩=>?_));subst e;simp only [st0,jJ,ds,dt]
 | succ d ih =>
  intro i hd hi;have hlt:i<Z.length:=by omega
  have e1:((i:Int)<(Z.length:Int))=True:=eq_true (by omega);obtain ⟨b,off,y1,y2⟩:=Wq h hlt;have y3:qa (.pointer (some ⟨b,off+1+0,none⟩)) m=some Z[i].1.sv:=(y2 m h.ta).2;have rs:RSl 0 qK m Z[i].1.sv Z[i].2:=(h.pv Z[i] (List.getElem_mem hlt)).rsl λ_ _=>Nat.zero_le _
  have et:tot ((Z.map tz).take (i+1))=tot ((Z.map tz).take i)+Z[i].2.length:=by rw [tsI (by simpa using hlt),jY,List.getElem_map]; simp [tot]
  have hsum:tot ((Z.map tz).take (i+1))+tot ((Z.map tz).drop (i+1))=tot (Z.map tz):=by rw [<- jY,List.take_append_drop]
  rw [P6_0_eq];simp only [st0,nck,fa,RT.ld h.g,ln,e1,y1,y3,zf rs,addN (i:=tot ((Z.map tz).take i)) (j:=Z[i].2.length) (by omega),qB (i:=i) (by omega)];rw [<- et];exact ih (i+1) (by omega) hlt
theorem writesLaw {L:List Pa} {s:Value} {m:Mem} (hs:TSl yr m s L) (hsb:∀ b∈qc s,b<m.next) (hnm:∀ a∈L,a.nm.length<2 ^ 62):W (Call S tab 6 [s] m) λr _=>r=.bool true:=by
 rw [C6];refine qh.2 ((qfo m).mono λr1 m1 ⟨e,u1⟩=>?_);subst e;simp only [st0];have h1:TSl yr m1 s L:=hs.upd u1 λb hb=>⟨hsb b hb,by simp⟩
 have x1:=u1.next;refine qh.2 ((qia h1 (λb hb=>by have:=hsb b hb; omega) hnm).mono λr2 m2 ⟨x,T,xb,tv,Z,fi,e,_⟩=>?_);subst e;have hx:=fi.f.tr;simp only [st0,xt0,xt1];refine qh.2 ((yT hx).mono λr3 m3 ⟨e,u3⟩=>?_);subst e;simp only [st0,xt0,xt1];refine qh.2 ((qgq (hx.qn u3)).mono λr4 m4 ⟨e,u4⟩=>?_);subst e;simp only [st0,xt0,xt1];have ht:=hx.tot;rw [<- fi.e] at ht ⊢;exact qhg ((fi.f.rt.qn u3).qn u4) (by omega) _ 0 rfl (Nat.zero_le _)
end Go.Fx.Tryz
