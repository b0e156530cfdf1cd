/- Parts of a proof: DuK, DuL, DuM, DuN, DuO, DuP, DuQ. Conditions: none. -/
import Derived.Test.YtbhdhhgpfanmcaaGreatDoorQw23
set_option linter.unusedSimpArgs false
set_option linter.unusedVariables false
namespace Go.Fx.Tryz
open Go Go.Fx
theorem Hn (l:List Pr):xn l [] []=l:=by
 unfold xn;refine List.filter_eq_self.2 λp _=>?_
 have:ltB p.1 []=false:=by rw [qci]; exact List.not_lt_nil _
 simp [inF,this]
abbrev pB (l:List Pr):Bs:=(l.map xR).flatten
theorem qaR {l:List Pr} (h:rowP l):(pB l).length<=74 * l.length:=by
 have:∀ k:List Pr,(∀ p∈k,p.1.length<=32/\p.2.length<=40)->(pB k).length<=74 * k.length:=by
  intro k
  induction k with
  | nil=>intro _; simp
  | cons p k ih =>
   intro hk;have h1:=hk p (by simp);have h2:=ih λq hq=>hk q (by simp [hq])
   simp only [pB,List.map_cons,List.flatten_cons,laI,lnI] at h2 ⊢;rw [ZL]; unfold qJ; omega
 refine this l λp hp=>⟨?_,h.2 p hp⟩
 obtain ⟨i,hi,e⟩:=List.mem_iff_getElem.1 hp;have:=(zW h.1 i (by simpa using hi)).2.1;rw [List.getElem_map,e] at this; exact this
theorem Hc {l:List Pr} (h:rowP l):∀ p∈l,p.1.length<=255/\p.2.length<=255:=λp hp=>by
 obtain ⟨i,hi,e⟩:=List.mem_iff_getElem.1 hp;have h1:=(zW h.1 i (by simpa using hi)).2.1;rw [List.getElem_map,e] at h1;have h2:=h.2 p hp;omega
theorem Hb {l:List Pr} (h:rowP l) (i:Nat):rowP (l.take i):=⟨by rw [List.map_take]; exact xH _ _ h.1,λp hp=>h.2 p (List.mem_of_mem_take hp)⟩
theorem qgp {lo:Nat} {l:List Pr} {sp x0 x24 x25 x26:Value} {k0:Bs} (hr:rowP l) (hl:l.length<=65535) (hk:k0.length<=2 ^ 38) {m0:Mem} {Q:Value->Mem->Prop}
  (hQ:∀ m v,TAp xx 5 m v (k0++pB l)->(∀ b∈qc v,m0.next<=b)->Upd [] m0 m->W ((arith .add x26 (.int .i64 1)).bind λw=>qag x0 v x24 x25 w m) Q):∀ (d i:Nat) (m:Mem) (v:Value),l.length - i=d->i<=l.length->RSl lo qK m sp l->(∀ b∈qc sp,b∉qc v)->TAp xx 5 m v (k0++pB (l.take i))->(∀ b∈qc v,m0.next<=b)->Upd [] m0 m ->
  W (qcP x0 v x24 x25 x26 sp (.int .i64 (l.length:Int)) (.int .i64 (i:Int)) m) Q:=by
 intro d
 induction d with
 | zero =>
  intro i m v hd hi h hdj hv hvb hu;obtain rfl:i=l.length:=by omega
  rw [List.take_length] at hv;rw [P10_1_eq];simp only [st0,Int.lt_irrefl];exact hQ m v hv hvb hu
 | succ d ih =>
  intro i m v hd hi h hdj hv hvb hu;have hlt:i<l.length:=by omega
  have hp:=Hc hr _ (List.getElem_mem hlt);have hkl:=qaR (Hb hr i);rw [ltI] at hkl;have hk1:(k0++pB (l.take i)).length<=2 ^ 38+5000000:=by rw [laI]; omega
  have e1:((i:Int)<(l.length:Int))=True:=eq_true (by omega);rw [P10_1_eq];obtain ⟨b,off,h1,h2⟩:=h.1.at .i64 (jB hlt);rw [qT] at h1 h2;have h2:=h2 m h.1;simp only [st0,e1,h1,h2.1];refine jf (c:=qK.cells l[i]) rfl rfl rfl λm1 g1 u1 n1=>?_
  have ld:∀ {m2:Mem},m2.get m.next=some ⟨.cells (qK.cells l[i]) 81,false,none⟩->qa (.pointer (some ⟨m.next,0+0,none⟩)) m2=some (str l[i].1)/\qa (.pointer (some ⟨m.next,0+1,none⟩)) m2=some (str l[i].2):=λg=>⟨qm g rfl,qm g rfl⟩
  simp only [st0,fa,(ld g1).1];refine (yF l[i].1 (hv.qn u1) (by omega) hp.1).bind λv2 m2 w2=>?_
  have hnb:m.next∉qc v:=λhb=>by have:=hv.lt _ hb; omega
  have g2:=w2.box g1 n1 hnb;simp only [st0,fa,(ld g2).2];have hkl2:((k0++pB (l.take i))++zD l[i].1).length=(k0++pB (l.take i)).length+(l[i].1.length+1):=by rw [laI]; simp [zD]
  refine (yF l[i].2 w2.ap (by omega) hp.2).bind λv3 m3 w3=>?_
  have hnb2:m.next∉qc v2:=λhb=>by
   rcases w2.own _ hb with h|h
   ·exact hnb h
   ·omega
  have g3:=w3.box g2 (Nat.lt_of_lt_of_le n1 w2.upd.next) hnb2;refine jC (λr hr=>?_) ?_
  ·simp only [lcI,nmI,or_false] at hr;rcases hr with rfl|rfl
   ·exact okL (λM hM=>by simp only [lcI,nmI,or_false] at hM; rcases hM with rfl|rfl|rfl<;>exact (ld (by assumption)).1) (by simp)
   ·exact okL (λM hM=>by simp only [lcI,nmI,or_false] at hM; rcases hM with rfl|rfl|rfl<;>exact (ld (by assumption)).2) (by simp)
  simp only [st0,qB (i:=i) (by omega)];have w3':=(w2.trans w3).ahead u1;have ev:((k0++pB (l.take i))++zD l[i].1)++zD l[i].2=k0++pB (l.take (i+1)):=by
   rw [tsI hlt];have e:pB (l.take i++[l[i]])=pB (l.take i)++(zD l[i].1++zD l[i].2):=by simp only [pB,List.map_append,List.flatten_append,List.map_cons,List.map_nil,List.flatten_cons,List.flatten_nil,List.append_nil,xR]
   rw [e]; simp only [aaI]
  rw [ev] at w3';refine ih (i+1) m3 v3 (by omega) hlt (w3'.sl h hdj) (λb hb hm=>(w3'.own b hm).elim (hdj b hb) λh4=>by have:=(h.lt b hb).2; omega) w3'.ap (λb hb=>?_) (hu.then' w3'.upd (λb hb=>.inr (hvb b hb)));rcases w3'.own b hb with h|h
  ·exact hvb b h
  ·exact Nat.le_trans hu.next h
section
variable {x:To} {T:List Tb} {m:Mem}
theorem TR.qjB (h:TR x T m):∀ t∈x.ts,t.nm≠[]:=λt ht e=>by
 have:=h.va.right _ (h.mo.mem ht);rw [show ((t.nm,t.l):Tb).1=[] from e] at this;cases this
theorem WS (h:TR x T m):W (Call S tab 26 [x.v] m) λr m'=>r=.int .i64 0/\Upd [] m m':=by
 have d7:decide ((7:Int)=7)=true:=rfl;have hc:W (Call S tab 46 [x.v,.string ⟨#[]⟩] m) λr m'=>r=.tuple #[.int .i64 0,.int .i64 7]/\Upd [] m m':=qgv (nm:=[]) h h.qjB
 rw [C26];refine qh.2 (hc.mono λr m1 ⟨e,u⟩=>?_);subst e;simp only [st0,xt0,xt1,d7];exact ⟨trivial,u⟩
theorem TR.find (h:TR x T m) {t:Tb} (ht:t∈T):∃ a q b,x.ts=a++q::b/\q.nm=t.1/\q.l=t.2:=by
 obtain ⟨q,hq,e⟩:=List.mem_map.1 (h.mo.perm.mem_iff.2 ht);obtain ⟨a,b,hab⟩:=List.append_of_mem hq;exact ⟨a,q,b,hab,by rw [<- e],by rw [<- e]⟩
theorem qbP {T:List Tb} (h:Valid T):∀ i,((T.take i).map kY).flatten.length<=5000000 * (T.take i).length:=by
 have:∀ k:List Tb,(∀ t∈k,zP t.1=true/\rowP t.2/\t.2.length<=65535)->(k.map kY).flatten.length<=5000000 * k.length:=by
  intro k
  induction k with
  | nil=>intro _; simp
  | cons t k ih =>
   intro hk;obtain ⟨h1,h2,h3⟩:=hk t (by simp);have h4:=ih λq hq=>hk q (by simp [hq])
   have h5:=qaR h2;have h6:=(we h1).2;simp only [List.map_cons,List.flatten_cons,laI,lnI] at h4 ⊢;have h7:(kY t).length=t.1.length+3+(pB t.2).length:=by
    show (zD t.1++(xI t.2.length++pB t.2)).length=_;simp only [zD,xI,laI,lnI,List.length_nil]; omega
   omega
 exact λi=>this _ λt ht=>⟨h.right t (List.mem_of_mem_take ht),h.row t (List.mem_of_mem_take ht),h.few t (List.mem_of_mem_take ht)⟩
theorem qig (h:TR x T m) {nv:Value} {lo:Nat} (hn:RSl lo encS m nv (T.map (·.1))):∀ (d i:Nat) (M:Mem) (v:Value),T.length - i=d->i<=T.length->TAp xx 5 M v (UInt8.ofNat T.length::((T.take i).map kY).flatten)->(∀ b∈qc v,m.next<=b)->Upd [] m M ->
  W (qag x.v v nv (.int .i64 (T.length:Int)) (.int .i64 (i:Int)) M) λr m'=>r=.tuple #[str (ZT T),.int .i64 0]/\Upd [] m m':=by
 intro d
 induction d with
 | zero =>
  intro i M v hd hi hv hvb hu;obtain rfl:i=T.length:=by omega
  rw [List.take_length] at hv;rw [P10_0_eq];simp only [st0,Int.lt_irrefl,Kn hv.tsl];exact ⟨rfl,hu⟩
 | succ d ih =>
  intro i M v hd hi hv hvb hu;have hlt:i<T.length:=by omega
  have hT12:=h.va.len;have hM:=h.qn hu;have e1:((i:Int)<(T.length:Int))=True:=eq_true (by omega);have d0:decide ((0:Int)=0)=true:=rfl;obtain ⟨a,q,b,he,q1,q2⟩:=hM.find (List.getElem_mem hlt);have hnM:=hn.qn hu;obtain ⟨pk,y1,y2⟩:=HA hnM (show (T.map (·.1))[i]? = some q.nm by rw [List.getElem?_map,List.getElem?_eq_getElem hlt,q1]; rfl);have hrow:=h.va.row _ (List.getElem_mem hlt);have hfew:=h.va.few _ (List.getElem_mem hlt);have hrt:=(we (h.va.right _ (List.getElem_mem hlt))).2;rw [<- q2] at hrow hfew;rw [<- q1] at hrt;have hsc:W (Call S tab 14 [x.v,str q.nm,.string ⟨#[]⟩,.string ⟨#[]⟩] M) _:=qez hM he [] [];rw [P10_0_eq];simp only [st0,e1,y1,y2 M hnM];refine qh.2 (hsc.mono λr1 m1 ⟨w,e,tw,wb,u1⟩=>?_);subst e;rw [Hn] at tw;have x1:=u1.next;have hx:=hu.next;have tl:=qbP h.va i;rw [ltI] at tl;have hkl:(UInt8.ofNat T.length::((T.take i).map kY).flatten).length<=70000000:=by rw [lnI]; omega
  simp only [st0,xt0,xt1,d0];refine (yF q.nm (hv.qn u1) (by omega) (by omega)).bind λv2 m2 w2=>?_
  have hvlt:=hv.lt;have twd:∀ c∈qc w,c∉qc v:=λc hc hm=>by have:=wb c hc; have:=hvlt c hm; omega
  have rw1:RSl 0 qK m1 w q.l:=tw.rsl λ_ _=>Nat.zero_le _
  have rw2:=w2.sl rw1 twd;have l2:=zf rw2;simp only [st0,l2,vu .i64 q.l.length (by omega)];have hkl2:((UInt8.ofNat T.length::((T.take i).map kY).flatten)++zD q.nm).length<=80000000:=by rw [laI]; simp [zD] at hkl ⊢; omega
  refine (qaU q.l.length w2.ap (by omega)).bind λv3 m3 w3=>?_
  have w23:=w2.trans w3;have rw3:=w23.sl rw1 twd;have l3:=zf rw3;simp only [st0,l3];have hkl3:(((UInt8.ofNat T.length::((T.take i).map kY).flatten)++zD q.nm)++xI q.l.length).length<=90000000:=by rw [laI]; simp [xI] at hkl2 ⊢; omega
  have w13:Gw M v m3 v3 _:=w23.ahead u1;have v3b:∀ c∈qc v3,m.next<=c:=λc hc=>(w13.own c hc).elim (hvb c) λh=>by omega
  have u3:Upd [] m m3:=hu.then' w13.upd λc hc=>.inr (hvb c hc)
  refine qgp (m0:=m) (k0:=((UInt8.ofNat T.length::((T.take i).map kY).flatten)++zD q.nm)++xI q.l.length) hrow hfew (by omega) (λm4 v4 t4 b4 u4=>?_) _ 0 m3 v3 rfl (Nat.zero_le _) rw3 (λc hc hm=>?_) (by rw [List.take_zero]; show TAp _ _ _ _ (_++[]); rw [List.append_nil]; exact w13.ap) v3b u3
  ·simp only [st0,qB (i:=i) (by omega)];refine ih (i+1) m4 v4 (by omega) hlt ?_ b4 u4;have e:(((UInt8.ofNat T.length::((T.take i).map kY).flatten)++zD q.nm)++xI q.l.length)++pB q.l=UInt8.ofNat T.length::((T.take (i+1)).map kY).flatten:=by
    rw [tsI hlt];have e:kY T[i]=zD q.nm++(xI q.l.length++pB q.l):=by rw [q1,q2]; rfl
    simp only [List.map_append,List.flatten_append,List.map_cons,List.map_nil,List.flatten_cons,List.flatten_nil,List.append_nil,e,aaI,List.cons_append]
   rw [e] at t4; exact t4
  ·rcases w23.own c hm with h4|h4
   ·exact twd c hc h4
   ·have:=tw.lt c hc; omega
theorem yT (h:TR x T m):W (Call S tab 10 [x.v] m) λr m'=>r=.tuple #[str (ZT T),.int .i64 0]/\Upd [] m m':=by
 have d0:decide ((0:Int)=0)=true:=rfl;rw [C10];refine qh.2 ((WS h).mono λr1 m1 ⟨e,u1⟩=>?_);subst e;simp only [st0,d0];refine qh.2 ((Zy (h.qn u1)).mono λnv m2 ⟨tn,nb,u2⟩=>?_);have ln:=tn.tsl.len;rw [List.length_map] at ln;simp only [st0,ln,vm,WH];have u3:Upd [] m2 (m2.add ⟨.cells (xx.flat [UInt8.ofNat T.length]) 5,false,none⟩):=Upd.add _ _ _;have tv:TAp xx 5 (m2.add ⟨.cells (xx.flat [UInt8.ofNat T.length]) 5,false,none⟩) (.slice (some ⟨m2.next,0,none⟩) 1 1) [UInt8.ofNat T.length]:=TAp.fresh m2 [UInt8.ofNat T.length];have u02:=u1.qu u2;have x2:=u02.next;have h2:=h.qn u02;refine (qig h2 (lo:=0) (tn.rsl λ_ _=>Nat.zero_le _) T.length 0 _ _ (by omega) (Nat.zero_le _) (by simpa using tv) (λb hb=>by simp [qc] at hb; omega) u3).mono λr m' ⟨h1,h2⟩=>⟨h1,u02.qu h2⟩
end
end Go.Fx.Tryz
namespace Go.Fx.Tryz
open Go Go.Fx
abbrev rdE (rest:Bs) (e:Int):ABlk:=⟨.cells [str rest,.int .i64 e] 134,false,none⟩
def qei (b:Nat) (m:Mem):Prop:=∃ q e,e≠0/\m.get b=some (rdE q e)
section
variable {m:Mem} {b:Nat} {rest:Bs}
theorem qhJ {q:Bs} {e:Int} (h:m.get b=some (rdE q e)):qa (.pointer (some ⟨b,0+1,none⟩)) m=some (.int .i64 e):=qm h rfl
theorem qjs {q:Bs} {e:Int} (h:m.get b=some (rdE q e)) (he:e≠0) (k:Value):Call S tab 111 [.pointer (some ⟨b,0,none⟩),k] m=some (.tuple #[.string ⟨#[]⟩,.bool false],m):=by
 refine W_eq ?_;have d:decide (e=0)=false:=decide_eq_false he;rw [qku];simp only [st0,vJ,nck,fa,qhJ h,d];exact ⟨trivial,trivial⟩
theorem vL (h:m.get b=some (rdB rest)) {k:Nat} (hk:rest.length<k):Call S tab 111 [.pointer (some ⟨b,0,none⟩),.int .i64 (k:Int)] m=some (.tuple #[.string ⟨#[]⟩,.bool false],m.put b (rdE rest 2)):=by
 refine W_eq ?_;have e1:((rest.length:Int)<(k:Int))=True:=eq_true (by omega);have e2:qj 1 (.pointer (some ⟨b,0+1,none⟩)) (.int .i64 2) m=some (m.put b (rdE rest 2)):=zF h (by simp) rfl rfl;rw [qku];simp only [st0,vJ,nck,fa,rd0 h,rd1 h,qaX,qZ,e1,e2];exact ⟨trivial,trivial⟩
theorem qkE (h:qei b m) (k:Value):Call S tab 104 [.pointer (some ⟨b,0,none⟩),k] m=some (str [],m):=by
 obtain ⟨q,e,he,h⟩:=h;refine W_eq ?_;have d:decide (e=0)=false:=decide_eq_false he;rw [qkv];simp only [st0,vJ,nck,fa,qhJ h,d];exact ⟨trivial,trivial⟩
theorem Hk {q:Bs} {e:Int} (h:m.get b=some (rdE q e)):Call S tab 107 [.pointer (some ⟨b,0,none⟩)] m=some (.int .i64 e,m):=by
 refine W_eq ?_;rw [qlq];simp only [st0,vJ,nck,fa,qhJ h];exact ⟨trivial,trivial⟩
theorem qhh (k:Nat) (h1:1<=k) (h2:k<=8) (m:Mem):Call S tab 65 [.int .i64 (k:Int)] m=some (.int .i64 (k:Int),m):=by
 refine W_eq ?_;rw [C65];have h1:((1:Int) > (k:Int))=False:=eq_false (by omega);have h8:((8:Int)<(k:Int))=False:=eq_false (by omega);simp only [st0,h1,h8];exact ⟨trivial,trivial⟩
theorem ZI {k:Nat} {m1:Mem} (h1:1<=k) (h2:k<=8) (ht:Call S tab 111 [.pointer (some ⟨b,0,none⟩),.int .i64 (k:Int)] m=some (.tuple #[.string ⟨#[]⟩,.bool false],m1)) :
  W (Call S tab 61 [.pointer (some ⟨b,0,none⟩),.int .i64 (k:Int)] m) λr m'=>r=.int .u64 0/\Upd [] m1 m':=by
 have hs:Qe 5 (.string ⟨#[]⟩) m1=some (.slice (some ⟨m1.next,0,none⟩) 0 0,m1.add ⟨.cells (xx.flat []) 5,false,some 1⟩):=qbT [] m1;have hl:qd (.slice (some ⟨m1.next,0,none⟩) 0 0)=some (.int .i64 0):=rfl;have h0:((0:Int)<0)=False:=eq_false (by omega);rw [C61,qhh k h1 h2];simp only [st0,ht,xt0,xt1,hs,hl];rw [P61_0_eq];simp only [st0,h0];exact ⟨trivial,Upd.add _ _ _⟩
theorem qkF (h:qei b m) {k:Nat} (h1:1<=k) (h2:k<=8):W (Call S tab 61 [.pointer (some ⟨b,0,none⟩),.int .i64 (k:Int)] m) λr m'=>r=.int .u64 0/\Upd [] m m':=by
 obtain ⟨q,e,he,h⟩:=h;exact ZI h1 h2 (qjs h he _)
theorem qeQ (h:m.get b=some (rdB rest)) (hb:b<m.next) (hr:rest.length<2 ^ 62):W (Call S tab 104 [.pointer (some ⟨b,0,none⟩),.int .i64 255] m) λv m'=>Upd [b] m m' /\
  ((∃ s r,rdS rest=some (s,r)/\v=str s/\m'.get b=some (rdB r))∨(rdS rest=none/\v=str []/\qei b m')):=by
 cases hs:rdS rest with
 | some p =>
  obtain ⟨s,r⟩:=p;obtain ⟨h1,rfl⟩:=yE hs;exact (XH (most:=255) h hb h1 (Nat.le_refl _) hr).mono λv m' ⟨k1,k2,k3⟩=>⟨k3,.inl ⟨s,r,rfl,k1,k2⟩⟩
 | none =>
  refine W.mono (Q:=λv m'=>v=str []/\qei b m'/\Upd [b] m m') ?_ λv m' ⟨k1,k2,k3⟩=>⟨k3,.inr ⟨rfl,k1,k2⟩⟩
  rw [qkv];cases rest with
  | nil =>
   have ht:Call S tab 111 [.pointer (some ⟨b,0,none⟩),.int .i64 1] m=_:=vL h (k:=1) (by simp);simp only [st0,vJ,nck,fa,rd0 h,rd1 h,qaX,ht,xt0,xt1];exact ⟨trivial,⟨_,2,by omega,Mem.qe ..⟩,Upd.put _ _ (by simp)⟩
  | cons c r =>
   have hc:r.length<c.toNat:=by
    simp only [rdS] at hs;split at hs
    ·cases hs
    ·omega
   have hcl:=c.toNat_lt;have t1:=ye h (k:=1) (by simp) hr;have t1:Call S tab 111 [.pointer (some ⟨b,0,none⟩),.int .i64 1] m=some (.tuple #[str [c],.bool true],m.put b (rdB r)):=t1;have e3:zm (str [c]) (.int .i64 0)=some (.int .u8 (c.toNat:Int)):=yN (i:=0) rfl;have e4:zn .i64 (.int .u8 (c.toNat:Int))=some (.int .i64 (c.toNat:Int)):=by rw [Zo .u8 (by omega) (by omega)]
   have e5:((255:Int)<(c.toNat:Int))=False:=eq_false (by omega);have g1:(m.put b (rdB r)).get b=some (rdB r):=Mem.qe ..;have u1:Upd [b] m (m.put b (rdB r)):=Upd.put _ _ (by simp);have t2:=vL g1 hc;have g2:((m.put b (rdB r)).put b (rdE r 2)).get b=some (rdE r 2):=Mem.qe ..;have e6:qj 1 (.pointer (some ⟨b,0+0,none⟩)) (str (c::r)) ((m.put b (rdB r)).put b (rdE r 2))=some (((m.put b (rdB r)).put b (rdE r 2)).put b (rdE (c::r) 2)):=zF g2 (by simp) rfl rfl;simp only [st0,vJ,nck,fa,rd0 h,rd1 h,qaX,t1,xt0,xt1,e3,e4,e5,t2,e6];exact ⟨trivial,⟨_,2,by omega,Mem.qe ..⟩,(u1.trans (Upd.put _ _ (by simp))).trans (Upd.put _ _ (by simp))⟩
theorem qju (h:m.get b=some (rdB rest)) (hb:b<m.next) (hr:rest.length<2 ^ 62):W (Call S tab 61 [.pointer (some ⟨b,0,none⟩),.int .i64 2] m) λv m'=>Upd [b] m m' /\
  ((∃ n r,rd2 rest=some (n,r)/\v=.int .u64 (n:Int)/\m'.get b=some (rdB r))∨(rd2 rest=none/\v=.int .u64 0/\qei b m')):=by
 cases hs:rd2 rest with
 | some p =>
  obtain ⟨n,r⟩:=p;obtain ⟨h1,rfl⟩:=XJ hs;exact (JG h1 h hb hr).mono λv m' ⟨k1,k2,k3⟩=>⟨k3,.inl ⟨n,r,rfl,k1,k2⟩⟩
 | none =>
  have hl:rest.length<2:=by
   match rest,hs with
   | [],_=>simp
   | [_],_=>simp
   | _::_::_,hs=>cases hs
  refine (ZI (k:=2) (by omega) (by omega) (vL h hl)).mono λv m' ⟨k1,k2⟩=>⟨(Upd.put _ _ (by simp)).qu k2,.inr ⟨rfl,k1,rest,2,by omega,qq k2 (by show b<m.next; exact hb) (Mem.qe ..)⟩⟩
theorem qjv (h:m.get b=some (rdB rest)) (hb:b<m.next) (hr:rest.length<2 ^ 62):W (Call S tab 61 [.pointer (some ⟨b,0,none⟩),.int .i64 1] m) λv m'=>Upd [b] m m' /\
  ((∃ c r,rest=c::r/\v=.int .u64 (c.toNat:Int)/\m'.get b=some (rdB r))∨(rest=[]/\v=.int .u64 0/\qei b m')):=by
 cases rest with
 | cons c r=>exact (wa h hb hr).mono λv m' ⟨k1,k2,k3⟩=>⟨k3,.inl ⟨c,r,rfl,k1,k2⟩⟩
 | nil =>
  refine (ZI (k:=1) (by omega) (by omega) (vL h (by simp))).mono λv m' ⟨k1,k2⟩=>⟨(Upd.put _ _ (by simp)).qu k2,.inr ⟨rfl,k1,[],2,by omega,qq k2 (by show b<m.next; exact hb) (Mem.qe ..)⟩⟩
theorem qeT (h:m.get b=some (rdB rest)):Call S tab 63 [.pointer (some ⟨b,0,none⟩)] m=some (.int .i64 (if rest=[] then 0 else 5),m):=by
 refine W_eq ?_;have nn:qU .ptr true (.pointer (some ⟨b,0,none⟩)) (.pointer none)=some (.bool true):=rfl;have eq0:arith .neq (str rest) (.string ⟨#[]⟩)=some (.bool (decide (¬ rest=[]))):=QS rest [];rw [C63];by_cases hc:rest=[]
 ·have d:decide (¬ rest=[])=false:=decide_eq_false (λh=>h hc);simp only [st0,nn,nck,fa,rd0 h,rd1 h,qaX,eq0,d,QJ h];rw [if_pos hc];exact ⟨rfl,trivial⟩
 ·have d:decide (¬ rest=[])=true:=decide_eq_true hc;simp only [st0,nn,nck,fa,rd0 h,rd1 h,qaX,eq0,d];rw [if_neg hc];exact ⟨rfl,trivial⟩
theorem qjw {q:Bs} {e:Int} (h:m.get b=some (rdE q e)) (he:e≠0):Call S tab 63 [.pointer (some ⟨b,0,none⟩)] m=some (.int .i64 e,m):=by
 refine W_eq ?_;have nn:qU .ptr true (.pointer (some ⟨b,0,none⟩)) (.pointer none)=some (.bool true):=rfl;have d:decide (e=0)=false:=decide_eq_false he;rw [C63];simp only [st0,nn,nck,fa,qhJ h,d,Hk h];exact ⟨trivial,trivial⟩
theorem XQ (e:Int) (m:Mem):Call S tab 112 [.int .i64 e] m=some (.int .i64 (if e=1∨e=11∨e=3 then 10 else e),m):=by
 refine W_eq ?_;rw [qmI];by_cases c1:e=1
 ·have d:decide (e=1)=true:=decide_eq_true c1;simp only [st0,d];rw [P112_0_eq,if_pos (.inl c1)];exact zv.2 ⟨rfl,rfl⟩
 ·have d:decide (e=1)=false:=decide_eq_false c1;by_cases c2:e=11
  ·have d2:decide (e=11)=true:=decide_eq_true c2;simp only [st0,d,d2];rw [P112_0_eq,if_pos (.inr (.inl c2))];exact zv.2 ⟨rfl,rfl⟩
  ·have d2:decide (e=11)=false:=decide_eq_false c2;by_cases c3:e=3
   ·have d3:decide (e=3)=true:=decide_eq_true c3;simp only [st0,d,d2,d3];rw [P112_0_eq,if_pos (.inr (.inr c3))];exact zv.2 ⟨rfl,rfl⟩
   ·have d3:decide (e=3)=false:=decide_eq_false c3;simp only [st0,d,d2,d3];rw [P112_0_eq,if_neg (by omega)];exact zv.2 ⟨rfl,rfl⟩
end
end Go.Fx.Tryz
namespace Go.Fx.Tryz
open Go Go.Fx
def tot (T:List Tb):Nat:=(T.map λt=>t.2.length).sum
theorem jY (A B:List Tb):tot (A++B)=tot A+tot B:=by unfold tot; rw [List.map_append,List.sum_append]
theorem yy (nm:Bs) (l:List Pr):tot [(nm,l)]=l.length:=by simp [tot]
theorem TR.tot {x:To} {T:List Tb} {m:Mem} (h:TR x T m):tot T<=20400:=by
 have h1:x.xS.length<=159:=by
  have hP:=h.wi.wr.hP;have:=yH x.xS ((List.range 160).erase 0) h.nd (λq hq=>by
   obtain ⟨t,ht,hqt⟩:=List.mem_flatMap.1 hq;have:=xT (Fu.some ((h.tr t ht).used q hqt));rw [List.mem_erase_of_ne (by omega)];exact List.mem_range.2 (by omega))
  rwa [List.length_erase_of_mem (by simp),List.length_range] at this
 have h2:Tryz.tot T=(x.ts.map λt=>t.l.length).sum:=by
  unfold Tryz.tot;have:=(h.mo.perm.map λt:Tb=>t.2.length).sum_nat;rw [<- this,List.map_map]; rfl
 have h3:∀ ts:List Tab1,(∀ t∈ts,t.l.length<=127 * t.U.length)->(ts.map λt=>t.l.length).sum<=127 * (ts.flatMap (·.U)).length:=by
  intro ts
  induction ts with
  | nil=>intro _; simp
  | cons t ts ih =>
   intro hk;have a:=hk t (by simp);have b:=ih λq hq=>hk q (by simp [hq])
   rw [List.map_cons,List.sum_cons,List.flatMap_cons,laI];omega
 have h4:=h3 x.ts λt ht=>by
  rcases h.tr t ht with ⟨_,e1,e2⟩|⟨g,k⟩
  ·rw [e1]; simp
  ·exact XT x.o.s g t.root [] none t.l t.U k
 unfold To.xS at h1;omega
theorem TR.qfd {x:To} {T:List Tb} {m:Mem} (h:TR x T m):x.xS.length<=2 * Tryz.tot T:=by
 have h2:Tryz.tot T=(x.ts.map λt=>t.l.length).sum:=by
  unfold Tryz.tot;have:=(h.mo.perm.map λt:Tb=>t.2.length).sum_nat;rw [<- this,List.map_map]; rfl
 have h3:∀ ts:List Tab1,(∀ t∈ts,t.U.length<=2 * t.l.length)->(ts.flatMap (·.U)).length<=2 * (ts.map λt=>t.l.length).sum:=by
  intro ts
  induction ts with
  | nil=>intro _; simp
  | cons t ts ih =>
   intro hk;have a:=hk t (by simp);have b:=ih λq hq=>hk q (by simp [hq])
   rw [List.map_cons,List.sum_cons,List.flatMap_cons,laI];omega
 have h4:=h3 x.ts λt ht=>by
  rcases h.tr t ht with ⟨_,e1,e2⟩|⟨g,k⟩
  ·rw [e2]; simp
  ·have:=(WY x.o.s g t.root [] none t.l t.U k).2.2; omega
 unfold To.xS;omega
theorem TR.full {x:To} {T:List Tb} {m:Mem} (h:TR x T m) (hall:∀ n,1<=n->n<x.o.P->jn x.o.u n=true):x.o.P<=1+x.xS.length:=by
 have:=yH ((List.range x.o.P).erase 0) x.xS (List.Nodup.erase 0 List.nodup_range) (λq hq=>by
  have h0:q≠0:=λe=>by rw [e] at hq; exact (List.Nodup.not_mem_erase List.nodup_range) hq
  have hq2:=List.mem_range.1 (List.mem_of_mem_erase hq);refine h.own q λhn=>?_
  have hf:=h.wi.fu q;rw [hn] at hf;unfold Wo.has at hf;rw [hall q (by omega) hq2,decide_eq_true (show 1<=q by omega),decide_eq_true hq2] at hf;cases hf)
 rcases Nat.eq_zero_or_pos x.o.P with h0|h0
 ·omega
 ·rw [List.length_erase_of_mem (List.mem_range.2 h0),List.length_range] at this; omega
structure Rx (dr rb:Nat) (x:To) (m:Mem):Prop where
 gd:m.get dr=some ⟨.cells [.pointer (some ⟨rb,0,none⟩),.pointer (some ⟨x.t,0,none⟩)] 73,false,none⟩
 lt:dr<m.next/\rb<m.next
 ne:dr≠rb
 nd:dr∉x.fp/\dr≠x.o.c/\dr≠x.o.p/\dr∉qc x.nb
 nr:rb∉x.fp/\rb≠x.o.c/\rb≠x.o.p/\rb∉qc x.nb
structure Tm (rb:Nat) (x x':To) (m m':Mem):Prop where
 t:x'.t=x.t
 nb:x'.nb=x.nb
 nts:x'.nts=x.nts
 c:x'.o.c=x.o.c
 p:x'.o.p=x.o.p
 P:x'.o.P=x.o.P
 upd:Upd (rb::x.fp) m m'
 grow:∀ b∈x'.fp,b∈x.fp∨m.next<=b
 pre:x.ns <+: x'.ns
section
variable {rb dr:Nat} {x x' x'':To} {m m' m'':Mem} {T T':List Tb}
theorem Tm.Wv (h:Tn x x' m m'):Tm rb x x' m m':=⟨h.t,h.nb,h.nts,h.c,h.p,h.P,h.upd.mono λb hb _=>lcI.2 (.inr hb),λb hb=>by
 simp only [To.fp,lcI,h.t,h.tm] at hb ⊢;rcases hb with hb|hb|hb
 ·exact .inl (.inl hb)
 ·exact .inl (.inr (.inl hb))
 ·exact (h.grow b hb).imp (λh=>.inr (.inr h)) id,h.gr.pre⟩
theorem Tm.rd (u:Upd [rb] m m'):Tm rb x x m m':=⟨rfl,rfl,rfl,rfl,rfl,rfl,u.mono λb hb _=>by simp at hb; simp [hb],λb hb=>.inl hb,List.prefix_refl _⟩
theorem Tm.of0 (u:Upd [] m m'):Tm rb x x m m':=Tm.rd u.nil'
theorem Tm.trans (h:Tm rb x x' m m') (k:Tm rb x' x'' m' m''):Tm rb x x'' m m'' :=
 ⟨k.t.trans h.t,k.nb.trans h.nb,k.nts.trans h.nts,k.c.trans h.c,k.p.trans h.p,k.P.trans h.P,h.upd.then' k.upd (λb hb=>by
  rcases lcI.1 hb with e|hb
  ·exact .inl (lcI.2 (.inl e))
  ·exact (h.grow b hb).imp (λh=>lcI.2 (.inr h)) id),λb hb=>(k.grow b hb).elim (h.grow b) λhb=>.inr (Nat.le_trans h.upd.next hb),h.pre.trans k.pre⟩
theorem TR.qjk {fp:List Nat} (h:TR x T m) (u:Upd fp m m') (hf:∀ b∈fp,b∉x.fp/\b≠x.o.c/\b≠x.o.p/\b∉qc x.nb):TR x T m':=by
 have hx:=u.next;have hl:=h.lt;have k:∀ b,b∈x.fp->b∉fp:=λb hb hm=>(hf b hm).1 hb
 refine ⟨(u.same _ hl.1 (k _ (by simp [To.fp]))).trans h.tx,(u.same _ hl.2 (k _ (by simp [To.fp]))).trans h.tg,h.wi.upd u λb hb=>⟨λhm=>(hf b hb).1 (by simp [To.fp,hm]),(hf b hb).2.1,(hf b hb).2.2.1⟩,h.nb.upd u λb hb hm=>(hf b hm).2.2.2 hb,h.mo,h.va,h.bo,h.tr,h.nd,h.own,⟨by omega,by omega⟩,h.ne,h.nn⟩
theorem Rx.next (h:Rx dr rb x m) (k:Tm rb x x' m m'):Rx dr rb x' m':=by
 have hx:=k.upd.next;have hl:=h.lt;have kp:∀ b,b<m.next->b∉x.fp->b∉x'.fp:=λb h1 h2 h3=>(k.grow b h3).elim h2 λh=>by omega
 refine ⟨?_,⟨by omega,by omega⟩,h.ne,⟨kp _ hl.1 h.nd.1,by rw [k.c]; exact h.nd.2.1,by rw [k.p]; exact h.nd.2.2.1,by rw [k.nb]; exact h.nd.2.2.2⟩,⟨kp _ hl.2 h.nr.1,by rw [k.c]; exact h.nr.2.1,by rw [k.p]; exact h.nr.2.2.1,by rw [k.nb]; exact h.nr.2.2.2⟩⟩;rw [k.t];exact (k.upd.same _ hl.1 (by simp only [lcI,not_or]; exact ⟨h.ne,h.nd.1⟩)).trans h.gd
theorem Rx.ld (h:Rx dr rb x m):qa (.pointer (some ⟨dr,0+0,none⟩)) m=some (.pointer (some ⟨rb,0,none⟩))/\qa (.pointer (some ⟨dr,0+1,none⟩)) m=some x.v:=⟨qm h.gd rfl,qm h.gd rfl⟩
theorem Rx.tr (h:Rx dr rb x m) (ht:TR x T m) (u:Upd [rb] m m'):TR x T m':=ht.qjk u λb hb=>by simp at hb; subst hb; exact h.nr
end
theorem qeX {l:List Pr} {k v:Bs} (h:∀ p∈l,ltB p.1 k=true):xO l k v=l++[(k,v)]:=by
 have ha:za l k=l.length:=by
  unfold za;rw [List.filter_eq_self.2 h]
 have ht:zb l k=false:=by unfold zb; rw [ha,List.getElem?_eq_none (Nat.le_refl _)]
 rw [JO,ht,ha];simp
theorem qeG {T:List Tb} {nm:Bs} {l k:List Pr} (h:∀ t∈T,t.1≠nm):vI (T++[(nm,l)]) nm k=T++[(nm,k)]:=by
 unfold vI;rw [List.map_append,List.map_cons,List.map_nil,if_pos rfl];congr 1;exact (List.map_congr_left λt ht=>by rw [if_neg (h t ht)]; rfl).trans (List.map_id _)
theorem qfr {T:List Tb} {nm:Bs} (h:∀ t∈T,ltB t.1 nm=true):wo T nm=T++[(nm,[])]:=by
 induction T with
 | nil=>rfl
 | cons t T ih =>
  unfold wo;rw [if_pos (h t (by simp)),ih λq hq=>h q (by simp [hq])];rfl
theorem Hm {b s r:Bs} (h:rdS b=some (s,r)):r.length+s.length+1<=b.length:=by
 obtain ⟨_,rfl⟩:=yE h;simp [zD]; omega
theorem XI {b s r:Bs} (h:rdS b=some (s,r)):r.length<=b.length:=by
 obtain ⟨_,rfl⟩:=yE h;simp [zD]; omega
theorem qcb {b r:Bs} {n:Nat} (h:rd2 b=some (n,r)):r.length<=b.length:=by
 obtain ⟨_,rfl⟩:=XJ h;simp [xI]; omega
theorem qgs:∀ (n:Nat) (key b r:Bs) (l:List Pr),wQ n key b=some (l,r)->r.length<=b.length:=λn key b r l h=>by
 obtain ⟨_,h2,_⟩:=Ki n key b r l h;rw [h2,laI]; omega
theorem qaZ {a k:Bs} (h:ltB a k=true):k≠[]:=λe=>by
 rw [e] at h;exact List.not_lt_nil _ (yJ.1 h)
theorem qey {i:Nat} (h:i<2 ^ 62):arith .add (.int .u64 (i:Int)) (.int .u64 1)=some (.int .u64 ((i+1:Nat):Int)):=XY h
theorem qhF {dr rb N cnt B:Nat} {T0:List Tb} {nm:Bs} (hN:N<=60000) (hcnt:cnt<=65535) (hT0:∀ t∈T0,t.1≠nm):∀ (n i:Nat) (x:To) (l0:List Pr) (key rest:Bs) (m:Mem),i+n=cnt->TR x (T0++[(nm,l0)]) m->Rx dr rb x m->m.get rb=some (rdB rest)->rest.length<2 ^ 62->(∀ p∈l0,ltB key p.1=false)->x.ns.length<=N+tot (T0++[(nm,l0)])->3 * tot (T0++[(nm,l0)])+rest.length<=B ->
  W (qcH (.pointer (some ⟨dr,0,none⟩)) (str nm) (str key) (.int .u64 (cnt:Int)) (.int .u64 (i:Int)) m) λr m'=>∃ x' T',TR x' T' m'/\Rx dr rb x' m'/\Tm rb x x' m m' /\
   ((∃ l r',wQ n key rest=some (l,r')/\r=.tuple #[str nm,.int .i64 0]/\T'=T0++[(nm,l0++l)]/\m'.get rb=some (rdB r')/\x'.ns.length<=N+tot T'/\3 * tot T'+r'.length<=B)∨(r=.tuple #[.string ⟨#[]⟩,.int .i64 8]/\(12<=B∨3 * x.o.P<=2 * B))∨(wQ n key rest=none/\r=.tuple #[.string ⟨#[]⟩,.int .i64 10])):=by
 intro n
 induction n with
 | zero =>
  intro i x l0 key rest m hi htr hrx hrd hrl hkey hns hB;obtain rfl:i=cnt:=by omega
  rw [P62_0_eq];simp only [st0,Int.lt_irrefl];exact ⟨x,_,htr,hrx,Tm.of0 (Upd.refl _ _),.inl ⟨[],rest,rfl,trivial,by rw [List.append_nil],hrd,hns,hB⟩⟩
 | succ n ih =>
  intro i x l0 key rest m hi htr hrx hrd hrl hkey hns hB;have e1:((i:Int)<(cnt:Int))=True:=eq_true (by omega);have d0:decide ((0:Int)=0)=true:=rfl;have hlt:=hrx.lt;rw [P62_0_eq];simp only [st0,e1,nck,fa,hrx.ld.1];refine qh.2 ((qeQ hrd hlt.2 hrl).mono λv1 m1 ⟨u1,h1⟩=>?_);have hx1:=u1.next;have rx1:=hrx.next (Tm.rd u1);have tr1:=hrx.tr htr u1;simp only [st0,nck,fa,rx1.ld.1];have ckr:∀ m2:Mem,Rx dr rb x m2->∀ r∈[((Req.load1 (.pointer (some ⟨dr,0+0,none⟩)),.pointer (some ⟨rb,0,none⟩),0,0):Rq),(.load1 (.pointer (some ⟨dr,0+0,none⟩)),.pointer (some ⟨rb,0,none⟩),0,1)],wU [m,m1,m2] r=true:=λm2 rx2 r hr=>by
   simp only [lcI,nmI,or_false] at hr;have al:∀ M∈[m,m1,m2],qa (.pointer (some ⟨dr,0+0,none⟩)) M=some (.pointer (some ⟨rb,0,none⟩)):=λM hM=>by
    simp only [lcI,nmI,or_false] at hM;rcases hM with rfl|rfl|rfl
    ·exact hrx.ld.1
    ·exact rx1.ld.1
    ·exact rx2.ld.1
   rcases hr with rfl|rfl
   ·exact okL al (by simp)
   ·exact okL al (by simp)
  rcases h1 with ⟨k,r1,k1,rfl,k3⟩|⟨k1,rfl,k3⟩
  rotate_left
  ·-- no key
   have ck:=ckr m1 rx1;obtain ⟨q,e,he,hq⟩:=k3;have de:decide (e=0)=false:=decide_eq_false he;simp only [st0,qkE ⟨q,e,he,hq⟩];refine jC ck ?_;simp only [st0,nck,fa,rx1.ld.1,Hk hq,de];exact ⟨x,_,tr1,rx1,Tm.rd u1,.inr (.inr ⟨by simp only [wQ,k1]; rfl,trivial⟩)⟩
  have hr1:=XI k1;refine qh.2 ((qeQ k3 (by omega) (by omega)).mono λv2 m2 ⟨u2,h2⟩=>?_);have hx2:=u2.next;have u02:=u1.trans u2;have rx2:=rx1.next (Tm.rd u2);have tr2:=rx1.tr tr1 u2;refine jC (ckr m2 rx2) ?_;rcases h2 with ⟨v,r2,j1,rfl,j3⟩|⟨j1,rfl,j3⟩
  rotate_left
  ·-- no value
   obtain ⟨q,e,he,hq⟩:=j3;have de:decide (e=0)=false:=decide_eq_false he;simp only [st0,nck,fa,rx2.ld.1,Hk hq,de];exact ⟨x,_,tr2,rx2,Tm.rd u02,.inr (.inr ⟨by simp only [wQ,k1,bmI,j1]; rfl,trivial⟩)⟩
  have hr2:=XI j1;have hr1':=Hm k1;have hr2':=Hm j1;simp only [st0,nck,fa,rx2.ld.1,QJ j3,d0,QX];cases hkk:ltB key k with
  | false =>
   simp only [st0];exact ⟨x,_,tr2,rx2,Tm.rd u02,.inr (.inr ⟨by simp only [wQ,k1,bmI,j1,hkk,Bool.false_and,Bool.false_eq_true,if_false],trivial⟩)⟩
  | true =>
   simp only [st0,nck,fa,rx2.ld.2];have htot:=tr2.tot;obtain ⟨a,q,b,he,q1,q2⟩:=tr2.find (t:=(nm,l0)) (by simp);have q1:q.nm=nm:=q1;have q2:q.l=l0:=q2;subst q1 q2;refine qh.2 ((VQ tr2 (by omega) he k v).mono λr3 m3 hq3=>?_);have hkk':k≠[]:=qaZ hkk;have d8:decide ((8:Int)=0)=false:=rfl;have d1:decide ((1:Int)=0)=false:=rfl;rcases hq3 with ⟨x',tr3,tn3,_,⟨n1,rfl⟩|⟨n1,n2,rfl⟩⟩|⟨n1,rfl,x',rt,U,tr3,tn3,_⟩
   ·have hd:wQ (n+1) key rest=none:=by
     simp only [wQ,k1,bmI,j1,hkk,Bool.true_and];rw [if_neg];intro hc;simp only [baI,decide_eq_true_eq] at hc;exact n1 ⟨⟨hkk',hc.1⟩,hc.2⟩
    simp only [st0,d1,XQ,true_or];exact ⟨x',_,tr3,rx2.next (Tm.Wv tn3),(Tm.rd u02).trans (Tm.Wv tn3),.inr (.inr ⟨hd,trivial⟩)⟩
   ·have e8:(if (8:Int)=1∨(8:Int)=11∨(8:Int)=3 then (10:Int) else 8)=8:=rfl
    simp only [st0,d8,XQ,e8];refine ⟨x',_,tr3,rx2.next (Tm.Wv tn3),(Tm.rd u02).trans (Tm.Wv tn3),.inr (.inl ⟨trivial,?_⟩)⟩;rw [jY,yy] at hB;rcases n2 with ⟨_,n2⟩|⟨_,n2⟩
    ·right;have hp:=tr2.qfd;have hf:=tr2.full n2;rw [jY,yy] at hp;omega
    ·left;have hk0:=List.length_pos_iff.2 hkk';have:=Qk q.l k v;split at this<;>omega
   ·have hall:∀ p∈q.l,ltB p.1 k=true:=λp hp=>jR (hkey p hp) hkk
    have hpl:=qeX (v:=v) hall;rw [hpl,qeG hT0] at tr3;have rx3:=rx2.next (Tm.Wv tn3);have rd3:m3.get rb=some (rdB r2):=(tn3.upd.same rb rx2.lt.2 rx2.nr.1).trans j3;have hns3:x'.ns.length<=N+tot (T0++[(q.nm,q.l++[(k,v)])]):=by
     have:=tn3.gr.len;rw [jY,yy] at hns ⊢;rw [laI,List.length_singleton];omega
    simp only [st0,d0,qey (i:=i) (by omega)];refine (ih (i+1) x' (q.l++[(k,v)]) k r2 m3 (by omega) tr3 rx3 rd3 (by omega) (λp hp=>?_) hns3 ?_).mono λr m' ⟨x'',T',z1,z2,z3,z4⟩=>?_
    ·rcases List.mem_append.1 hp with hp|hp
     ·exact zU (hall p hp)
     ·simp at hp; subst hp; exact jI _
    ·have hk0:=List.length_pos_iff.2 hkk';rw [jY,yy] at hB ⊢;rw [laI,List.length_singleton];omega
    ·have hde:wQ (n+1) key rest=(wQ n k r2).map λp=>((k,v)::p.1,p.2):=by
      simp only [wQ,k1,bmI,j1,hkk,Bool.true_and];rw [if_pos];simp only [baI,decide_eq_true_eq];exact ⟨n1.1.2,n1.2⟩
     refine ⟨x'',T',z1,z2,((Tm.rd u02).trans (Tm.Wv tn3)).trans z3,?_⟩;rw [hde];rcases z4 with ⟨l,r',y1,y2,y3,y4,y5⟩|y|⟨y1,y2⟩
     ·exact .inl ⟨(k,v)::l,r',by rw [y1]; rfl,y2,by rw [y3,aaI]; rfl,y4,y5⟩
     ·exact .inr (.inl (by rw [tn3.P] at y; exact y))
     ·exact .inr (.inr ⟨by rw [y1]; rfl,y2⟩)
end Go.Fx.Tryz
namespace Go.Fx.Tryz
open Go Go.Fx
def kZ (last rest:Bs):Option (Tb × Bs):=(rdS rest).bind λq=>(rd2 q.2).bind λc=>if ltB last q.1&&zP q.1 then (wQ c.1 [] c.2).map λl=>((q.1,l.1),l.2) else none
theorem Kh (n:Nat) (last rest:Bs):wv (n+1) last rest=(kZ last rest).bind λt=>(wv n t.1.1 t.2).map λp=>(t.1::p.1,p.2):=by
 simp only [wv,kZ];cases rdS rest with
 | none=>rfl
 | some q =>
  simp only [bmI];cases rd2 q.2 with
  | none=>rfl
  | some c =>
   simp only [bmI];split
   ·cases wQ c.1 [] c.2<;>rfl
   ·rfl
theorem qhC {dr rb N B:Nat} (hN:N<=60000) {x:To} {T:List Tb} {last rest:Bs} {m:Mem} (htr:TR x T m) (hrx:Rx dr rb x m) (hrd:m.get rb=some (rdB rest)) (hrl:rest.length<2 ^ 62) (hlast:∀ t∈T,ltB last t.1=false) (hns:x.ns.length<=N+tot T) (hB:3 * tot T+rest.length<=B) :
  W (Call S tab 62 [.pointer (some ⟨dr,0,none⟩),str last] m) λr m'=>∃ x' T',TR x' T' m'/\Rx dr rb x' m'/\Tm rb x x' m m' /\
   ((∃ t r',kZ last rest=some (t,r')/\r=.tuple #[str t.1,.int .i64 0]/\T'=T++[t]/\m'.get rb=some (rdB r')/\x'.ns.length<=N+tot T'/\3 * tot T'+r'.length<=B)∨(r=.tuple #[.string ⟨#[]⟩,.int .i64 8]/\(12<=B∨3 * x.o.P<=2 * B))∨((kZ last rest=none∨12<=T.length)/\r=.tuple #[.string ⟨#[]⟩,.int .i64 10])):=by
 have d0:decide ((0:Int)=0)=true:=rfl;have d1:decide ((1:Int)=0)=false:=rfl;have d3:decide ((3:Int)=0)=false:=rfl;have hlt:=hrx.lt;rw [C62];simp only [st0,nck,fa,hrx.ld.1];refine qh.2 ((qeQ hrd hlt.2 hrl).mono λv1 m1 ⟨u1,h1⟩=>?_);have hx1:=u1.next;have rx1:=hrx.next (Tm.rd u1);have tr1:=hrx.tr htr u1;simp only [st0,nck,fa,rx1.ld.1];rcases h1 with ⟨nm,r1,k1,rfl,k3⟩|⟨k1,rfl,k3⟩
 rotate_left
 ·refine qh.2 ((qkF k3 (k:=2) (by omega) (by omega)).mono λv2 m2 ⟨e,u2⟩=>?_);subst e;have rx2:=rx1.next (Tm.of0 (rb:=rb) u2);obtain ⟨q,e,he,hq⟩:=k3;have hq2:=qq u2 (by omega) hq;have de:decide (e=0)=false:=decide_eq_false he;simp only [st0,nck,fa,rx2.ld.1,Hk hq2,de];exact ⟨x,_,tr1.qn u2,rx2,(Tm.rd u1).trans (Tm.of0 u2),.inr (.inr ⟨.inl (by simp only [kZ,k1]; rfl),trivial⟩)⟩
 have hr1:=XI k1;refine qh.2 ((qju k3 (by omega) (by omega)).mono λv2 m2 ⟨u2,h2⟩=>?_);have hx2:=u2.next;have u02:=u1.trans u2;have rx2:=rx1.next (Tm.rd u2);have tr2:=rx1.tr tr1 u2;rcases h2 with ⟨c,r2,j1,rfl,j3⟩|⟨j1,rfl,j3⟩
 rotate_left
 ·obtain ⟨q,e,he,hq⟩:=j3;have de:decide (e=0)=false:=decide_eq_false he;simp only [st0,nck,fa,rx2.ld.1,Hk hq,de];exact ⟨x,_,tr2,rx2,Tm.rd u02,.inr (.inr ⟨.inl (by simp only [kZ,k1,bmI,j1]; rfl),trivial⟩)⟩
 have hr2:=qcb j1;simp only [st0,nck,fa,rx2.ld.1,QJ j3,d0,QX];cases hkk:ltB last nm with
 | false =>
  simp only [st0];exact ⟨x,_,tr2,rx2,Tm.rd u02,.inr (.inr ⟨.inl (by simp only [kZ,k1,bmI,j1,hkk,Bool.false_and,Bool.false_eq_true,if_false]),trivial⟩)⟩
 | true =>
  have hall:∀ t∈T,ltB t.1 nm=true:=λt ht=>jR (hlast t ht) hkk
  have hno:∀ t∈T,t.1≠nm:=λt ht=>Qn (hall t ht)
  simp only [st0,nck,fa,rx2.ld.2];refine qh.2 ((Ja tr2 nm).mono λr3 m3 hq3=>?_);rcases hq3 with ⟨n1,rfl,u3⟩|⟨n1,⟨t,ht,rfl⟩,_⟩|⟨n1,n2,n3,rfl,u3⟩|⟨n1,n2,n3,rfl,x',tr3,tn3,ns3,_,_⟩
  ·have e1:(if (1:Int)=1∨(1:Int)=11∨(1:Int)=3 then (10:Int) else 1)=10:=rfl
   simp only [st0,d1,XQ,e1];exact ⟨x,_,tr2.qn u3,rx2.next (Tm.of0 (rb:=rb) u3),(Tm.rd u02).trans (Tm.of0 u3),.inr (.inr ⟨.inl (by simp only [kZ,k1,bmI,j1,hkk,n1,Bool.and_false,Bool.false_eq_true,if_false]),rfl⟩)⟩
  ·exact absurd rfl (hno _ (tr2.mo.mem ht))
  ·have e3:(if (3:Int)=1∨(3:Int)=11∨(3:Int)=3 then (10:Int) else 3)=10:=rfl
   simp only [st0,d3,XQ,e3];exact ⟨x,_,tr2.qn u3,rx2.next (Tm.of0 (rb:=rb) u3),(Tm.rd u02).trans (Tm.of0 u3),.inr (.inr ⟨.inr n3,rfl⟩)⟩
  ·rw [qfr hall] at tr3;have rx3:=rx2.next (Tm.Wv tn3);have rd3:m3.get rb=some (rdB r2):=(tn3.upd.same rb rx2.lt.2 rx2.nr.1).trans j3;have hc:=(XJ j1).1;simp only [st0,d0];refine (qhF (B:=B) hN hc hno c 0 x' [] [] r2 m3 (by omega) tr3 rx3 rd3 (by omega) (by simp) (by rw [ns3,jY,yy]; exact Nat.le_trans hns (by omega)) (by rw [jY,yy,List.length_nil]; omega)).mono λr m' ⟨x'',T',z1,z2,z3,z4⟩=>?_
   refine ⟨x'',T',z1,z2,((Tm.rd u02).trans (Tm.Wv tn3)).trans z3,?_⟩;have hde:kZ last rest=(wQ c [] r2).map λl=>((nm,l.1),l.2):=by
    simp only [kZ,k1,bmI,j1,hkk,n1,Bool.and_self,if_true]
   rw [hde];rcases z4 with ⟨l,r',y1,y2,y3,y4,y5⟩|y|⟨y1,y2⟩
   ·exact .inl ⟨(nm,l),r',by rw [y1]; rfl,y2,by rw [y3,List.nil_append],y4,y5⟩
   ·exact .inr (.inl (by rw [tn3.P] at y; exact y))
   ·exact .inr (.inr ⟨.inl (by rw [y1]; rfl),y2⟩)
theorem qbi {last rest r':Bs} {t:Tb} (h:kZ last rest=some (t,r')):ltB last t.1=true/\r'.length<=rest.length:=by
 simp only [kZ,bsI] at h;obtain ⟨⟨k,b1⟩,h1,⟨c,b2⟩,h2,h⟩:=h;split at h
 ·rename_i hc;simp only [baI] at hc;simp only [msI,pjI] at h;obtain ⟨⟨l,b3⟩,h3,h4,h5⟩:=h;have a1:b1.length<=rest.length:=XI h1;have a2:b2.length<=b1.length:=qcb h2;have a3:b3.length<=b2.length:=qgs _ _ _ _ _ h3;subst h4 h5;exact ⟨hc.1,by show b3.length<=_; omega⟩
 ·cases h
theorem qeL {dr rb N cnt B:Nat} (hN:N<=60000) (hcnt:cnt<=255):∀ (n i:Nat) (x:To) (T:List Tb) (last rest:Bs) (m:Mem),i+n=cnt->T.length=i->TR x T m->Rx dr rb x m->m.get rb=some (rdB rest)->rest.length<2 ^ 62->(∀ t∈T,ltB last t.1=false)->x.ns.length<=N+tot T->3 * tot T+rest.length<=B ->
  W (qcL (.pointer (some ⟨dr,0,none⟩)) (str last) (.int .u64 (cnt:Int)) (.int .u64 (i:Int)) m) λr m'=>∃ x' T',TR x' T' m'/\Rx dr rb x' m'/\Tm rb x x' m m' /\
   ((∃ L,wv n last rest=some (L,[])/\r=.int .i64 0/\T'=T++L/\x'.ns.length<=N+tot T')∨(r=.int .i64 8/\(12<=B∨3 * x.o.P<=2 * B))∨(((∀ L,wv n last rest≠some (L,[]))∨12<cnt)/\r=.int .i64 10)):=by
 intro n
 induction n with
 | zero =>
  intro i x T last rest m hi hT htr hrx hrd hrl hlast hns hB;obtain rfl:i=cnt:=by omega
  rw [P29_0_eq];simp only [st0,Int.lt_irrefl];rw [P29_1_eq];simp only [st0,nck,fa,hrx.ld.1,qeT hrd];by_cases hc:rest=[]
  ·have d:(decide ((if rest=[] then (0:Int) else 5)=0))=true:=by rw [if_pos hc]; rfl
   simp only [st0,d];exact ⟨x,_,htr,hrx,Tm.of0 (Upd.refl _ _),.inl ⟨[],by rw [hc]; rfl,trivial,by rw [List.append_nil],hns⟩⟩
  ·have d:(decide ((if rest=[] then (0:Int) else 5)=0))=false:=by rw [if_neg hc]; rfl
   simp only [st0,d];refine ⟨x,_,htr,hrx,Tm.of0 (Upd.refl _ _),.inr (.inr ⟨.inl λL h=>hc ?_,trivial⟩)⟩;simp only [wv,sjI,pjI] at h;exact h.2
 | succ n ih =>
  intro i x T last rest m hi hT htr hrx hrd hrl hlast hns hB;have e1:((i:Int)<(cnt:Int))=True:=eq_true (by omega);have d0:decide ((0:Int)=0)=true:=rfl;have d8:decide ((8:Int)=0)=false:=rfl;have d10:decide ((10:Int)=0)=false:=rfl;rw [P29_0_eq];simp only [st0,e1];refine qh.2 ((qhC hN htr hrx hrd hrl hlast hns hB).mono λr1 m1 ⟨x1,T1,t1,rx1,tm1,h1⟩=>?_);rcases h1 with ⟨t,r',k1,rfl,rfl,k4,k5,k6⟩|⟨rfl,k1⟩|⟨k1,rfl⟩
  ·simp only [st0,xt0,xt1,d0,qey (i:=i) (by omega)];have hd:=qbi k1;refine (ih (i+1) x1 (T++[t]) t.1 r' m1 (by omega) (by simp [hT]) t1 rx1 k4 (by omega) (λq hq=>?_) k5 k6).mono λr m' ⟨x2,T2,z1,z2,z3,z4⟩=>⟨x2,T2,z1,z2,tm1.trans z3,?_⟩
   ·rcases List.mem_append.1 hq with hq|hq
    ·exact zU (jR (hlast q hq) hd.1)
    ·simp at hq; subst hq; exact jI _
   ·have hde:wv (n+1) last rest=(wv n t.1 r').map λp=>(t::p.1,p.2):=by rw [Kh,k1]; rfl
    rw [hde];rcases z4 with ⟨L,y1,y2,y3,y4⟩|y|⟨y1,y2⟩
    ·exact .inl ⟨t::L,by rw [y1]; rfl,y2,by rw [y3,aaI]; rfl,y4⟩
    ·exact .inr (.inl (by rw [tm1.P] at y; exact y))
    ·refine .inr (.inr ⟨y1.imp (λh L hL=>?_) id,y2⟩);simp only [msI,pjI] at hL;obtain ⟨⟨L',e⟩,h1,h2,h3⟩:=hL;exact h L' (by rw [h1,show e=[] from h3])
  ·simp only [st0,xt0,xt1,d8];exact ⟨x1,T1,t1,rx1,tm1,.inr (.inl ⟨trivial,k1⟩)⟩
  ·simp only [st0,xt0,xt1,d10];refine ⟨x1,T1,t1,rx1,tm1,.inr (.inr ⟨k1.imp (λh L hL=>?_) (λh=>by omega),trivial⟩)⟩;rw [Kh,h] at hL;cases hL
theorem qeO {dr rb N:Nat} (hN:N<=60000) {x:To} {s:Bs} {m:Mem} (htr:TR x [] m) (hrx:Rx dr rb x m) (hrd:m.get rb=some (rdB s)) (hrl:s.length<2 ^ 62) (hns:x.ns.length<=N) :
  W (Call S tab 29 [.pointer (some ⟨dr,0,none⟩)] m) λr m'=>∃ x' T',TR x' T' m'/\Tm rb x x' m m' /\
   ((KO s=some T'/\r=.int .i64 0/\x'.ns.length<=N+20400)∨(r=.int .i64 8/\(12<=s.length∨3 * x.o.P<=2 * s.length))∨(KO s=none/\r=.int .i64 10)):=by
 have hlt:=hrx.lt;rw [C29];simp only [st0,nck,fa,hrx.ld.1];refine qh.2 ((qjv hrd hlt.2 hrl).mono λv1 m1 ⟨u1,h1⟩=>?_);have rx1:=hrx.next (Tm.rd u1);have tr1:=hrx.tr htr u1;rcases h1 with ⟨c,r,rfl,rfl,k3⟩|⟨rfl,rfl,k3⟩
 ·have hc:=c.toNat_lt;refine (qeL (B:=(c::r).length) hN (by omega) c.toNat 0 x [] [] r m1 (by omega) rfl tr1 rx1 k3 (by simp at hrl; omega) (by simp) (by omega) (by simp [tot])).mono λr' m' ⟨x',T',z1,z2,z3,z4⟩=>⟨x',T',z1,(Tm.rd u1).trans z3,?_⟩
  rcases z4 with ⟨L,y1,y2,y3,y4⟩|y|⟨y1,y2⟩
  ·left;rw [List.nil_append] at y3;subst y3;have hl:=z1.va.len;have:=(Vz _ _ _ _ _ y1).1;have htt:=z1.tot;refine ⟨?_,y2,by omega⟩;simp only [KO];rw [if_pos (by omega),y1]
  ·exact .inr (.inl y)
  ·refine .inr (.inr ⟨?_,y2⟩);simp only [KO];split
   ·rename_i h12;split
    ·rename_i T e;exact absurd e (y1.resolve_right (by omega) T)
    ·rfl
   ·rfl
 ·obtain ⟨q,e,he,hq⟩:=k3;have de:decide (e=0)=false:=decide_eq_false he;rw [P29_0_eq];simp only [st0,Int.lt_irrefl];rw [P29_1_eq];simp only [st0,nck,fa,rx1.ld.1,qjw hq he,de];exact ⟨x,_,tr1,Tm.rd u1,.inr (.inr ⟨rfl,trivial⟩)⟩
end Go.Fx.Tryz
namespace Go.Fx.Tryz
open Go Go.Fx
theorem Sn.tm {x0 x x':To} {s:St} {tc rb:Nat} {m m':Mem} (h:Sn x0 s tc m) (ha:qiu s tc x) (hr:s.pm≠rb/\tc≠rb) (hn:Tm rb x x' m m'):Sn x0 s tc m'/\qiu s tc x':=by
 obtain ⟨k,hk⟩:=h.gs;have hx:=hn.upd.next;have hl:=h.lt;have kp:∀ b,b<m.next->b∉x.fp->b∉x'.fp:=λb h1 h2 h3=>(hn.grow b h3).elim h2 λh=>by omega
 have nf:∀ b,b≠rb->b∉x.fp->b∉rb::x.fp:=λb h1 h2 hm=>(lcI.1 hm).elim h1 h2
 exact ⟨⟨⟨k,(hn.upd.same _ hl.1 (nf _ hr.1 ha.1.1)).trans hk⟩,(hn.upd.same _ hl.2 (nf _ hr.2 ha.2.1)).trans h.gt,⟨by omega,by omega⟩,h.su,h.sh⟩,⟨kp _ hl.1 ha.1.1,by rw [hn.c]; exact ha.1.2.1,by rw [hn.p]; exact ha.1.2.2.1,by rw [hn.nb]; exact ha.1.2.2.2⟩,kp _ hl.2 ha.2.1,by rw [hn.c]; exact ha.2.2.1,by rw [hn.p]; exact ha.2.2.2.1,by rw [hn.nb]; exact ha.2.2.2.2⟩
section
variable {x:To} {T:List Tb} {m:Mem}
theorem TR.ym (h:TR x T m):∀ b∈x.fp,b<m.next:=λb hb=>by
 simp only [To.fp,lcI] at hb;rcases hb with h'|h'|h'
 ·have:=h.lt; omega
 ·have:=h.lt; omega
 ·exact h.wi.lt b h'
def To.all (x:To):List Nat:=x.fp++qc x.nb
theorem TR.ZX (h:TR x T m):∀ b∈x.all,b<m.next:=λb hb=>(List.mem_append.1 hb).elim (h.ym b) (h.nb.lt b)
theorem qkX (a b:Nat):qt [.pointer none,.pointer none] [(0,1,.pointer (some ⟨a,0,none⟩)),(1,1,.pointer (some ⟨b,0,none⟩))]=some [.pointer (some ⟨a,0,none⟩),.pointer (some ⟨b,0,none⟩)]:=rfl
theorem qhK {s:Bs} (h:TR x [] m) (hns:x.ns.length<=50000) (hnn:x.nts.length<=900) (hsl:s.length<2 ^ 62):W (Call S tab 9 [x.v,str s] m) λr m'=>∃ x' T',TR x' T' m'/\x'.t=x.t/\x'.o.P=x.o.P/\x'.nts.length<=x.nts.length+1/\Upd x.all m m'/\(∀ b∈x'.all,b∈x.all∨m.next<=b)/\x'.o.c=x.o.c/\x'.o.p=x.o.p /\
  ((KO s=some T'/\r=.int .i64 0/\x'.ns.length<=x.ns.length+1+20400)∨(r=.int .i64 8/\T'=[]/\(12<=s.length∨3 * x.o.P<=2 * s.length))∨(KO s=none/\r=.int .i64 10/\T'=[])):=by
 have d0:decide ((0:Int)=0)=true:=rfl;have d8:decide ((8:Int)=0)=false:=rfl;have d10:decide ((10:Int)=0)=false:=rfl;rw [C9];refine qh.2 ((WS h).mono λr1 m1 ⟨e,u1⟩=>?_);subst e;have h1:=h.qn u1;simp only [st0,d0];refine qh.2 ((Zy h1).mono λnv m2 ⟨tn,nb,u2⟩=>?_);have ln:qd nv=some (.int .i64 0):=tn.tsl.len;have h2:=h1.qn u2;have u02:=u1.qu u2;have x2:=u02.next;simp only [st0,ln,Int.lt_irrefl];refine qh.2 ((qeA h2 (by omega) (by omega)).mono λr3 m3 ⟨e,xs,st,tc,trs,sn,aw,s1,s2,s3,s4,s5,s6,s7,s8,s9,s10,s11,u3⟩=>?_);subst e;have hx3:=u3.next;simp only [st0,WG];have u4:Upd [] m3 (m3.add (rdB s)):=Upd.add _ _ _;have g4:(m3.add (rdB s)).get m3.next=some (rdB s):=Mem.qf ..;have n4:(m3.add (rdB s)).next=m3.next+1:=rfl;generalize (m3.add (rdB s))=m4 at u4 g4 n4;simp only [st0,qkX,qS];have u5:Upd [] m4 (m4.add ⟨.cells [.pointer (some ⟨m3.next,0,none⟩),.pointer (some ⟨x.t,0,none⟩)] 73,false,none⟩):=Upd.add _ _ _;have g5:(m4.add ⟨.cells [.pointer (some ⟨m3.next,0,none⟩),.pointer (some ⟨x.t,0,none⟩)] 73,false,none⟩).get m4.next=some ⟨.cells [.pointer (some ⟨m3.next,0,none⟩),.pointer (some ⟨x.t,0,none⟩)] 73,false,none⟩:=Mem.qf ..;have n5:(m4.add ⟨.cells [.pointer (some ⟨m3.next,0,none⟩),.pointer (some ⟨x.t,0,none⟩)] 73,false,none⟩).next=m4.next+1:=rfl;have rd5:=qq u5 (by omega) g4;generalize (m4.add ⟨.cells [.pointer (some ⟨m3.next,0,none⟩),.pointer (some ⟨x.t,0,none⟩)] 73,false,none⟩)=m5 at u5 g5 n5 rd5;have u35:=u4.qu u5;have tr5:=trs.qn u35;have sn5:=sn.qn u35;have fl:=trs.ym;have bl:=trs.nb.lt;have cl:=trs.wi.wr.lc;have pl:=trs.wi.wr.lp;have nal:∀ b,m3.next<=b->b∉xs.fp/\b≠xs.o.c/\b≠xs.o.p/\b∉qc xs.nb:=λb hb=>⟨λhm=>by have:=fl b hm; omega,by omega,by omega,λhm=>by have:=bl b hm; omega⟩
 have rx5:Rx m4.next m3.next xs m5:=⟨by rw [s1]; exact g5,⟨by omega,by omega⟩,by omega,nal _ (by omega),nal _ (Nat.le_refl _)⟩;have snl:=sn.lt;refine qh.2 ((qeO (N:=x.ns.length+1) (by omega) tr5 rx5 rd5 hsl (by rw [s2,laI,List.length_singleton]; omega)).mono λr6 m6 ⟨x',T',tr6,tm6,h6⟩=>?_);have hx6:=tm6.upd.next;have hgrow:∀ b∈x'.all,b∈x.all∨m.next<=b:=λb hb=>by
  rcases List.mem_append.1 hb with hb|hb
  ·rcases tm6.grow b hb with hb|hb
   ·rcases s10 b hb with hb|hb
    ·exact .inl (List.mem_append.2 (.inl hb))
    ·exact .inr (by omega)
   ·exact .inr (by omega)
  ·rw [tm6.nb] at hb;rcases s11 b hb with hb|hb
   ·exact .inl (List.mem_append.2 (.inr hb))
   ·exact .inr (by omega)
 have hupd:Upd x.all m m6:=((u02.nil'.trans u3).qu u35).then' tm6.upd λb hb=>by
  rcases lcI.1 hb with e|hb
  ·exact .inr (by omega)
  ·rcases s10 b hb with hb|hb
   ·exact .inl (List.mem_append.2 (.inl hb))
   ·exact .inr (by omega)
 have hPP:x'.o.P=x.o.P:=tm6.P.trans s5;have hcc:x'.o.c=x.o.c:=tm6.c.trans s8;have hpp:x'.o.p=x.o.p:=tm6.p.trans s9;obtain ⟨sn6,aw6⟩:=sn5.tm aw ⟨by omega,by omega⟩ tm6;obtain ⟨rest,hrest⟩:=tm6.pre;have hns6:x'.ns=x.ns++st::rest:=by rw [<- hrest,s2,aaI]; rfl
 have hnts6:x'.nts=x.nts++(x.ns.length,tc)::[]:=by rw [tm6.nts,s3]
 have back:∀ e:Int,decide (e=0)=false->((e=8/\(12<=s.length∨3 * x.o.P<=2 * s.length))∨(KO s=none/\e=10))->W ((Call S tab 30 [x.v,.int .i64 (x.nts.length:Int)] m6).bind λp13=>some (.int .i64 e,p13.2)) λr m'=>∃ x' T',TR x' T' m'/\x'.t=x.t/\x'.o.P=x.o.P/\x'.nts.length<=x.nts.length+1/\Upd x.all m m'/\(∀ b∈x'.all,b∈x.all∨m.next<=b)/\x'.o.c=x.o.c/\x'.o.p=x.o.p /\
  ((KO s=some T'/\r=.int .i64 0/\x'.ns.length<=x.ns.length+1+20400)∨(r=.int .i64 8/\T'=[]/\(12<=s.length∨3 * x.o.P<=2 * s.length))∨(KO s=none/\r=.int .i64 10/\T'=[])):=λe de he=>by
  have hb:=qeC h2 tr6 sn6 aw6 hns6 (by omega) hnts6 (by omega) hPP;rw [show x'.v=x.v by show (Value.pointer (some ⟨x'.t,0,none⟩))=_; rw [tm6.t,s1]] at hb;refine qh.2 (hb.mono λr7 m7 ⟨e7,x'',tr7,q1,q2,q3,u7,q4,q5,q6,q7,q8,q9⟩=>zv.2 ⟨x'',[],tr7,by rw [q1,tm6.t,s1],q3,by rw [hnts6] at q5; simpa using q5,hupd.then' u7 λb hb=>hgrow b (List.mem_append.2 (.inl hb)),λb hb=>?_,by rw [q8,hcc],by rw [q9,hpp],?_⟩)
  ·rcases List.mem_append.1 hb with hb|hb
   ·rcases q6 b hb with hb|hb
    ·exact hgrow b (List.mem_append.2 (.inl hb))
    ·exact .inr (by omega)
   ·exact hgrow b (List.mem_append.2 (.inr (q7 b hb)))
  ·rcases he with ⟨rfl,he⟩|⟨he,rfl⟩
   ·exact .inr (.inl ⟨rfl,rfl,he⟩)
   ·exact .inr (.inr ⟨he,rfl,rfl⟩)
 rcases h6 with ⟨k1,rfl,k3⟩|⟨rfl,k1⟩|⟨k1,rfl⟩
 ·simp only [st0,d0];refine ⟨x',T',tr6,by rw [tm6.t,s1],hPP,by rw [hnts6]; simp,hupd,hgrow,hcc,hpp,.inl ⟨k1,trivial,by omega⟩⟩
 ·simp only [st0,d8];exact back 8 d8 (.inl ⟨rfl,by rw [s5] at k1; exact k1⟩)
 ·simp only [st0,d10];exact back 10 d10 (.inr ⟨k1,rfl⟩)
end
end Go.Fx.Tryz
namespace Go.Fx.Tryz
open Go Go.Fx
section
variable {x y:To} {T T2:List Tb} {m m' m0:Mem}
theorem TR.beside (h0:TR x T2 m0) (h:TR x T m) {fp:List Nat} (u:Upd fp m m') (hf:∀ b∈fp,m0.next<=b):TR x T m' :=
 h.qjk u λb hb=>by
  have h1:=hf b hb;have c:=h0.wi.wr.lc;have p:=h0.wi.wr.lp;exact ⟨λhm=>by have:=h0.ym b hm; omega,by omega,by omega,λhm=>by have:=h0.nb.lt b hm; omega⟩
theorem qgr (hx:TR x T m) (hy:TR y T2 m):W (Call S tab 17 [x.v,y.v] m) λr m'=>r=.tuple #[.bool (decide (ZT T=ZT T2)),.int .i64 0]/\Upd [] m m':=by
 have d0:decide ((0:Int)=0)=true:=rfl;rw [C17];refine qh.2 ((yT hx).mono λr1 m1 ⟨e,u1⟩=>?_);subst e;simp only [st0,xt0,xt1,d0];refine qh.2 ((yT (hy.qn u1)).mono λr2 m2 ⟨e,u2⟩=>?_);subst e;simp only [st0,xt0,xt1,d0,jJ];exact ⟨trivial,u1.qu u2⟩
end
theorem qjx (b:Nat):qU .ptr false (.pointer (some ⟨b,0,none⟩)) (.pointer none)=some (.bool false):=rfl
abbrev qcZ:Bs:=[1,1,116,0,1,1,97,1,49]
theorem qhL:xO [] [97] [49]=[([97],[49])]:=by decide
theorem qif:ZT [([116],[([97],[49])])]=qcZ:=by decide
theorem qcv:KO qcZ=some [([116],[([97],[49])])]:=by decide
theorem qdp:zP [116]=true:=by decide
set_option maxRecDepth 4000 in
theorem qfo (m:Mem):W (Call S tab 7 [] m) λr m'=>r=.bool true/\Upd [] m m':=by
 have d0:decide ((0:Int)=0)=true:=rfl;rw [C7];have hb:∀ m:Mem,W (Call S tab 8 [.int .i64 10] m) _:=λm=>HW (n:=10) (by omega) (by omega) m
 refine qh.2 ((hb m).mono λr1 m1 ⟨x,tr1,e,ns1,nts1,ts1,nb1,P1,fp1,c1,p1,u1⟩=>?_);subst e;have hx1:=u1.next;simp only [st0,qjx];have hmk:W (Call S tab 20 [x.v,.string ⟨#[116]⟩] m1) _:=Ja tr1 [116];refine qh.2 (qh.2 (hmk.mono λr2 m2 hq=>?_));rcases hq with ⟨n1,_⟩|⟨_,⟨t,ht,_⟩,_⟩|⟨_,_,n3,_⟩|⟨_,_,_,rfl,x2,tr2,tn2,ns2,pg2,ts2⟩
 ·rw [qdp] at n1; cases n1
 ·rw [ts1] at ht; cases ht
 ·simp at n3
 rw [ts1,List.nil_append] at ts2;have pg2:x2.xS=[]:=by rw [pg2]; unfold To.xS; rw [ts1]; rfl
 have tr2:TR x2 [([116],[])] m2:=tr2;have v2:x2.v=x.v:=by show (Value.pointer (some ⟨x2.t,0,none⟩))=_; rw [tn2.t]
 have P2:x2.o.P=10:=by rw [tn2.P,P1]
 simp only [st0,d0];have hpt:=VQ tr2 (by rw [ns2,ns1]; simp) (a:=[]) (b:=[]) (q:=⟨[116],0,[],[],x.K⟩) (by rw [ts2]; rfl) [97] [49];rw [v2] at hpt;have hpt:W (Call S tab 21 [x.v,.string ⟨#[116]⟩,.string ⟨#[97]⟩,.string ⟨#[49]⟩] m2) _:=hpt;refine qh.2 (qh.2 (hpt.mono λr3 m3 hq=>?_));rcases hq with ⟨x3,tr3,tn3,_,⟨n1,rfl⟩|⟨n1,n2,rfl⟩⟩|⟨n1,rfl,x3,rt,U,tr3,tn3,_⟩
 ·exact absurd ⟨⟨by decide,by decide⟩,by decide⟩ n1
 ·rcases n2 with ⟨_,n2⟩|⟨n2,_⟩
  ·have:=tr2.full n2;rw [pg2,P2] at this;simp at this
  ·exact absurd rfl n2
 have tr3:TR x3 (vI [([116],[])] [116] (xO [] [97] [49])) m3:=tr3;rw [qhL] at tr3;have tr3:TR x3 [([116],[([97],[49])])] m3:=tr3;have v3:x3.v=x.v:=by rw [<- v2]; show (Value.pointer (some ⟨x3.t,0,none⟩))=_; rw [tn3.t]
 simp only [st0,d0];have u13:Upd x.fp m1 m3:=tn2.upd.then' tn3.upd λb hb=>by
  simp only [To.fp,lcI,tn2.t,tn2.tm] at hb ⊢;rcases hb with h|h|h
  ·simp [h]
  ·simp [h]
  ·exact (tn2.grow b h).imp (λh=>.inr (.inr h)) id
 have u03:Upd [] m m3:=u1.then' u13 λb hb=>.inr (fp1 b hb)
 have hx3:=u03.next;have hw:=yT tr3;rw [v3,qif] at hw;refine qh.2 (hw.mono λr4 m4 ⟨e,u4⟩=>?_);subst e;have tr4:=tr3.qn u4;simp only [st0,xt0,xt1,d0];refine qh.2 ((hb m4).mono λr5 m5 ⟨y,tr5,e,ns5,nts5,ts5,nb5,P5,fp5,c5,p5,u5⟩=>?_);subst e;have hx4:=u4.next;have hx5:=u5.next;have trx5:=tr4.qn u5;have hrd:W (Call S tab 9 [y.v,.string ⟨#[1,1,116,0,1,1,97,1,49]⟩] m5) _:=qhK (s:=qcZ) tr5 (by rw [ns5]; simp) (by rw [nts5]; simp) (by decide);refine qh.2 (hrd.mono λr6 m6 ⟨y6,T6,tr6,t6,P6,_,u6,_,_,_,hq⟩=>?_);have all5:∀ b∈y.all,m4.next<=b:=λb hb=>by
  rcases List.mem_append.1 hb with hb|hb
  ·exact fp5 b hb
  ·rw [nb5] at hb; simp [qc] at hb
 have trx6:=tr4.beside trx5 u6 all5;rcases hq with ⟨k1,rfl,_⟩|⟨rfl,_,k2⟩|⟨k1,_⟩
 ·rw [qcv] at k1;cases k1
  have hs:=qgr trx6 tr6;rw [v3,show y6.v=y.v by show (Value.pointer (some ⟨y6.t,0,none⟩))=_; rw [t6]] at hs;refine qh.2 (hs.mono λr7 m7 ⟨e,u7⟩=>?_);subst e;have dt:decide (ZT [([116],[([97],[49])])]=ZT [([116],[([97],[49])])])=true:=decide_eq_true rfl;have eqs:arith .eql (str qcZ) (.string ⟨#[1,1,116,0,1,1,97,1,49]⟩)=some (.bool true):=(jJ qcZ qcZ).trans (by rfl);simp only [st0,xt0,xt1,d0,dt,eqs];exact ⟨trivial,(((u03.qu u4).qu u5).then' u6 λb hb=>.inr (by have:=all5 b hb; omega)).qu u7⟩
 ·rw [P5] at k2;simp at k2
 ·rw [qcv] at k1; cases k1
end Go.Fx.Tryz
namespace Go.Fx.Tryz
open Go Go.Fx
theorem qhD {s:Bs} (hs:s.length<2 ^ 62) (m:Mem):∀ (d i:Nat),s.length - i=d->i<=s.length->W (qae (str s) (.int .i64 (i:Int)) m) λr m'=>r=.bool ((s.drop i).all okC&&(decide (1<=s.length)&&decide (s.length<=8)))/\m'=m:=by
 intro d
 induction d with
 | zero =>
  intro i hd hi;obtain rfl:i=s.length:=by omega
  rw [P69_0_eq];simp only [st0,qZ,Int.lt_irrefl];rw [P69_1_eq,List.drop_length];by_cases c1:1<=s.length
  ·have e1:((1:Int)<=(s.length:Int))=True:=eq_true (by omega);by_cases c2:s.length<=8
   ·have e2:((s.length:Int)<=8)=True:=eq_true (by omega);simp only [st0,qZ,e1,e2,decide_eq_true c1,decide_eq_true c2];exact ⟨rfl,trivial⟩
   ·have e2:((s.length:Int)<=8)=False:=eq_false (by omega);simp only [st0,qZ,e1,e2,decide_eq_true c1,decide_eq_false c2];exact ⟨rfl,trivial⟩
  ·have e1:((1:Int)<=(s.length:Int))=False:=eq_false (by omega);simp only [st0,qZ,e1,decide_eq_false c1];exact ⟨rfl,trivial⟩
 | succ d ih =>
  intro i hd hi;have hlt:i<s.length:=by omega
  have e1:((i:Int)<(s.length:Int))=True:=eq_true (by omega);have hx:=yN (l:=s) (i:=i) (b:=s[i]) (List.getElem?_eq_getElem hlt);have hdr:s.drop i=s[i]::s.drop (i+1):=List.drop_eq_getElem_cons hlt;have hok:okC s[i]=true->W (qae (str s) (.int .i64 ((i+1:Nat):Int)) m) λr m'=>r=.bool ((s.drop i).all okC&&(decide (1<=s.length)&&decide (s.length<=8)))/\m'=m:=λhk=>by
   rw [hdr,List.all_cons,hk,Bool.true_and]; exact ih (i+1) (by omega) hlt
  have hbad:okC s[i]=false->(Value.bool false=.bool ((s.drop i).all okC&&(decide (1<=s.length)&&decide (s.length<=8)))/\True):=λhk=>by
   rw [hdr,List.all_cons,hk]; exact ⟨rfl,trivial⟩
  rw [P69_0_eq];by_cases c1:s[i].toNat<97
  ·have e2:((s[i].toNat:Int)<97)=True:=eq_true (by omega);by_cases c2:s[i].toNat=95
   ·have e3:((s[i].toNat:Int)=95)=True:=eq_true (by omega);simp only [st0,qZ,e1,hx,e2,e3,qB (i:=i) (by omega)];exact hok ((wH _).2 (.inr c2))
   ·have e3:((s[i].toNat:Int)=95)=False:=eq_false (by omega);simp only [st0,qZ,e1,hx,e2,e3];refine hbad ?_;cases h:okC s[i] with
    | false=>rfl
    | true=>have:=(wH _).1 h; omega
  ·have e2:((s[i].toNat:Int)<97)=False:=eq_false (by omega);by_cases c2:s[i].toNat<=122
   ·have e3:((122:Int)<(s[i].toNat:Int))=False:=eq_false (by omega);simp only [st0,qZ,e1,hx,e2,e3,qB (i:=i) (by omega)];exact hok ((wH _).2 (.inl ⟨by omega,c2⟩))
   ·have e3:((122:Int)<(s[i].toNat:Int))=True:=eq_true (by omega);have e4:((s[i].toNat:Int)=95)=False:=eq_false (by omega);simp only [st0,qZ,e1,hx,e2,e3,e4];refine hbad ?_;cases h:okC s[i] with
    | false=>rfl
    | true=>have:=(wH _).1 h; omega
theorem KW {s:Bs} (hs:s.length<2 ^ 62) (m:Mem):Call S tab 69 [str s] m=some (.bool (zP s),m):=by
 refine W_eq ?_;rw [C69];refine (qhD hs m _ 0 rfl (Nat.zero_le _)).mono λr m' ⟨h1,h2⟩=>⟨?_,h2⟩
 rw [h1,List.drop_zero,JJ];have:decide (s≠[])=decide (1<=s.length):=decide_eq_decide.2 ⟨λh=>List.length_pos_iff.2 h,λh e=>by rw [e] at h; simp at h⟩;rw [this];congr 1;cases s.all okC<;>simp
structure RT1 where
 nm:Bs
 b:Option Nat
 n:Nat
 c:Nat
def RT1.sv (r:RT1):Value:=.slice (r.b.map λb=>⟨b,0,none⟩) r.n r.c
def jT:Enc RT1:=⟨2,λr=>[str r.nm,r.sv],λ_=>rfl,λ_=>rfl⟩
abbrev Rz:=RT1 × List Pr
abbrev tz (z:Rz):Tb:=(z.1.nm,z.2)
theorem qkB {v:Value} {l:List Pr} {m:Mem} (h:TAp qK 81 m v l) (nm:Bs):∃ r:RT1,r.nm=nm/\r.sv=v:=by
 rcases h with ⟨rfl,_⟩|⟨b,cap,rest,lo,rfl,_⟩
 ·exact ⟨⟨nm,none,0,0⟩,rfl,rfl⟩
 ·exact ⟨⟨nm,some b,l.length,cap⟩,rfl,rfl⟩
structure RT (xb:Nat) (tv:Value) (Z:List Rz) (m:Mem):Prop where
 g:m.get xb=some ⟨.cells [tv] 38,false,none⟩
 ta:TAp jT 45 m tv (Z.map (·.1))
 pv:∀ z∈Z,TAp qK 81 m z.1.sv z.2
 lt:xb<m.next
 nx:xb∉qc tv/\∀ z∈Z,xb∉qc z.1.sv
 nt:∀ z∈Z,∀ b∈qc z.1.sv,b∉qc tv
 pw:Z.Pairwise λa b=>∀ q∈qc a.1.sv,q∉qc b.1.sv
 va:Valid (Z.map tz)
def vR (xb:Nat) (tv:Value) (Z:List Rz):List Nat:=xb::(qc tv++Z.flatMap λz=>qc z.1.sv)
section
variable {xb:Nat} {tv:Value} {Z:List Rz} {m:Mem} {nm:Bs}
theorem RT.ld {M:Mem} (g:M.get xb=some ⟨.cells [tv] 38,false,none⟩):qa (.pointer (some ⟨xb,0+0,none⟩)) M=some tv:=qm g rfl
theorem RT.zL {fp:List Nat} {m':Mem} (h:RT xb tv Z m) (u:Upd fp m m') (hf:∀ b∈fp,b∉vR xb tv Z):RT xb tv Z m':=by
 have hx:=u.next;have hl:=h.lt;have k:∀ b,b∈vR xb tv Z->b∉fp:=λb hb hm=>hf b hm hb
 exact ⟨(u.same _ hl (k _ (by simp [vR]))).trans h.g,h.ta.upd u λb hb=>k b (by simp [vR,hb]),λz hz=>(h.pv z hz).upd u λb hb=>k b (by simp only [vR,lcI,List.mem_append,List.mem_flatMap]; exact .inr (.inr ⟨z,hz,hb⟩)),by omega,h.nx,h.nt,h.pw,h.va⟩
theorem RT.qn {m':Mem} (h:RT xb tv Z m) (u:Upd [] m m'):RT xb tv Z m':=h.zL u λb hb=>by cases hb
theorem RT.ZX (h:RT xb tv Z m):∀ b∈vR xb tv Z,b<m.next:=λb hb=>by
 simp only [vR,lcI,List.mem_append,List.mem_flatMap] at hb;rcases hb with rfl|hb|⟨z,hz,hb⟩
 ·exact h.lt
 ·exact h.ta.lt b hb
 ·exact (h.pv z hz).lt b hb
theorem Qq:jT.size=2:=rfl
theorem Wq (h:RT xb tv Z m) {i:Nat} (hi:i<Z.length):∃ b off,qi 2 tv (.int .i64 (i:Int))=some (.pointer (some ⟨b,off,none⟩))/\∀ M,TAp jT 45 M tv (Z.map (·.1))->qa (.pointer (some ⟨b,off+0,none⟩)) M=some (str Z[i].1.nm)/\qa (.pointer (some ⟨b,off+1,none⟩)) M=some Z[i].1.sv:=by
 obtain ⟨b,off,h1,h2⟩:=h.ta.tsl.at .i64 (i:=i) (a:=Z[i].1) (by simp [hi]);rw [Qq] at h1 h2;exact ⟨b,off,h1,λM hM=>⟨(h2 M hM.tsl).2 0 _ rfl,(h2 M hM.tsl).2 1 _ rfl⟩⟩
theorem qeU (h:RT xb tv Z m):∀ (d i:Nat),Z.length - i=d->i<=Z.length->(∀ z∈Z.take i,z.1.nm≠nm)->W (qcG (.pointer (some ⟨xb,0,none⟩)) (str nm) (.int .i64 (i:Int)) m) λr m'=>m'=m /\
  (((∀ z∈Z,z.1.nm≠nm)/\r=.int .i64 (-1))∨∃ a z b,Z=a++z::b/\z.1.nm=nm/\r=.int .i64 (a.length:Int)):=by
 have hT:=h.va.len;rw [List.length_map] at hT;have ln:=h.ta.tsl.len;rw [List.length_map] at ln;intro d
 induction d with
 | zero =>
  intro i hd hi hp;obtain rfl:i=Z.length:=by omega
  rw [List.take_length] at hp;rw [P70_0_eq];simp only [st0,nck,fa,RT.ld h.g,ln,Int.lt_irrefl];exact ⟨trivial,.inl ⟨hp,trivial⟩⟩
 | succ d ih =>
  intro i hd hi hp;have hlt:i<Z.length:=by omega
  have e1:((i:Int)<(Z.length:Int))=True:=eq_true (by omega);obtain ⟨b,off,y1,y2⟩:=Wq h hlt;rw [P70_0_eq];by_cases hc:Z[i].1.nm=nm
  ·have d1:decide (Z[i].1.nm=nm)=true:=decide_eq_true hc;simp only [st0,nck,fa,RT.ld h.g,ln,e1,y1,(y2 m h.ta).1,jJ,d1];refine ⟨trivial,.inr ⟨Z.take i,Z[i],Z.drop (i+1),?_,hc,?_⟩⟩
   ·rw [<- List.drop_eq_getElem_cons hlt,List.take_append_drop]
   ·rw [ltI,Nat.min_eq_left (by omega)]
  ·have d1:decide (Z[i].1.nm=nm)=false:=decide_eq_false hc;simp only [st0,nck,fa,RT.ld h.g,ln,e1,y1,(y2 m h.ta).1,jJ,d1,qB (i:=i) (by omega)];refine ih (i+1) (by omega) hlt λz hz=>?_
   rw [tsI hlt] at hz;rcases List.mem_append.1 hz with hz|hz
   ·exact hp z hz
   ·simp at hz; subst hz; exact hc
theorem qaN (h:RT xb tv Z m) (nm:Bs):W (Call S tab 70 [.pointer (some ⟨xb,0,none⟩),str nm] m) λr m'=>m'=m /\
  (((∀ z∈Z,z.1.nm≠nm)/\r=.int .i64 (-1))∨∃ a z b,Z=a++z::b/\z.1.nm=nm/\r=.int .i64 (a.length:Int)):=by
 rw [C70];exact qeU h _ 0 rfl (Nat.zero_le _) (by simp)
end
end Go.Fx.Tryz
