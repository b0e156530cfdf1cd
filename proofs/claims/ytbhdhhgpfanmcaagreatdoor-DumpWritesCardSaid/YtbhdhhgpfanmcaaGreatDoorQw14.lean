/- Parts of a proof: TreeE, TreeF. Conditions: none. -/
import Derived.Test.YtbhdhhgpfanmcaaGreatDoorQw13
set_option linter.unusedSimpArgs false
set_option linter.unusedVariables false
namespace Go.Fx.Tryz
open Go Go.Fx
theorem qkA (k:Nat):Lib.trimB (qp k) 0=[]:=by
 have h:∀ k,(List.replicate k (0:UInt8)).dropWhile (· == 0)=[]:=by
  intro k
  induction k with
  | zero=>rfl
  | succ k ih=>rw [List.replicate_succ,List.dropWhile_cons]; simp [ih]
 unfold Lib.trimB Lib.trimLeftB Lib.trimRightB qp;rw [List.reverse_replicate,h]; rfl
theorem qbO (k:Nat) (hk:k<=1000000) (m:Mem):Call S tab 108 [str (qp k),.string ⟨#[0]⟩] m=some (str [],m):=by
 refine Qx ?_;show qab [str (qp k),.string ⟨#[0]⟩] m=_;have h:(0:UInt8).toNat<128/\(⟨(qp k).toArray⟩:ByteArray).size<=1000000:=⟨by decide,by simp [qp,ByteArray.size]; omega⟩;simp only [qab];rw [if_pos h,qkA]
theorem XY {i:Nat} (h:i<2 ^ 62):arith .add (.int .u64 (i:Int)) (.int .u64 1)=some (.int .u64 ((i+1:Nat):Int)):=by
 rw [qgF,XD (by omega) (by omega)]; simp
abbrev qg (b:Bool) (sp sk si:Value):ABlk:=⟨.cells [.bool b,sp,sk,si] 169,false,none⟩
theorem qfi {m:Mem} {b:Nat} {lf:Bool} {sp sk si v:Value} (g:m.get b=some (qg lf sp sk si)) (h1:v.cells=#[v]/\v.oneCell'=true):qj 1 (.pointer (some ⟨b,0+1,none⟩)) v m=some (m.put b (qg lf v sk si)):=zF g (by simp) h1.1 h1.2
theorem QO {m:Mem} {b:Nat} {lf:Bool} {sp sk si v:Value} (g:m.get b=some (qg lf sp sk si)) (h1:v.cells=#[v]/\v.oneCell'=true):qj 1 (.pointer (some ⟨b,0+2,none⟩)) v m=some (m.put b (qg lf sp v si)):=zF g (by simp) h1.1 h1.2
theorem yh {m:Mem} {b:Nat} {lf:Bool} {sp sk si v:Value} (g:m.get b=some (qg lf sp sk si)) (h1:v.cells=#[v]/\v.oneCell'=true):qj 1 (.pointer (some ⟨b,0+3,none⟩)) v m=some (m.put b (qg lf sp sk v)):=zF g (by simp) h1.1 h1.2
theorem qX {m:Mem} {b:Nat} {lf:Bool} {sp sk si:Value} (g:m.get b=some (qg lf sp sk si)) (lf':Bool) {sp' sk' si':Value} (h1:sp'.oneCell'=true) (h2:sk'.oneCell'=true) (h3:si'.oneCell'=true) :
  qj 4 (.pointer (some ⟨b,0,none⟩)) (.agg #[.bool lf',sp',sk',si']) m=some (m.put b (qg lf' sp' sk' si')):=by
 have:=jg (v:=.agg #[.bool lf',sp',sk',si']) (n:=4) g rfl (by simp [Value.cells]) (by simp [Value.cells,h1,h2,h3,show (Value.bool lf').oneCell'=true from rfl]);simpa [Value.cells] using this
theorem qaG {x0 x2:Value} {rb nb:Nat} {m0:Mem} (hrb:rb<m0.next) (hnb:nb<m0.next) (hne:rb≠nb) {l:List Pr} (hl:l.length<=255) (hs:∀ p∈l,p.1.length<=32/\p.2.length<=40) {z:Bs} {Q:Value->Mem->Prop} {sk si:Value}
  (hQ:∀ m' v',m'.get rb=some (rdB z)->m'.get nb=some (qg true v' sk si)->TAp qK 81 m' v' l->(∀ b∈qc v',m0.next<=b)->Upd [rb,nb] m0 m'->W (Kz x0 x2 (.pointer (some ⟨rb,0,none⟩)) (.int .u64 1) (.pointer (some ⟨nb,0,none⟩)) m') Q) :
  ∀ (d i:Nat) (m:Mem) (v:Value),l.length - i=d->i<=l.length->m.get rb=some (rdB (((l.drop i).map xR).flatten++z))->m.get nb=some (qg true v sk si)->TAp qK 81 m v (l.take i)->(∀ b∈qc v,m0.next<=b)->Upd [rb,nb] m0 m ->
  (((l.drop i).map xR).flatten++z).length<2 ^ 62 ->
  W (Xa x0 x2 (.pointer (some ⟨rb,0,none⟩)) (.int .u64 1) (.pointer (some ⟨nb,0,none⟩)) (.int .u64 (l.length:Int)) (.int .u64 (i:Int)) m) Q:=by
 intro d
 induction d with
 | zero =>
  intro i m v hd hi hr hn hv hvb hu hlen;obtain rfl:i=l.length:=by omega
  rw [P165_1_eq];simp only [st0,Int.lt_irrefl];rw [List.drop_length] at hr;rw [List.take_length] at hv;exact hQ m v hr hn hv hvb hu
 | succ d ih =>
  intro i m v hd hi hr hn hv hvb hu hlen;have hlt:i<l.length:=by omega
  have hp:=hs _ (List.getElem_mem hlt);have e1:((i:Int)<(l.length:Int))=True:=eq_true (by omega);have ed:((l.drop i).map xR).flatten++z=zD l[i].1++(zD l[i].2++(((l.drop (i+1)).map xR).flatten++z)):=by
   rw [drop_cons hlt,List.map_cons,List.flatten_cons,xR]; simp only [aaI]
  rw [ed] at hr hlen;rw [P165_1_eq];simp only [st0,e1];refine qh.2 ((XH (most:=32) hr (Nat.lt_of_lt_of_le hrb hu.next) hp.1 (by omega) hlen).mono λv1 m1 ⟨r1,g1,u1⟩=>?_);subst r1;have hnm:nb<m.next:=Nat.lt_of_lt_of_le hnb hu.next;have n1:m1.get nb=some (qg true v sk si):=(u1.same nb hnm (by simp; exact λh=>hne h.symm)).trans hn;have ldT:∀ {M:Mem},M.get nb=some (qg true v sk si)->qa (.pointer (some ⟨nb,0+0,none⟩)) M=some (.bool true):=λg=>qm g rfl
  have ldP:∀ {M:Mem},M.get nb=some (qg true v sk si)->qa (.pointer (some ⟨nb,0+1,none⟩)) M=some v:=λg=>qm g rfl
  simp only [st0,fa,ldT n1,ldP n1];refine qh.2 ((XH (most:=40) g1 (Nat.lt_of_lt_of_le (Nat.lt_of_lt_of_le hrb hu.next) u1.next) hp.2 (by omega) (by rw [laI] at hlen; omega)).mono λv2 m2 ⟨r2,g2,u2⟩=>?_);subst r2;have n2:m2.get nb=some (qg true v sk si):=(u2.same nb (Nat.lt_of_lt_of_le hnm u1.next) (by simp; exact λh=>hne h.symm)).trans n1;have e2:qt [.string ⟨#[]⟩,.string ⟨#[]⟩] [(0,1,str l[i].1),(1,1,str l[i].2)]=some [str l[i].1,str l[i].2]:=by kernel_rfl
  have e3:qt [.string ⟨#[]⟩,.string ⟨#[]⟩] [(0,2,.agg [str l[i].1,str l[i].2].toArray)]=some (qK.flat [l[i]]):=by kernel_rfl
  simp only [st0,e2,e3];have hd1:∀ b∈qc v,b∉[rb]:=λb hb hm=>by simp at hm; have:=hvb b hb; omega
  have hv2:TAp qK 81 m2 v (l.take i):=(hv.upd u1 hd1).upd u2 hd1;refine zZ (E:=qK) [l[i]] (by decide) hv2 (by simp; omega) λv3 m4 q1 q2 q3=>?_
  have hnv:∀ {b:Nat},b<m0.next->b∉qc v:=λhb hm=>by have:=hvb _ hm; omega
  have n4:m4.get nb=some (qg true v sk si):=(q2.same nb (by have:=u1.next; have:=u2.next; omega) (hnv hnb)).trans n2;have g4:m4.get rb=some (rdB (((l.drop (i+1)).map xR).flatten++z)):=(q2.same rb (by have:=u1.next; have:=u2.next; have:=hu.next; omega) (hnv hrb)).trans g2;simp only [st0,fa,qfi n4 q1.one];refine jC (λr hr=>?_) ?_
  ·simp only [lcI,nmI,or_false] at hr;subst hr;exact okR λk _ hk=>by
    have:k=0∨k=1∨k=2:=by omega
    rcases this with rfl|rfl|rfl
    ·exact ⟨_,rfl,ldP n1⟩
    ·exact ⟨_,rfl,ldP n2⟩
    ·exact ⟨_,rfl,ldP (by rw [Mem.zO _ _ (by have:=u1.next; have:=u2.next; omega)]; exact n2)⟩
  simp only [st0,XY (i:=i) (by omega)];have u04:Upd [rb,nb] m0 m4:=((hu.then' u1 (λb hb=>.inl (lcI.2 (.inl (List.mem_singleton.1 hb))))).then' u2 (λb hb=>.inl (lcI.2 (.inl (List.mem_singleton.1 hb))))).then' q2 (λb hb=>.inr (hvb b hb));have hq:∀ b∈qc v3,m0.next<=b:=λb hb=>(q3 b hb).elim (hvb b) (λh=>by have:=u1.next; have:=u2.next; have:=hu.next; omega)
  have hne3:nb∉qc v3:=λh=>by have:=hq _ h; omega
  refine ih (i+1) (m4.put nb (qg true v3 sk si)) v3 (by omega) hlt (by rw [Mem.qs _ _ hne]; exact g4) (Mem.qe ..) ?_ hq (u04.ki _ (.inl (by simp))) (by simp only [laI] at hlen ⊢; omega);have e5:l.take i++[l[i]]=l.take (i+1):=by rw [tsI hlt]
  rw [e5] at q1;exact q1.upd (Upd.put (fp:=[nb]) _ _ (by simp)) (λb hb=>by simp; rintro rfl; exact hne3 hb)
theorem Hg {x0 x2:Value} {rb nb:Nat} {m0:Mem} (hrb:rb<m0.next) (hnb:nb<m0.next) (hne:rb≠nb) {ks:List Bs} {ps:List Nat} (hl:ks.length<=255) (hps:ps.length=ks.length+1) (hs:∀ k∈ks,k.length<=32) (hp:∀ k∈ps,k<=65535) {z:Bs} {Q:Value->Mem->Prop} {sp:Value}
  (hQ:∀ m' v' w',m'.get rb=some (rdB z)->m'.get nb=some (qg false sp v' w')->TAp encS 9 m' v' ks->(∀ b∈qc v',m0.next<=b)->TAp zN 3 m' w' ps->(∀ b∈qc w',m0.next<=b)->Upd [rb,nb] m0 m'->W (Kz x0 x2 (.pointer (some ⟨rb,0,none⟩)) (.int .u64 2) (.pointer (some ⟨nb,0,none⟩)) m') Q) :
  ∀ (d i:Nat) (m:Mem) (v w:Value),ks.length - i=d->i<=ks.length->m.get rb=some (rdB ((((ks.zip ps.tail).drop i).map yk).flatten++z))->m.get nb=some (qg false sp v w)->TAp encS 9 m v (ks.take i)->(∀ b∈qc v,m0.next<=b)->TAp zN 3 m w (ps.take (i+1))->(∀ b∈qc w,m0.next<=b)->(∀ b∈qc v,b∉qc w)->Upd [rb,nb] m0 m ->
  ((((ks.zip ps.tail).drop i).map yk).flatten++z).length<2 ^ 62 ->
  W (Xa x0 x2 (.pointer (some ⟨rb,0,none⟩)) (.int .u64 2) (.pointer (some ⟨nb,0,none⟩)) (.int .u64 (ks.length:Int)) (.int .u64 (i:Int)) m) Q:=by
 have hzl:(ks.zip ps.tail).length=ks.length:=by rw [List.length_zip,List.length_tail]; omega
 intro d
 induction d with
 | zero =>
  intro i m v w hd hi hr hn hv hvb hw hwb hvw hu hlen;obtain rfl:i=ks.length:=by omega
  rw [P165_1_eq];simp only [st0,Int.lt_irrefl];rw [show (ks.zip ps.tail).drop ks.length=[] by rw [<- hzl]; exact List.drop_length] at hr;rw [List.take_length] at hv;rw [List.take_of_length_le (by omega)] at hw;exact hQ m v w hr hn hv hvb hw hwb hu
 | succ d ih =>
  intro i m v w hd hi hr hn hv hvb hw hwb hvw hu hlen;have hlt:i<ks.length:=by omega
  have hlt2:i+1<ps.length:=by omega
  have hk:=hs _ (List.getElem_mem hlt);have hk2:=hp _ (List.getElem_mem hlt2);have e1:((i:Int)<(ks.length:Int))=True:=eq_true (by omega);have ed:(((ks.zip ps.tail).drop i).map yk).flatten++z=zD ks[i]++(xI ps[i+1]++((((ks.zip ps.tail).drop (i+1)).map yk).flatten++z)):=by
   rw [drop_cons (by omega:i<(ks.zip ps.tail).length),qaj hps hlt,List.map_cons,List.flatten_cons,yk]; simp only [aaI]
  rw [ed] at hr hlen;rw [P165_1_eq];simp only [st0,e1];have hrm:rb<m.next:=Nat.lt_of_lt_of_le hrb hu.next;have hnm:nb<m.next:=Nat.lt_of_lt_of_le hnb hu.next;refine qh.2 ((XH (most:=32) hr hrm hk (by omega) hlen).mono λv1 m1 ⟨r1,g1,u1⟩=>?_);subst r1;have n1:m1.get nb=some (qg false sp v w):=(u1.same nb hnm (by simp; exact λh=>hne h.symm)).trans hn;have ldT:∀ {M:Mem},M.get nb=some (qg false sp v w)->qa (.pointer (some ⟨nb,0+0,none⟩)) M=some (.bool false):=λg=>qm g rfl
  have ldK:∀ {M:Mem},M.get nb=some (qg false sp v w)->qa (.pointer (some ⟨nb,0+2,none⟩)) M=some v:=λg=>qm g rfl
  have e2:qt [.string ⟨#[]⟩] [(0,1,str ks[i])]=some (encS.flat [ks[i]]):=by kernel_rfl
  simp only [st0,fa,ldT n1,ldK n1,e2];have hd1:∀ b∈qc v,b∉[rb]:=λb hb hm=>by simp at hm; have:=hvb b hb; omega
  have hd2:∀ b∈qc w,b∉[rb]:=λb hb hm=>by simp at hm; have:=hwb b hb; omega
  refine zZ (E:=encS) [ks[i]] (by decide) (hv.upd u1 hd1) (by simp; omega) λv3 m3 q1 q2 q3=>?_
  have hnv:∀ {b:Nat},b<m0.next->b∉qc v:=λhb hm=>by have:=hvb _ hm; omega
  have n3:m3.get nb=some (qg false sp v w):=(q2.same nb (by have:=u1.next; omega) (hnv hnb)).trans n1;have g3:=(q2.same rb (by have:=u1.next; omega) (hnv hrb)).trans g1;have hw3:TAp zN 3 m3 w (ps.take (i+1)):=(hw.upd u1 hd2).upd q2 (λb hb hb'=>hvw b hb' hb);simp only [st0,fa,QO n3 q1.one];have hq:∀ b∈qc v3,m0.next<=b:=λb hb=>(q3 b hb).elim (hvb b) (λh=>by have:=u1.next; have:=hu.next; omega)
  have n4:(m3.put nb (qg false sp v3 w)).get nb=some (qg false sp v3 w):=Mem.qe ..;have g4:(m3.put nb (qg false sp v3 w)).get rb=_:=(Mem.qs m3 _ hne).trans g3;have up:Upd [nb] m3 (m3.put nb (qg false sp v3 w)):=Upd.put _ _ (by simp);have hq1:TAp encS 9 (m3.put nb (qg false sp v3 w)) v3 (ks.take i++[ks[i]]):=q1.upd up (λb hb hm=>by simp at hm; have:=hq b hb; omega);have hw4:TAp zN 3 (m3.put nb (qg false sp v3 w)) w (ps.take (i+1)):=hw3.upd up (λb hb hm=>by simp at hm; have:=hwb b hb; omega);have u04:Upd [rb,nb] m0 (m3.put nb (qg false sp v3 w)):=((hu.then' u1 (λb hb=>.inl (lcI.2 (.inl (List.mem_singleton.1 hb))))).then' q2 (λb hb=>.inr (hvb b hb))).ki _ (.inl (by simp));have hv3w:∀ b∈qc v3,b∉qc w:=λb hb hb'=>(q3 b hb).elim (λh=>hvw b h hb') (λh=>by have:=hw.lt b hb'; have:=u1.next; omega)
  generalize (m3.put nb (qg false sp v3 w))=m4 at n4 g4 hq1 hw4 u04;have ldI:∀ {M:Mem},M.get nb=some (qg false sp v3 w)->qa (.pointer (some ⟨nb,0+3,none⟩)) M=some w:=λg=>qm g rfl
  simp only [st0,fa,ldI n4];have hn4:=u04.next;refine qh.2 ((JG hk2 g4 (by omega) (by rw [laI] at hlen; omega)).mono λv5 m5 ⟨r5,g5,u5⟩=>?_);subst r5;have n5:m5.get nb=some (qg false sp v3 w):=(u5.same nb (by omega) (by simp; exact λh=>hne h.symm)).trans n4;have e3:zn .i64 (.int .u64 (ps[i+1]:Int))=some (.int .i64 (ps[i+1]:Int)):=Zo .u64 (by omega) (by omega);have e4:qt [.int .i64 0] [(0,1,.int .i64 (ps[i+1]:Int))]=some (zN.flat [ps[i+1]]):=by kernel_rfl
  simp only [st0,e3,e4];have hd3:∀ b∈qc v3,b∉[rb]:=λb hb hm=>by simp at hm; have:=hq b hb; omega
  refine zZ (E:=zN) [ps[i+1]] (by decide) (hw4.upd u5 hd2) (by simp; omega) λw6 m6 q4 q5 q6=>?_
  have hnw:∀ {b:Nat},b<m0.next->b∉qc w:=λhb hm=>by have:=hwb _ hm; omega
  have n6:m6.get nb=some (qg false sp v3 w):=(q5.same nb (by have:=u5.next; omega) (hnw hnb)).trans n5;have g6:=(q5.same rb (by have:=u5.next; omega) (hnw hrb)).trans g5;simp only [st0,fa,yh n6 q4.one];refine jC (λr hr=>?_) ?_
  ·simp only [lcI,nmI,or_false] at hr;subst hr;exact okR λk _ hk=>by
    have:k=0∨k=1∨k=2:=by omega
    rcases this with rfl|rfl|rfl
    ·exact ⟨_,rfl,ldI n4⟩
    ·exact ⟨_,rfl,ldI n5⟩
    ·exact ⟨_,rfl,ldI (by rw [Mem.zO _ _ (by have:=u5.next; omega)]; exact n5)⟩
  simp only [st0,XY (i:=i) (by omega)];have u06:Upd [rb,nb] m0 m6:=(u04.then' u5 (λb hb=>.inl (lcI.2 (.inl (List.mem_singleton.1 hb))))).then' q5 (λb hb=>.inr (hwb b hb));have hq6:∀ b∈qc w6,m0.next<=b:=λb hb=>(q6 b hb).elim (hwb b) (λh=>by have:=u5.next; omega)
  have hv6:TAp encS 9 m6 v3 (ks.take i++[ks[i]]):=(hq1.upd u5 hd3).upd q5 hv3w;have e5:ks.take i++[ks[i]]=ks.take (i+1):=by rw [tsI hlt]
  have e6:ps.take (i+1)++[ps[i+1]]=ps.take (i+1+1):=by rw [tsI hlt2]
  rw [e5] at hv6;rw [e6] at q4;have up6:Upd [nb] m6 (m6.put nb (qg false sp v3 w6)):=Upd.put _ _ (by simp);have hx:∀ {x:Value},(∀ b∈qc x,m0.next<=b)->∀ b∈qc x,b∉[nb]:=λh b hb hm=>by simp at hm; have:=h b hb; omega
  refine ih (i+1) (m6.put nb (qg false sp v3 w6)) v3 w6 (by omega) hlt (by rw [Mem.qs _ _ hne]; exact g6) (Mem.qe ..) (hv6.upd up6 (hx hq)) hq (q4.upd up6 (hx hq6)) hq6 (λb hb hb'=>?_) (u06.ki _ (.inl (by simp))) (by simp only [laI] at hlen ⊢; omega);exact (q6 b hb').elim (hv3w b hb) (λh=>by have:=hq1.lt b hb; have:=u5.next; omega)
theorem qbZ {page:Bs} (hpage:page.length=256) {ob rb nb:Nat} {n:Nd} {sp sk si:Value} {m:Mem} {lo k:Nat} (hob:ob≠nb) (hob2:ob≠rb) (hne:rb≠nb) (hlt:ob<m.next/\rb<m.next/\nb<m.next)
  (hr:m.get rb=some (rdB (qp k))) (hk:k<=256) (hn:m.get nb=some (qg n.leaf sp sk si)) (ho:∃ a b c d,m.get ob=some (qg a b c d)) (hok:qO n=true) (hp:n.pairs.length<=1000) (hkk:n.keys.length<=1000)
  (h1:TAp qK 81 m sp n.pairs) (h2:TAp encS 9 m sk n.keys) (h3:TAp zN 3 m si n.kids) (hlo:(∀ b∈qc sp,lo<=b)/\(∀ b∈qc sk,lo<=b)/\(∀ b∈qc si,lo<=b)) (hl:ob<lo/\rb<lo/\nb<lo) :
  W (Kz (str page) (.pointer (some ⟨ob,0,none⟩)) (.pointer (some ⟨rb,0,none⟩)) (.int .u64 (if n.leaf then 1 else 2)) (.pointer (some ⟨nb,0,none⟩)) m) λr m'=>(∃ v,r=.tuple #[v,.int .i64 0]/\TN lo m' v n/\v=kT n.leaf sp sk si)/\Upd [ob,rb] m m':=by
 rw [P165_2_eq];have c1:=He hr;have c2:=qbW hr (by simp [qp]; omega);have g2:(m.put rb (rdB [])).get rb=some (rdB []):=Mem.qe ..;have c3:=QJ g2;have n2:(m.put rb (rdB [])).get nb=some (qg n.leaf sp sk si):=(Mem.qs m _ (λh=>hne h.symm)).trans hn;have u2:Upd [rb] m (m.put rb (rdB [])):=Upd.put _ _ (by simp);obtain ⟨oa,oc,od,oe,ho⟩:=ho;have o2:(m.put rb (rdB [])).get ob=some (qg oa oc od oe):=(Mem.qs m _ hob2).trans ho;have k1:RSl lo qK (m.put rb (rdB [])) sp n.pairs:=(h1.rsl hlo.1).upd u2 (λb hb=>by simp at hb; omega);have k2:RSl lo encS (m.put rb (rdB [])) sk n.keys:=(h2.rsl hlo.2.1).upd u2 (λb hb=>by simp at hb; omega);have k3:RSl lo zN (m.put rb (rdB [])) si n.kids:=(h3.rsl hlo.2.2).upd u2 (λb hb=>by simp at hb; omega);simp only [st0,c1,c2];generalize hm2:m.put rb (rdB [])=m2 at g2 n2 u2 o2 k1 k2 k3 c3;have hN:TN lo m2 (kT n.leaf sp sk si) n:=⟨_,_,_,rfl,k1,k2,k3⟩;have d1:decide ((1:Int)=1)=true:=rfl;have d2:decide ((2:Int)=1)=false:=rfl;have d3:decide ((2:Int)=2)=true:=rfl;have d4:decide ((0:Int)=0)=true:=rfl;have d5:decide ((256:Int)=256)=true:=rfl;have d6:decide (((256:Nat):Int)=256)=true:=rfl;have hz:∀ (M:Mem),Call S tab 108 [str (qp k),.string ⟨#[0]⟩] M=some (str [],M):=λM=>qbO k (by omega) M
 have lw:∀ {M:Mem} {lf:Bool},M.get nb=some (qg lf sp sk si)->ql 4 (.pointer (some ⟨nb,0,none⟩)) M=some (.agg #[.bool lf,sp,sk,si]):=λg=>zG g rfl
 have lwo:∀ {M:Mem} {lf:Bool},M.get ob=some (qg lf sp sk si)->ql 4 (.pointer (some ⟨ob,0,none⟩)) M=some (.agg #[.bool lf,sp,sk,si]):=λg=>zG g rfl
 have hn2:m2.next=m.next:=by rw [<- hm2]; rfl
 have e0:arith .neq (str []) (.string ⟨#[]⟩)=some (.bool false):=QS [] [];cases hl:n.leaf with
 | true =>
  rw [hl] at hN n2;simp only [st0,if_true,d1,d4,c3,qZ,hpage,d5,d6,lw n2];refine qh.2 (qh.2 ((JI hN hok (by omega) (by omega)).mono λr m3 ⟨hr3,u3⟩=>zv.2 ?_));subst hr3;have n3:=qq u3 (by omega) n2;have o3:=qq u3 (by omega) o2;simp only [st0,hz,e0,lw n3,qX o3 true h1.one.2 h2.one.2 h3.one.2,lwo (Mem.qe m3 ob (qg true sp sk si))];refine ⟨⟨_,rfl,(hN.qn u3).upd (fp:=[ob]) (Upd.put _ _ (by simp)) (λb hb=>by simp at hb; omega),rfl⟩,?_⟩;exact (((u2.mono (λb hb _=>by simp at hb; simp [hb])).then' u3 (λb hb=>by cases hb)).ki _ (.inl (by simp)))
 | false =>
  rw [hl] at hN n2;simp only [st0,d2,d3,d4,c3,qZ,hpage,d5,d6,lw n2];refine qh.2 (qh.2 ((JI hN hok (by omega) (by omega)).mono λr m3 ⟨hr3,u3⟩=>zv.2 ?_));subst hr3;have n3:=qq u3 (by omega) n2;have o3:=qq u3 (by omega) o2;simp only [st0,hz,e0,lw n3,qX o3 false h1.one.2 h2.one.2 h3.one.2,lwo (Mem.qe m3 ob (qg false sp sk si))];refine ⟨⟨_,rfl,(hN.qn u3).upd (fp:=[ob]) (Upd.put _ _ (by simp)) (λb hb=>by simp at hb; omega),rfl⟩,?_⟩;exact (((u2.mono (λb hb _=>by simp at hb; simp [hb])).then' u3 (λb hb=>by cases hb)).ki _ (.inl (by simp)))
theorem qao {α:Type} (g:α->Nat) (c:Nat) (h:∀ a,c<=g a):∀ l:List α,c * l.length<=(l.map g).sum
 | []=>by simp
 | a::l=>by
  have:=qao g c h l;have:=h a;simp only [lnI,List.map_cons,List.sum_cons,Nat.mul_add,Nat.mul_one];omega
theorem vW {n:Nd} (h:qO n=true) (hs:qW n<=256):n.pairs.length<=127/\n.keys.length<=84:=by
 unfold qO at h;unfold qW at hs;cases hl:n.leaf with
 | true =>
  simp only [hl,if_true,baI,List.isEmpty_iff] at h hs;have:=qao qJ 2 (λp=>by unfold qJ; omega) n.pairs;rw [h.1.1.1];exact ⟨by omega,by simp⟩
 | false =>
  simp only [hl,Bool.false_eq_true,if_false,baI,List.isEmpty_iff] at h hs;have:=qao (λk:Bs=>3+k.length) 3 (λp=>by omega) n.keys;rw [h.1.1.1];exact ⟨by simp,by omega⟩
theorem xN {n:Nd} (h:qO n=true) (hl:n.leaf=true):n.keys=[]/\n.kids=[]/\qE (n.pairs.map (·.1))=true/\∀ p∈n.pairs,p.1≠[]/\p.1.length<=32/\p.2.length<=40:=by
 simp only [qO,hl,if_true,baI,List.all_eq_true,decide_eq_true_eq,List.isEmpty_iff] at h;refine ⟨h.1.1.1,h.1.1.2,h.1.2,λp hp=>?_⟩;obtain ⟨i,hi,rfl⟩:=List.mem_iff_getElem.1 hp;have:=zW h.1.2 i (by simpa using hi);rw [List.getElem_map] at this;exact ⟨this.1,this.2.1,h.2 _ hp⟩
theorem zo {n:Nd} (h:qO n=true) (hl:n.leaf=false):n.pairs=[]/\n.kids.length=n.keys.length+1/\qE n.keys=true/\(∀ k∈n.keys,k≠[]/\k.length<=32)/\∀ k∈n.kids,1<=k/\k<=65535:=by
 simp only [qO,hl,Bool.false_eq_true,if_false,baI,List.all_eq_true,decide_eq_true_eq,List.isEmpty_iff] at h;refine ⟨h.1.1.1,h.1.1.2,h.1.2,λp hp=>?_,h.2⟩;obtain ⟨i,hi,rfl⟩:=List.mem_iff_getElem.1 hp;have:=zW h.1.2 i hi;exact ⟨this.1,this.2.1⟩
theorem qfh {n:Nd} (m:Mem) (hr:qO n=true) (hs:qW n<=256) :
  W (Call S tab 165 [str (zC n)] m) λr m'=>(∃ v,r=.tuple #[v,.int .i64 0]/\TN m.next m' v n/\(n.leaf=true->∃ sp,v=kT true sp (.slice none 0 0) (.slice none 0 0)))/\Upd [] m m':=by
 have hfew:=vW hr hs;have hlen:=Zn hr hs;have hbl:=ZW hr;rw [qmn];have u1:Upd [] m (m.add (qg false (.slice none 0 0) (.slice none 0 0) (.slice none 0 0))):=Upd.add _ _ _;have o1:(m.add (qg false (.slice none 0 0) (.slice none 0 0) (.slice none 0 0))).get m.next=some (qg false (.slice none 0 0) (.slice none 0 0) (.slice none 0 0)):=Mem.qf ..;have x1:(m.add (qg false (.slice none 0 0) (.slice none 0 0) (.slice none 0 0))).next=m.next+1:=rfl;simp only [st0,WG];generalize hm1:m.add (qg false (.slice none 0 0) (.slice none 0 0) (.slice none 0 0))=m1 at u1 o1 x1;have u2:Upd [] m1 (m1.add (rdB (zC n))):=Upd.add _ _ _;have g2:(m1.add (rdB (zC n))).get m1.next=some (rdB (zC n)):=Mem.qf ..;have x2:(m1.add (rdB (zC n))).next=m1.next+1:=rfl;have o2:=qq u2 (by omega) o1;generalize hm2:m1.add (rdB (zC n))=m2 at u2 g2 x2 o2;cases hl:n.leaf with
 | true =>
  obtain ⟨hk0,hi0,hris,hps⟩:=xN hr hl;have hbody:zC n=1::UInt8.ofNat n.pairs.length::((n.pairs.map xR).flatten++qp (256 - (vg n).length)):=by
   unfold zC; conv=>lhs; arg 1; unfold vg
   rw [if_pos hl]; simp
  rw [hbody] at g2;rw [hbody] at hlen;refine qh.2 ((wa g2 (by omega) (by omega)).mono λv3 m3 ⟨r3,g3,u3⟩=>?_);rw [show (Value.int .u64 (((1:UInt8).toNat:Nat):Int))=.int .u64 1 from rfl] at r3;subst r3;refine qh.2 ((wa g3 (by have:=u3.next; omega) (by simp at hlen ⊢; omega)).mono λv4 m4 ⟨r4,g4,u4⟩=>?_);rw [show (UInt8.ofNat n.pairs.length).toNat=n.pairs.length by simp; omega] at r4;subst r4;have u24:Upd [m1.next] m2 m4:=u3.trans u4;have o4:m4.get m.next=_:=(u24.same m.next (by omega) (by simp; omega)).trans o2;have d1:decide ((1:Int)=1)=true:=rfl;have d2:decide ((1:Int)=2)=false:=rfl;have e1:qt [.bool false,.slice none 0 0,.slice none 0 0,.slice none 0 0] [(0,1,.bool true)]=some [.bool true,.slice none 0 0,.slice none 0 0,.slice none 0 0]:=by kernel_rfl
  have n4:=u24.next;simp only [st0,d1,d2,e1];refine jf (c:=[.bool true,.slice none 0 0,.slice none 0 0,.slice none 0 0]) rfl rfl rfl λm5 b5 u5 n5=>?_
  have g5:=(u5.same m1.next (by omega) (by simp)).trans g4;have o5:=qq u5 (by omega) o4;rw [P165_0_eq];refine qaG (m0:=m5) (by omega) n5 (by omega) (by omega) (λp hp=>(hps p hp).2) (z:=qp (256 - (vg n).length)) (λm' v' g6 b6 hv hvb u6=>?_) _ 0 m5 _ rfl (by omega) (by rw [List.drop_zero]; exact g5) b5 (by rw [List.take_zero]; exact TAp.nil _) (λb hb=>by simp [qc] at hb) (Upd.refl _ _) (by rw [List.drop_zero]; simp at hlen ⊢; omega);have o6:=(u6.same m.next (by omega) (by simp; omega)).trans o5;have n6:=u6.next;have:=qbZ (page:=zC n) (ob:=m.next) (rb:=m1.next) (nb:=m4.next) (n:=n) (sp:=v') (sk:=.slice none 0 0) (si:=.slice none 0 0) (m:=m') (lo:=m5.next) (k:=256 - (vg n).length)
   (Zn hr hs) (by omega) (by omega) (by omega) ⟨by omega,by omega,by omega⟩ g6 (by omega) (by rw [hl]; exact b6) ⟨_,_,_,_,o6⟩ hr (by omega) (by omega) hv (by rw [hk0]; exact TAp.nil _) (by rw [hi0]; exact TAp.nil _) ⟨hvb,λb hb=>by simp [qc] at hb,λb hb=>by simp [qc] at hb⟩ ⟨by omega,by omega,by omega⟩
  rw [hl,if_pos rfl] at this;refine this.mono λr m7 ⟨⟨v,h1,h2,h4⟩,h3⟩=>⟨⟨v,h1,h2.low (by omega),λ_=>⟨_,h4⟩⟩,?_⟩
  exact (((((u1.qu u2).then' u24 (λb hb=>.inr (by simp at hb; omega))).qu u5).then' u6 (λb hb=>.inr (by simp at hb; omega))).then' h3 (λb hb=>.inr (by simp at hb; omega)))
 | false =>
  obtain ⟨hp0,hkl,hris,hks,hps⟩:=zo hr hl;have h0:0<n.kids.length:=by omega
  have hbody:zC n=2::UInt8.ofNat n.keys.length::(xI n.kids[0]++((((n.keys.zip n.kids.tail).map yk).flatten)++qp (256 - (vg n).length))):=by
   unfold zC; conv=>lhs; arg 1; unfold vg
   rw [if_neg (by simp [hl]),Vr h0]; simp
  rw [hbody] at g2;rw [hbody] at hlen;refine qh.2 ((wa g2 (by omega) (by omega)).mono λv3 m3 ⟨r3,g3,u3⟩=>?_);rw [show (Value.int .u64 (((2:UInt8).toNat:Nat):Int))=.int .u64 2 from rfl] at r3;subst r3;refine qh.2 ((wa g3 (by have:=u3.next; omega) (by simp at hlen ⊢; omega)).mono λv4 m4 ⟨r4,g4,u4⟩=>?_);rw [show (UInt8.ofNat n.keys.length).toNat=n.keys.length by simp; omega] at r4;subst r4;have u24:Upd [m1.next] m2 m4:=u3.trans u4;have o4:m4.get m.next=_:=(u24.same m.next (by omega) (by simp; omega)).trans o2;have d1:decide ((2:Int)=1)=false:=rfl;have d2:decide ((2:Int)=2)=true:=rfl;have e1:qt [.bool false,.slice none 0 0,.slice none 0 0,.slice none 0 0] [(0,1,.bool false)]=some [.bool false,.slice none 0 0,.slice none 0 0,.slice none 0 0]:=by kernel_rfl
  have n4:=u24.next;simp only [st0,d1,d2,e1];refine jf (c:=[.bool false,.slice none 0 0,.slice none 0 0,.slice none 0 0]) rfl rfl rfl λm5 b5 u5 n5=>?_
  have g5:=(u5.same m1.next (by omega) (by simp)).trans g4;have o5:=qq u5 (by omega) o4;have ldI:∀ {M:Mem},M.get m4.next=some (qg false (.slice none 0 0) (.slice none 0 0) (.slice none 0 0))->qa (.pointer (some ⟨m4.next,0+3,none⟩)) M=some (.slice none 0 0):=λg=>qm g rfl
  simp only [st0,fa,ldI b5];have hk0:=hps _ (List.getElem_mem h0);refine qh.2 ((JG hk0.2 g5 (by omega) (by simp [xI] at hlen ⊢; omega)).mono λv6 m6 ⟨r6,g6,u6⟩=>?_);subst r6;have b6:m6.get m4.next=_:=(u6.same m4.next (by omega) (by simp; omega)).trans b5;have e3:zn .i64 (.int .u64 (n.kids[0]:Int))=some (.int .i64 (n.kids[0]:Int)):=Zo .u64 (by omega) (by omega);have e4:qt [.int .i64 0] [(0,1,.int .i64 (n.kids[0]:Int))]=some (zN.flat [n.kids[0]]):=by kernel_rfl
  simp only [st0,e3,e4];refine zZ (E:=zN) (l:=[]) [n.kids[0]] (by decide) (TAp.nil m6) (by simp) λw7 m7 q1 q2 q3=>?_
  have q2':Upd [] m6 m7:=q2;have b7:=qq q2' (by have:=u6.next; omega) b6;simp only [st0,fa,yh b7 q1.one];refine jC (λr hr=>?_) ?_
  ·simp only [lcI,nmI,or_false] at hr;subst hr;exact okR λk _ hk=>by
    have:k=0∨k=1∨k=2:=by omega
    rcases this with rfl|rfl|rfl
    ·exact ⟨_,rfl,ldI b5⟩
    ·exact ⟨_,rfl,ldI b6⟩
    ·exact ⟨_,rfl,ldI (by rw [Mem.zO _ _ (by have:=u6.next; omega)]; exact b6)⟩
  have n6:=u6.next;have n7:=q2.next;have g7:=qq q2' (by omega) g6;have hw7:∀ b∈qc w7,m5.next<=b:=λb hb=>(q3 b hb).elim (λh=>by simp [qc] at h) (λh=>by omega)
  have g8:(m7.put m4.next (qg false (.slice none 0 0) (.slice none 0 0) w7)).get m1.next=_:=(Mem.qs m7 _ (by omega)).trans g7;have b8:(m7.put m4.next (qg false (.slice none 0 0) (.slice none 0 0) w7)).get m4.next=_:=Mem.qe ..;have u8:Upd [m1.next,m4.next] m5 (m7.put m4.next (qg false (.slice none 0 0) (.slice none 0 0) w7)):=((u6.mono (λb hb _=>lcI.2 (.inl (List.mem_singleton.1 hb)))).qu q2').ki _ (.inl (by simp));have hq8:TAp zN 3 (m7.put m4.next (qg false (.slice none 0 0) (.slice none 0 0) w7)) w7 [n.kids[0]]:=q1.upd (Upd.put (fp:=[m4.next]) _ _ (by simp)) (λb hb hm=>by simp at hm; have:=hw7 b hb; omega);generalize (m7.put m4.next (qg false (.slice none 0 0) (.slice none 0 0) w7))=m8 at g8 b8 u8 hq8;rw [P165_0_eq];have n8:=u8.next;refine Hg (m0:=m5) (by omega) n5 (by omega) (ks:=n.keys) (ps:=n.kids) (by omega) hkl (λk hk=>(hks k hk).2) (λk hk=>(hps k hk).2) (z:=qp (256 - (vg n).length)) (λm' v' w' g9 b9 hv hvb hw hwb u9=>?_) _ 0 m8 _ w7 rfl (by omega) (by rw [List.drop_zero]; exact g8) b8 (by rw [List.take_zero]; exact TAp.nil _) (λb hb=>by simp [qc] at hb) ?_ hw7 (λb hb=>by simp [qc] at hb) u8 (by rw [List.drop_zero]; simp [xI] at hlen ⊢; omega)
  ·have o9:=(u9.same m.next (by omega) (by simp; omega)).trans o5;have n9:=u9.next;have:=qbZ (page:=zC n) (ob:=m.next) (rb:=m1.next) (nb:=m4.next) (n:=n) (sp:=.slice none 0 0) (sk:=v') (si:=w') (m:=m') (lo:=m5.next) (k:=256 - (vg n).length)
    (Zn hr hs) (by omega) (by omega) (by omega) ⟨by omega,by omega,by omega⟩ g9 (by omega) (by rw [hl]; exact b9) ⟨_,_,_,_,o9⟩ hr (by omega) (by omega) (by rw [hp0]; exact TAp.nil _) hv hw ⟨λb hb=>by simp [qc] at hb,hvb,hwb⟩ ⟨by omega,by omega,by omega⟩
   rw [hl,if_neg (by simp)] at this;refine this.mono λr m10 ⟨⟨v,h1,h2,h4⟩,h3⟩=>⟨⟨v,h1,h2.low (by omega),λh=>by simp at h⟩,?_⟩
   exact (((((u1.qu u2).then' u24 (λb hb=>.inr (by simp at hb; omega))).qu u5).then' u9 (λb hb=>.inr (by simp at hb; omega))).then' h3 (λb hb=>.inr (by simp at hb; omega)))
  ·have:n.kids.take (0+1)=[n.kids[0]]:=by rw [tsI h0]; rfl
   rw [this]; exact hq8
end Go.Fx.Tryz
namespace Go.Fx.Tryz
open Go Go.Fx
def zM (ks:List Bs) (key:Bs):Nat:=(ks.filter λk=>!ltB key k).length
def za (l:List Pr) (key:Bs):Nat:=(l.filter λp=>ltB p.1 key).length
def zb (l:List Pr) (key:Bs):Bool:=match l[za l key]? with|some p=>decide (p.1=key)|none=>false
def xA (l:List Pr) (key:Bs):List Pr:=if zb l key then l.eraseIdx (za l key) else l
def xO (l:List Pr) (key val:Bs):List Pr:=(xA l key).take (za l key)++[(key,val)]++(xA l key).drop (za l key)
theorem Xr {α:Type} (f:α->Bool) (l:List α) {i:Nat} (h:i<l.length):((l.take (i+1)).filter f).length=((l.take i).filter f).length+(if f l[i] then 1 else 0):=by
 rw [tsI h,List.filter_append,laI];cases hf:f l[i]<;>simp [hf]
theorem qbn {lo:Nat} {ks:List Bs} {sk:Value} (hl:ks.length<=65536) (key:Bs):∀ (d i:Nat) (m:Mem),ks.length - i=d->i<=ks.length->RSl lo encS m sk ks ->
  W (KA (str key) (.int .i64 (((ks.take i).filter λk=>!ltB key k).length:Nat)) sk (.int .i64 (ks.length:Int)) (.int .i64 (i:Int)) m) λr m'=>r=.int .i64 (zM ks key:Nat)/\m'=m:=by
 intro d
 induction d with
 | zero =>
  intro i m hd hi h;obtain rfl:i=ks.length:=by omega
  rw [P124_0_eq];simp only [st0,Int.lt_irrefl,List.take_length];exact ⟨rfl,trivial⟩
 | succ d ih =>
  intro i m hd hi h;have hlt:i<ks.length:=by omega
  have e1:((i:Int)<(ks.length:Int))=True:=eq_true (by omega);obtain ⟨p,h1,_,h2⟩:=h.1.index .i64 (jB hlt);rw [xw] at h1;have h2:=h2 (str ks[i]) rfl;have hle:((ks.take i).filter λk=>!ltB key k).length<=65536:=Nat.le_trans (List.length_filter_le ..) (by rw [ltI]; omega);have hs:=Xr (λk=>!ltB key k) ks hlt;have ih':=ih (i+1) m (by omega) hlt h;rw [P124_0_eq];cases hc:ltB key ks[i] with
  | true =>
   rw [hs] at ih';simp only [st0,e1,h1,h2,QX,hc,qB (i:=i) (by omega)];simpa [hc] using ih'
  | false =>
   rw [hs] at ih';simp only [st0,e1,h1,h2,QX,hc,qB (i:=i) (by omega),qB (i:=((ks.take i).filter λk=>!ltB key k).length) (by omega)];simpa [hc] using ih'
theorem Kj {lo:Nat} {v:Value} {n:Nd} {m:Mem} (key:Bs) (h:TN lo m v n) (hf:n.Fit):W (Call S tab 124 [v,str key] m) λr m'=>r=.int .i64 (zM n.keys key:Nat)/\Upd [] m m':=by
 obtain ⟨sp,sk,si,rfl,h1,h2,h3⟩:=h.ex;rw [qmA];have g1:(m.add (qg n.leaf sp sk si)).get m.next=some (qg n.leaf sp sk si):=Mem.qf ..;have u1:Upd [] m (m.add (qg n.leaf sp sk si)):=Upd.add _ _ _;simp only [st0,fa,qS,TN.load g1 (o:=0+2) rfl,zf h2];have:=qbn hf.kl key _ 0 _ rfl (by omega) (h2.qn u1);exact this.mono λr m' ⟨hr,hm⟩=>⟨hr,hm ▸ u1⟩
theorem qdP {lo:Nat} {l:List Pr} {sp:Value} {x2:Value} (hl:l.length<=65536) (key:Bs) {Q:Value->Mem->Prop} {m0:Mem}
  (hQ:∀ m',Upd [] m0 m'->RSl lo qK m' sp l->W (qbA (str key) x2 (.int .i64 (za l key:Nat)) m') Q):∀ (d i:Nat) (m:Mem),l.length - i=d->i<=l.length->RSl lo qK m sp l->Upd [] m0 m ->
  W (KB (str key) x2 (.int .i64 (((l.take i).filter λp=>ltB p.1 key).length:Nat)) sp (.int .i64 (l.length:Int)) (.int .i64 (i:Int)) m) Q:=by
 intro d
 induction d with
 | zero =>
  intro i m hd hi h hu;obtain rfl:i=l.length:=by omega
  rw [P123_0_eq];simp only [st0,Int.lt_irrefl,List.take_length];exact hQ m hu h
 | succ d ih =>
  intro i m hd hi h hu;have hlt:i<l.length:=by omega
  have e1:((i:Int)<(l.length:Int))=True:=eq_true (by omega);obtain ⟨b,off,h1,h2⟩:=h.1.at .i64 (jB hlt);rw [qT] at h1 h2;have h2:=h2 m h.1;have hle:((l.take i).filter λp=>ltB p.1 key).length<=65536:=Nat.le_trans (List.length_filter_le ..) (by rw [ltI]; omega);have hs:=Xr (λp:Pr=>ltB p.1 key) l hlt;rw [P123_0_eq];simp only [st0,e1,h1,h2.1];refine jf (c:=qK.cells l[i]) rfl rfl rfl λm1 g1 u1 n1=>?_
  have ih':=ih (i+1) m1 (by omega) hlt (h.qn u1) (hu.qu u1);rw [hs] at ih';have ld:=qm (o:=0+0) (v:=str l[i].1) g1 rfl;cases hc:ltB l[i].1 key with
  | true =>
   simp only [st0,fa,ld,XO,hc,qB (i:=i) (by omega),qB (i:=((l.take i).filter λp=>ltB p.1 key).length) (by omega)];simpa [hc] using ih'
  | false =>
   simp only [st0,fa,ld,XO,hc,qB (i:=i) (by omega)];simpa [hc] using ih'
theorem XP {lo:Nat} {v:Value} {n:Nd} {m:Mem} (key:Bs) (h:TN lo m v n) (hf:n.Fit):W (Call S tab 123 [v,str key] m) λr m'=>r=.tuple #[.int .i64 (za n.pairs key:Nat),.bool (zb n.pairs key)]/\Upd [] m m':=by
 obtain ⟨sp,sk,si,rfl,h1,h2,h3⟩:=h.ex;rw [qmB];have g1:(m.add (qg n.leaf sp sk si)).get m.next=some (qg n.leaf sp sk si):=Mem.qf ..;have u1:Upd [] m (m.add (qg n.leaf sp sk si)):=Upd.add _ _ _;have n1:m.next<(m.add (qg n.leaf sp sk si)).next:=by simp
 simp only [st0,fa,qS,TN.load g1 (o:=0+1) rfl,zf h1];refine qdP (m0:=m.add (qg n.leaf sp sk si)) hf.pl key (λm' u2 h1'=>?_) _ 0 _ rfl (by omega) (h1.qn u1) (Upd.refl _ _);have g2:=qq u2 n1 g1;rw [P123_1_eq];unfold zb;by_cases hc:za n.pairs key<n.pairs.length
 ·have e1:((za n.pairs key:Nat):Int)<(n.pairs.length:Int):=by omega
  obtain ⟨b,off,q1,q2⟩:=h1'.1.at .i64 (jB hc);rw [qT] at q1 q2;have q2:=(q2 m' h1'.1).2 0 (str (n.pairs[za n.pairs key]).1) rfl;simp only [st0,fa,TN.load g2 (o:=0+1) rfl,zf h1',eq_true e1,q1,q2,jJ];rw [List.getElem?_eq_getElem hc];exact ⟨rfl,u1.qu u2⟩
 ·have e1:¬ (((za n.pairs key:Nat):Int)<(n.pairs.length:Int)):=by omega
  simp only [st0,fa,TN.load g2 (o:=0+1) rfl,zf h1',eq_false e1];rw [List.getElem?_eq_none (by omega)];exact ⟨rfl,u1.qu u2⟩
structure TIn {α:Type} (E:Enc α) (e:TypeId) (m:Mem) (v:Value) (l:List α):Prop where
 ap:TAp E e m v l
 lo:l≠[]->∃ b cap rest,v=.slice (some ⟨b,0,none⟩) l.length cap/\b<m.next/\m.get b=some ⟨.cells (E.flat l++rest) e,false,some E.size⟩/\rest.length=(cap - l.length) * E.size/\l.length<=cap
theorem TIn.nil {α:Type} (E:Enc α) (e:TypeId) (m:Mem):TIn E e m (.slice none 0 0) []:=⟨TAp.nil m,λh=>absurd rfl h⟩
theorem TIn.upd {α:Type} {E:Enc α} {e:TypeId} {fp:List Nat} {m m':Mem} {v:Value} {l:List α} (h:TIn E e m v l) (hu:Upd fp m m') (hk:∀ b∈qc v,b∉fp):TIn E e m' v l:=by
 refine ⟨h.ap.upd hu hk,λhl=>?_⟩;obtain ⟨b,cap,rest,rfl,h1,h2,h3,h4⟩:=h.lo hl;exact ⟨b,cap,rest,rfl,Nat.lt_of_lt_of_le h1 hu.next,by rw [hu.same b h1 (hk b (by simp [qc]))]; exact h2,h3,h4⟩
theorem TIn.qn {α:Type} {E:Enc α} {e:TypeId} {m m':Mem} {v:Value} {l:List α} (h:TIn E e m v l) (hu:Upd [] m m'):TIn E e m' v l:=h.upd hu (λb _ hb=>by simp at hb)
theorem Qs {α:Type} {E:Enc α} {e:TypeId} {eb:Nat} {m:Mem} {v:Value} {l:List α} (hs:0<E.size) (hn:l.length * (eb+1)<=2 ^ 47) (h:TSl E m v l) (hb:∀ b∈qc v,b<m.next) {Q:Value->Mem->Prop}
  (hQ:∀ v' m',TIn E e m' v' l->Upd [] m m'->(∀ b∈qc v',m.next<=b)->Q v' m') :
  W ((qM E.size v (m.add ⟨.cells [] e,false,none⟩)).bind λp=>(qA e E.size eb (.slice (some ⟨m.next,0,none⟩) 0 0) p.1 p.2 (m.add ⟨.cells [] e,false,none⟩)).bind λq=>some (q.1,q.2)) Q:=by
 have h1:=(h.upd (fp:=[]) (Upd.add _ m ⟨.cells [] e,false,none⟩) (λb hbb=>⟨hb b hbb,by simp⟩)).src;rw [h1];have hx:l.length * eb<=l.length * (eb+1):=Nat.mul_le_mul_left _ (by omega);have hy:l.length<=l.length * (eb+1):=Nat.le_mul_of_pos_right _ (by omega);have hc0:¬ ¬ ((0+l.length) * eb<=2 ^ 47/\(0+l.length)<=2 ^ 47/\(E.flat l).length=l.length * E.size/\(E.flat l).all (·.oneCell')=true):=by
  simp only [Decidable.not_not,Nat.zero_add]; exact ⟨by omega,by omega,E.zd l,E.wu l⟩
 by_cases hl:l=[]
 ·subst hl;refine W.Zp rfl (W.Zp (a:=(.slice (some ⟨m.next,0,none⟩) 0 0,m.add ⟨.cells [] e,false,none⟩)) ?_ (zv.2 (hQ _ _ ⟨TAp.fresh m [],λh=>absurd rfl h⟩ (Upd.add _ _ _) (λb hb=>by simp [qc] at hb; omega))));simp only [qA,if_neg hc0];simp
 ·have hl0:l.length≠0:=by simpa using hl
  have hk':¬ (0+l.length<=0):=by omega
  have hg:(m.add ⟨.cells [] e,false,none⟩).get m.next=some ⟨.cells [] e,false,none⟩:=Mem.qf ..;have hnx:(m.add ⟨.cells [] e,false,none⟩).next=m.next+1:=rfl;refine W.Zp rfl (W.Zp (a:=(.slice (some ⟨m.next+1,0,none⟩) l.length l.length,(m.add ⟨.cells [] e,false,none⟩).add ⟨.cells (E.flat l) e,false,some E.size⟩)) ?_ (zv.2 (hQ _ _ ⟨.inr ⟨m.next+1,l.length,[],some E.size,rfl,by simp,?_,.inr rfl,by simp,Nat.le_refl _⟩,λ_=>⟨m.next+1,l.length,[],rfl,by simp,?_,by simp,Nat.le_refl _⟩⟩ ((Upd.add _ _ _).qeg _) (λb hb=>by simp [qc] at hb; omega))))
  ·simp only [qA,if_neg hc0,if_neg hk',hg];rw [if_pos (by simp)];simp [hnx]
  ·rw [<- hnx,Mem.qf]; simp
  ·rw [<- hnx,Mem.qf]; simp
theorem yY {α:Type} {E:Enc α} {m:Mem} {v:Value} {l:List α} (h:TSl E m v l):(v=.slice none 0 0/\l=[])∨∃ b off cap,v=.slice (some ⟨b,off,none⟩) l.length cap:=by
 obtain ⟨_,⟨rfl,h0⟩|⟨b,off,cap,rfl,_⟩⟩:=h
 ·exact .inl ⟨rfl,by simpa using h0⟩
 ·exact .inr ⟨b,off,cap,rfl⟩
theorem qgo:qU .slice false (.slice none 0 0) (.slice none 0 0)=some (.bool true):=rfl
theorem qgn (p:Addr) (n c:Nat):qU .slice false (.slice (some p) n c) (.slice none 0 0)=some (.bool false):=rfl
theorem qbs:qt [] []=some []:=rfl
theorem ZV {lo:Nat} {v:Value} {l:List Pr} {m:Mem} (h:RSl lo qK m v l) (hl:l.length<=65536):W (Call S tab 176 [v] m) λr m'=>TIn qK 81 m' r l/\Upd [] m m'/\∀ b∈qc r,m.next<=b:=by
 rw [qmd];rcases yY h.1 with ⟨rfl,rfl⟩|⟨b,off,cap,rfl⟩
 ·simp only [st0,qgo];exact ⟨TIn.nil _ _ _,Upd.refl _ _,λb hb=>by simp [qc] at hb⟩
 ·simp only [st0,qgn,qbs];exact Qs (E:=qK) (by decide) (by omega) h.1 (λb hb=>(h.2 b hb).2) λv' m' q1 q2 q3=>⟨q1,q2,q3⟩
theorem VA {lo:Nat} {v:Value} {l:List Bs} {m:Mem} (h:RSl lo encS m v l) (hl:l.length<=65536):W (Call S tab 205 [v] m) λr m'=>TIn encS 9 m' r l/\Upd [] m m'/\∀ b∈qc r,m.next<=b:=by
 rw [qlS];rcases yY h.1 with ⟨rfl,rfl⟩|⟨b,off,cap,rfl⟩
 ·simp only [st0,qgo];exact ⟨TIn.nil _ _ _,Upd.refl _ _,λb hb=>by simp [qc] at hb⟩
 ·simp only [st0,qgn,qbs];exact Qs (E:=encS) (by decide) (by omega) h.1 (λb hb=>(h.2 b hb).2) λv' m' q1 q2 q3=>⟨q1,q2,q3⟩
theorem VB {lo:Nat} {v:Value} {l:List Nat} {m:Mem} (h:RSl lo zN m v l) (hl:l.length<=65536):W (Call S tab 206 [v] m) λr m'=>TIn zN 3 m' r l/\Upd [] m m'/\∀ b∈qc r,m.next<=b:=by
 rw [qlR];rcases yY h.1 with ⟨rfl,rfl⟩|⟨b,off,cap,rfl⟩
 ·simp only [st0,qgo];exact ⟨TIn.nil _ _ _,Upd.refl _ _,λb hb=>by simp [qc] at hb⟩
 ·simp only [st0,qgn,qbs];exact Qs (E:=zN) (by decide) (by omega) h.1 (λb hb=>(h.2 b hb).2) λv' m' q1 q2 q3=>⟨q1,q2,q3⟩
theorem bV {len cap i j:Nat} (h1:i<=j) (h2:j<=cap):zz len cap (some (.int .i64 (i:Int))) (some (.int .i64 (j:Int)))=some (i,j):=by
 have e1:(0:Int)<=(j:Int)/\(j:Int)<=(cap:Int):=by omega
 have e2:(0:Int)<=(i:Int)/\(i:Int)<=(j:Int):=by omega
 simp only [zz,xB,if_pos e1,bmI,if_pos e2,Option.map_some,Int.toNat_natCast]
theorem bV0 {len cap j:Nat} (h2:j<=cap):zz len cap none (some (.int .i64 (j:Int)))=some (0,j):=by
 have e1:(0:Int)<=(j:Int)/\(j:Int)<=(cap:Int):=by omega
 simp only [zz,xB,if_pos e1,bmI,Option.map_some,Int.toNat_natCast]
theorem Kf {α:Type} (l:List α) (i:Nat):l.eraseIdx i=l.take i++l.drop (i+1):=List.eraseIdx_eq_take_drop_succ l i
theorem qjq {α:Type} (E:Enc α) (l:List α) {i:Nat} (hi:i<l.length) (rest:List Value):∃ x:List Value,x.length=E.size/\qQ (E.flat l++rest) (i * E.size) (E.flat (l.drop (i+1)))=E.flat (l.eraseIdx i)++(x++rest):=by
 have h1:(E.flat l++rest)=E.flat (l.take i)++(((E.flat (l.drop i)).take ((l.length - (i+1)) * E.size))++((E.flat (l.drop i)).drop ((l.length - (i+1)) * E.size)++rest)):=by
  rw [<- aaI ((E.flat (l.drop i)).take _),List.take_append_drop,<- aaI,<- E.xr,List.take_append_drop]
 have h2:=xj (E.flat (l.take i)) ((E.flat (l.drop i)).take ((l.length - (i+1)) * E.size)) ((E.flat (l.drop i)).drop ((l.length - (i+1)) * E.size)++rest) (E.flat (l.drop (i+1)))
  (by rw [ltI,E.zd,E.zd,ldI,ldI]; exact Nat.min_eq_left (Nat.mul_le_mul_right _ (by omega)))
 rw [<- h1,E.zd,ltI,Nat.min_eq_left (by omega)] at h2;refine ⟨_,?_,by rw [h2,Kf,E.xr,aaI]⟩;rw [ldI,E.zd,ldI,<- Nat.sub_mul,show l.length - i - (l.length - (i+1))=1 by omega,Nat.one_mul]
theorem qdV {v:Value} {l:List Pr} {m:Mem} (h:TIn qK 81 m v l) {i:Nat} (hi:i<l.length) (hl:l.length<=65536) :
  W (Call S tab 177 [v,.int .i64 (i:Int),.int .i64 ((i+1:Nat):Int)] m) λr m'=>TIn qK 81 m' r (l.eraseIdx i)/\Upd (qc v) m m'/\qc r=qc v:=by
 obtain ⟨b,cap,rest,rfl,hb,hg,hr,hc⟩:=h.lo (by rintro rfl; simp at hi);rw [qT] at hg hr;have hfl:=qK.zd l;rw [qT] at hfl;have hkn:m.known b=.loose 2:=by simp [Mem.known,hg]
 have hel:(l.eraseIdx i).length=l.length - 1:=by rw [List.length_eraseIdx,if_pos hi]
 rw [qmc];have e1:qd (.slice (some ⟨b,0,none⟩) l.length cap)=some (.int .i64 (l.length:Int)):=rfl;have e2:jO 2 (.slice (some ⟨b,0,none⟩) l.length cap) (some (.int .i64 (i:Int))) (some (.int .i64 ((i+1:Nat):Int))) (.int .i64 (l.length:Int)) m=some (.slice (some ⟨b,if (l.length:Int).toNat=i then 0 else 0+i * 2,none⟩) (i+1 - i) ((l.length:Int).toNat - i)):=by
  have c1:(0:Int)<=(l.length:Int)/\(l.length:Int)<=(cap:Int)/\l.length<=cap:=by omega
  simp only [jO,if_pos c1];rw [bV (by omega) (by omega)];simp only [bmI,hkn,or_true,if_true]
 have e3:decide ((i:Int)=((i+1:Nat):Int))=false:=by simp; omega
 have e4:qx 2 (.slice (some ⟨b,0,none⟩) l.length cap) none (some (.int .i64 (i:Int))) m=some (.slice (some ⟨b,0,none⟩) i cap):=by
  simp only [qx];rw [bV0 (by omega)];simp only [bmI,true_or,if_true,Nat.sub_zero,Nat.zero_mul,Nat.add_zero,ite_self]
 obtain ⟨v5,e5,t5,_⟩:=h.ap.from (k:=i+1) (by omega);have e5:=e5 m (λ_ _=>rfl);have e6:=t5.src;rw [qT] at e5 e6;have hs:=qjq qK l hi rest;obtain ⟨x,hx,hse⟩:=hs;rw [qT] at hx hse;rw [ldI] at e6;obtain ⟨m1,y,e7,hg1,u1,hy⟩:∃ m1 y,qA 81 2 32 (.slice (some ⟨b,0,none⟩) i cap) (l.length - (i+1)) (qK.flat (l.drop (i+1))) m=some (.slice (some ⟨b,0,none⟩) (l.length - 1) cap,m1)/\m1.get b=some ⟨.cells (qK.flat (l.eraseIdx i)++(y++rest)) 81,false,some 2⟩/\Upd [b] m m1/\y.length=2:=by
  have hc0:¬ ¬ ((i+(l.length - (i+1))) * 32<=2 ^ 47/\(i+(l.length - (i+1)))<=2 ^ 47/\(qK.flat (l.drop (i+1))).length=(l.length - (i+1)) * 2/\(qK.flat (l.drop (i+1))).all (·.oneCell')=true):=by
   simp only [Decidable.not_not];exact ⟨by omega,by omega,by rw [qK.zd,ldI]; rfl,qK.wu _⟩
  have hfit:i+(l.length - (i+1))<=cap:=by omega
  have hlen:i+(l.length - (i+1))=l.length - 1:=by omega
  by_cases h0:l.length - (i+1)=0
  ·refine ⟨m,(qK.flat (l.drop i)),?_,?_,Upd.refl _ _,by rw [qK.zd,ldI,qT]; omega⟩
   ·simp only [qA,if_neg hc0,if_pos hfit,if_pos (show (l.length - (i+1)) * 2=0 by omega)]; rw [hlen]
   ·rw [hg,Kf,List.drop_of_length_le (by omega:l.length<=i+1),List.append_nil,<- aaI,<- qK.xr,List.take_append_drop]
  ·refine ⟨_,x,?_,Mem.qe ..,Upd.put _ _ (by simp),hx⟩;have how:m.jF b=some (qK.flat l++rest,81,some 2):=by simp [Mem.jF,hg]
   have hlc:0+(i+(l.length - (i+1))) * 2<=(qK.flat l++rest).length/\cap≠0:=by rw [laI,hfl]; omega
   simp only [qA,if_neg hc0,if_pos hfit,if_neg (show ¬ (l.length - (i+1)) * 2=0 by omega),how,bmI];rw [if_pos hlc,Nat.zero_add,hse,hlen]
 have e8:qd (.slice (some ⟨b,0,none⟩) (l.length - 1) cap)=some (.int .i64 ((l.length - 1:Nat):Int)):=rfl;have hkn1:m1.known b=.loose 2:=by simp [Mem.known,hg1]
 have hel2:=qK.zd (l.eraseIdx i);rw [hel,qT] at hel2;have e9:qx 2 (.slice (some ⟨b,0,none⟩) (l.length - 1) cap) (some (.int .i64 ((l.length - 1:Nat):Int))) (some (.int .i64 (l.length:Int))) m1=some (.slice (some ⟨b,(l.length - 1) * 2,none⟩) 1 (cap - (l.length - 1))):=by
  simp only [qx];rw [bV (by omega) hc];simp only [bmI,hkn1,or_true,if_true];rw [if_neg (by omega),show l.length - (l.length - 1)=1 by omega,Nat.zero_add]
 have e10:vA [.string ⟨#[]⟩,.string ⟨#[]⟩] (.slice (some ⟨b,(l.length - 1) * 2,none⟩) 1 (cap - (l.length - 1))) m1=some (m1.put b ⟨.cells (qK.flat (l.eraseIdx i)++([.string ⟨#[]⟩,.string ⟨#[]⟩]++rest)) 81,false,some 2⟩):=by
  have how:m1.jF b=some (qK.flat (l.eraseIdx i)++(y++rest),81,some 2):=by simp [Mem.jF,hg1]
  have hset:=xj (qK.flat (l.eraseIdx i)) y rest [.string ⟨#[]⟩,.string ⟨#[]⟩] (by rw [hy]; rfl);rw [hel2] at hset;have hcc:(l.length - 1) * 2+1 * [Value.string ⟨#[]⟩,Value.string ⟨#[]⟩].length<=(qK.flat (l.eraseIdx i)++(y++rest)).length/\cap - (l.length - 1)≠0/\[Value.string ⟨#[]⟩,Value.string ⟨#[]⟩].all (·.oneCell')=true:=by
   refine ⟨?_,by omega,rfl⟩;simp only [laI,hel2,hy,lnI,List.length_nil]; omega
  simp only [vA,if_neg (show ¬ (1:Nat)=0 by omega),how,bmI];rw [if_pos hcc,<- hset];rfl
 simp only [st0,e1,e2,e3,e4,e5,e6,e7,e8,e9,e10];have hbo:qc (.slice (some ⟨b,0,none⟩) (l.length - 1) cap)=[b]:=rfl;have hgf:(m1.put b ⟨.cells (qK.flat (l.eraseIdx i)++([.string ⟨#[]⟩,.string ⟨#[]⟩]++rest)) 81,false,some 2⟩).get b=_:=Mem.qe ..;have hnx:b<(m1.put b ⟨.cells (qK.flat (l.eraseIdx i)++([.string ⟨#[]⟩,.string ⟨#[]⟩]++rest)) 81,false,some 2⟩).next:=Nat.lt_of_lt_of_le hb u1.next;have hrl:([Value.string ⟨#[]⟩,.string ⟨#[]⟩]++rest).length=(cap - (l.eraseIdx i).length) * 2:=by
  rw [laI,hr,hel]; simp only [lnI,List.length_nil]; omega
 refine ⟨⟨.inr ⟨b,cap,[.string ⟨#[]⟩,.string ⟨#[]⟩]++rest,some 2,by rw [hel],hnx,hgf,.inr rfl,hrl,by omega⟩,λ_=>⟨b,cap,_,by rw [hel],hnx,hgf,hrl,by omega⟩⟩,u1.ki _ (.inl (by simp)),rfl⟩
theorem qdI {v:Value} {l:List Pr} {m:Mem} (h:TIn qK 81 m v l) {i:Nat} (hi:i<=l.length) (hl:l.length<=65536) {vb:Nat} {t':TypeId} {p:Pr} (hvb:m.get vb=some ⟨.cells (qK.flat [p]) t',false,none⟩) (hne:vb∉qc v) :
  W (Call S tab 132 [v,.int .i64 (i:Int),.slice (some ⟨vb,0,none⟩) 1 1] m) λr m'=>TAp qK 81 m' r (l.take i++[p]++l.drop i)/\Upd (qc v) m m'/\∀ b∈qc r,b∈qc v∨m.next<=b:=by
 have hsrc:qM 2 (.slice (some ⟨vb,0,none⟩) 1 1) m=some (1,qK.flat [p]):=by
  simp only [qM,if_neg (show ¬ (1:Nat)=0 by omega)];rw [zS hvb];rfl
 by_cases hin:i=l.length
 ·subst hin;have e0:∃ x,qx 2 v (some (.int .i64 (l.length:Int))) none m=some x:=by
   obtain ⟨x,h1,_⟩:=h.ap.from (k:=l.length) (Nat.le_refl _);exact ⟨x,h1 m (λ_ _=>rfl)⟩
  obtain ⟨x,e0⟩:=e0;obtain ⟨v',m',h1,h2,h3,h4⟩:=h.ap.append (k:=[p]) (eb:=32) (by decide) (by simp; omega) (by simp; omega);have hcall:kX [v,.int .i64 (l.length:Int),.slice (some ⟨vb,0,none⟩) 1 1] m=some (v',m'):=by
   rcases h.ap with ⟨rfl,rfl⟩|⟨b,cap,rest,lo,rfl,_⟩
   ·simp only [kX];rw [if_pos (by rfl)];rw [e0,bmI,hsrc,bmI];exact h1
   ·simp only [kX];rw [if_pos trivial,e0,bmI,hsrc,bmI];exact h1
  refine ⟨v',m',Qx hcall,?_,h3,h4⟩;rw [List.take_length,List.drop_length,List.append_nil];exact h2
 ·have hlt:i<l.length:=by omega
  obtain ⟨b,cap,rest,rfl,hb,hg,hr,hc⟩:=h.lo (by rintro rfl; simp at hlt);rw [qT] at hg hr;have hfl:=qK.zd l;rw [qT] at hfl;have hbv:b≠vb:=λe=>hne (by simp [qc,e])
  have ht:(((qK.flat l++rest).drop 0).take (l.length * 2))=qK.flat l:=by rw [List.drop_zero,<- hfl,List.take_left']; rfl
  have hcond:(0:Int)<=(i:Int)/\(i:Int)<(l.length:Int)/\l.length<=cap/\0+l.length * 2<=(qK.flat l++rest).length/\True/\l.length<=1099511627776/\b≠vb/\0+2<=(qK.flat [p]).length/\(((qK.flat l++rest).drop 0).take (l.length * 2)).all (·.oneCell')=true/\(((qK.flat [p]).drop 0).take 2).all (·.oneCell')=true:=by
   refine ⟨by omega,by omega,hc,by rw [laI,hfl]; omega,trivial,by omega,hbv,by rw [qK.zd,qT]; simp,by rw [ht]; exact qK.wu l,rfl⟩
  have hcells:(((qK.flat l++rest).drop 0).take ((i:Int).toNat * 2)++(((qK.flat [p]).drop 0).take 2++((qK.flat l++rest).drop (0+(i:Int).toNat * 2)).take ((l.length - (i:Int).toNat) * 2)))=qK.flat (l.take i++[p]++l.drop i)++[]:=by
   have f1:=qK.ZS l i;have f2:=qK.wq l i;rw [qT] at f1 f2;rw [Int.toNat_natCast,List.drop_zero,Nat.zero_add,List.take_append_of_le_length (by rw [hfl]; omega),f1,List.drop_append_of_le_length (by rw [hfl]; omega),f2,List.take_append_of_le_length (by rw [qK.zd,ldI,qT]; exact Nat.le_refl _),List.take_of_length_le (l:=qK.flat (l.drop i)) (by rw [qK.zd,ldI,qT]; exact Nat.le_refl _)];rw [qK.xr,qK.xr,List.append_nil,aaI];rfl
  have hcall:kX [.slice (some ⟨b,0,none⟩) l.length cap,.int .i64 (i:Int),.slice (some ⟨vb,0,none⟩) 1 1] m=some (.slice (some ⟨m.next,0,none⟩) (l.length+1) (l.length+1),(m.kill b).add ⟨.cells (qK.flat (l.take i++[p]++l.drop i)++[]) 81,false,some 2⟩):=by
   simp only [kX];rw [if_neg (by omega)];simp only [XS,hg,hvb];rw [if_pos hcond,hcells]
  have hlen:(l.take i++[p]++l.drop i).length=l.length+1:=by
   simp only [laI,ltI,ldI,lnI,List.length_nil]; omega
  refine ⟨_,_,Qx hcall,.inr ⟨m.next,l.length+1,[],some 2,by rw [hlen],by simp,?_,.inr rfl,by rw [hlen]; simp,by omega⟩,((Upd.kill _ (by simp [qc]):Upd (qc (.slice (some ⟨b,0,none⟩) l.length cap)) m (m.kill b))).qeg _,λc hc=>.inr (by simp [qc] at hc; omega)⟩;have:(m.kill b).next=m.next:=rfl;rw [<- this,Mem.qf]
theorem wy (l:List Pr) (key:Bs):za l key<=l.length:=List.length_filter_le ..
theorem xF {l:List Pr} {key:Bs} (h:zb l key=true):za l key<l.length:=by
 unfold zb at h;split at h
 ·rename_i p hp; exact (List.getElem?_eq_some_iff.1 hp).1
 ·cases h
theorem qgu {lo:Nat} {v:Value} {n:Nd} {m:Mem} (key:Bs) (h:TN lo m v n) (hf:n.Fit) (hlo:lo<=m.next) :
  W (Call S tab 131 [v,str key] m) λr m'=>(∃ sp,r=kT true sp (.slice none 0 0) (.slice none 0 0)/\TIn qK 81 m' sp (xA n.pairs key)/\∀ b∈qc sp,m.next<=b)/\Upd [] m m':=by
 have hn:=h;obtain ⟨sp,sk,si,rfl,h1,h2,h3⟩:=h.ex;rw [qmv];have g1:(m.add (qg n.leaf sp sk si)).get m.next=some (qg n.leaf sp sk si):=Mem.qf ..;have u1:Upd [] m (m.add (qg n.leaf sp sk si)):=Upd.add _ _ _;have n1:(m.add (qg n.leaf sp sk si)).next=m.next+1:=rfl;simp only [st0,fa,qS];generalize (m.add (qg n.leaf sp sk si))=m1 at g1 u1 n1;have u2:Upd [] m1 (m1.add (qg false (.slice none 0 0) (.slice none 0 0) (.slice none 0 0))):=Upd.add _ _ _;have o2:(m1.add (qg false (.slice none 0 0) (.slice none 0 0) (.slice none 0 0))).get m1.next=some (qg false (.slice none 0 0) (.slice none 0 0) (.slice none 0 0)):=Mem.qf ..;have n2:(m1.add (qg false (.slice none 0 0) (.slice none 0 0) (.slice none 0 0))).next=m1.next+1:=rfl;generalize (m1.add (qg false (.slice none 0 0) (.slice none 0 0) (.slice none 0 0)))=m2 at u2 o2 n2;have g2:=qq u2 (by omega) g1;have u02:=u1.qu u2;have lw:∀ {M:Mem},M.get m.next=some (qg n.leaf sp sk si)->ql 4 (.pointer (some ⟨m.next,0,none⟩)) M=some (.agg #[.bool n.leaf,sp,sk,si]):=λg=>zG g rfl
 have lwo:∀ {M:Mem} {x:Value},M.get m1.next=some (qg true x (.slice none 0 0) (.slice none 0 0))->ql 4 (.pointer (some ⟨m1.next,0,none⟩)) M=some (.agg #[.bool true,x,.slice none 0 0,.slice none 0 0]):=λg=>zG g rfl
 have ef:∀ x:Value,x.cells=#[x]->qt [.bool false,.slice none 0 0,.slice none 0 0,.slice none 0 0] [(0,1,.bool true),(1,1,x)]=some [.bool true,x,.slice none 0 0,.slice none 0 0]:=by
  intro x hx;simp only [qt,hx];rfl
 simp only [st0,TN.load g2 (o:=0+1) rfl];refine qh.2 ((ZV (h1.qn u02) hf.pl).mono λv3 m3 ⟨t3,u3,b3⟩=>?_);have g3:=qq u3 (by omega) g2;have o3:=qq u3 (by omega) o2;simp only [st0,lw g3];refine qh.2 ((XP key ((hn.qn u02).qn u3) hf).mono λv4 m4 ⟨r4,u4⟩=>?_);subst r4;have t4:=t3.qn u4;have x3:=u3.next;have x4:=u4.next;have o4:=qq u4 (by omega) o3;have e1:∀ a b:Value,qG 0 (.tuple #[a,b])=some a:=λ_ _=>rfl
 have e2:∀ a b:Value,qG 1 (.tuple #[a,b])=some b:=λ_ _=>rfl
 have hal:=wy n.pairs key;have hfp:=hf.pl;have u04:Upd [] m m4:=(u02.qu u3).qu u4;unfold xA;cases ht:zb n.pairs key with
 | true =>
  simp only [st0,e1,e2,qB (i:=za n.pairs key) (by omega)];refine qh.2 ((qdV t4 (xF ht) hfp).mono λv5 m5 ⟨t5,u5,b5⟩=>?_);have hb5:∀ b∈qc v3,m2.next<=b:=b3;have o5:m5.get m1.next=_:=(u5.same m1.next (by omega) (λhm=>by have:=b3 _ hm; omega)).trans o4;simp only [st0,ef v5 t5.ap.one.1,qX o5 true (sp':=v5) (sk':=.slice none 0 0) (si':=.slice none 0 0) t5.ap.one.2 rfl rfl,lwo (Mem.qe m5 m1.next _)];refine ⟨⟨v5,rfl,t5.upd (Upd.put (fp:=[m1.next]) _ _ (by simp)) (λb hb hm=>?_),λb hb=>?_⟩,(u04.then' u5 (λb hb=>.inr ?_)).ki _ (.inr (by omega))⟩
  ·rw [b5] at hb; have:=b3 b hb; simp at hm; omega
  ·rw [b5] at hb; have:=b3 b hb; omega
  ·have:=b3 b hb; omega
 | false =>
  simp only [st0,e1,e2,ef v3 t4.ap.one.1,qX o4 true (sp':=v3) (sk':=.slice none 0 0) (si':=.slice none 0 0) t4.ap.one.2 rfl rfl,lwo (Mem.qe m4 m1.next _)];refine ⟨⟨v3,rfl,t4.upd (Upd.put (fp:=[m1.next]) _ _ (by simp)) (λb hb hm=>?_),λb hb=>?_⟩,u04.ki _ (.inr (by omega))⟩
  ·have:=b3 b hb; simp at hm; omega
  ·have:=b3 b hb; omega
theorem Ww {lo:Nat} {v:Value} {n:Nd} {m:Mem} (key val:Bs) (h:TN lo m v n) (hf:n.Fit) (hlo:lo<=m.next) :
  W (Call S tab 94 [v,str key,str val] m) λr m'=>TN m.next m' r (Nd.lf (xO n.pairs key val))/\Upd [] m m':=by
 have hn:=h;obtain ⟨sp,sk,si,rfl,h1,h2,h3⟩:=h.ex;rw [C94];have g1:(m.add (qg n.leaf sp sk si)).get m.next=some (qg n.leaf sp sk si):=Mem.qf ..;have u1:Upd [] m (m.add (qg n.leaf sp sk si)):=Upd.add _ _ _;have n1:(m.add (qg n.leaf sp sk si)).next=m.next+1:=rfl;simp only [st0,fa,qS];generalize (m.add (qg n.leaf sp sk si))=m1 at g1 u1 n1;have u2:Upd [] m1 (m1.add (qg false (.slice none 0 0) (.slice none 0 0) (.slice none 0 0))):=Upd.add _ _ _;have o2:(m1.add (qg false (.slice none 0 0) (.slice none 0 0) (.slice none 0 0))).get m1.next=some (qg false (.slice none 0 0) (.slice none 0 0) (.slice none 0 0)):=Mem.qf ..;have n2:(m1.add (qg false (.slice none 0 0) (.slice none 0 0) (.slice none 0 0))).next=m1.next+1:=rfl;generalize (m1.add (qg false (.slice none 0 0) (.slice none 0 0) (.slice none 0 0)))=m2 at u2 o2 n2;have g2:=qq u2 (by omega) g1;have u02:=u1.qu u2;have lw:∀ {M:Mem},M.get m.next=some (qg n.leaf sp sk si)->ql 4 (.pointer (some ⟨m.next,0,none⟩)) M=some (.agg #[.bool n.leaf,sp,sk,si]):=λg=>zG g rfl
 have lwo:∀ {M:Mem} {x:Value},M.get m1.next=some (qg true x (.slice none 0 0) (.slice none 0 0))->ql 4 (.pointer (some ⟨m1.next,0,none⟩)) M=some (.agg #[.bool true,x,.slice none 0 0,.slice none 0 0]):=λg=>zG g rfl
 have ef:∀ x:Value,x.cells=#[x]->qt [.bool false,.slice none 0 0,.slice none 0 0,.slice none 0 0] [(0,1,.bool true),(1,1,x)]=some [.bool true,x,.slice none 0 0,.slice none 0 0]:=by
  intro x hx;simp only [qt,hx];rfl
 simp only [st0,lw g2];refine qh.2 ((qgu key (hn.qn u02) hf (by omega)).mono λv3 m3 ⟨⟨sp3,r3,t3,b3⟩,u3⟩=>?_);subst r3;have g3:=qq u3 (by omega) g2;have o3:=qq u3 (by omega) o2;have x3:=u3.next;have ef1:vZ 1 1 false (kT true sp3 (.slice none 0 0) (.slice none 0 0))=some sp3:=rfl;simp only [st0,lw g3,ef1];refine qh.2 ((XP key ((hn.qn u02).qn u3) hf).mono λv4 m4 ⟨r4,u4⟩=>?_);subst r4;have t4:=t3.qn u4;have x4:=u4.next;have o4:=qq u4 (by omega) o3;have e1:∀ a b:Value,qG 0 (.tuple #[a,b])=some a:=λ_ _=>rfl
 have e2:∀ a b:Value,qG 1 (.tuple #[a,b])=some b:=λ_ _=>rfl
 have u04:Upd [] m m4:=(u02.qu u3).qu u4;have e3:qt [.string ⟨#[]⟩,.string ⟨#[]⟩] [(0,1,str key),(1,1,str val)]=some [str key,str val]:=by kernel_rfl
 have e4:qt [.string ⟨#[]⟩,.string ⟨#[]⟩] [(0,2,.agg [str key,str val].toArray)]=some (qK.flat [(key,val)]):=by kernel_rfl
 have g5:(m4.add ⟨.cells (qK.flat [(key,val)]) 81,false,none⟩).get m4.next=some ⟨.cells (qK.flat [(key,val)]) 81,false,none⟩:=Mem.qf ..;have u5:Upd [] m4 (m4.add ⟨.cells (qK.flat [(key,val)]) 81,false,none⟩):=Upd.add _ _ _;have n5:(m4.add ⟨.cells (qK.flat [(key,val)]) 81,false,none⟩).next=m4.next+1:=rfl;simp only [st0,e1,e2,e3,e4];generalize (m4.add ⟨.cells (qK.flat [(key,val)]) 81,false,none⟩)=m5 at g5 u5 n5;have o5:=qq u5 (by omega) o4;have t5:=t4.qn u5;have hcl:(xA n.pairs key).length<=n.pairs.length:=by
  unfold xA; split
  ·rw [List.length_eraseIdx]; split<;>omega
  ·exact Nat.le_refl _
 have hal:za n.pairs key<=(xA n.pairs key).length:=by
  have:=wy n.pairs key;unfold xA; split
  ·rename_i ht; have:=xF ht; rw [List.length_eraseIdx,if_pos this]; omega
  ·exact this
 have hfp:=hf.pl;refine qh.2 ((qdI t5 hal (by omega) g5 (λhm=>by have:=t4.ap.lt _ hm; omega)).mono λv6 m6 ⟨t6,u6,b6⟩=>?_);have o6:m6.get m1.next=_:=(u6.same m1.next (by omega) (λhm=>by have:=b3 _ hm; omega)).trans o5;have x6:=u6.next;have hb6:∀ b∈qc v6,m2.next<=b:=λb hb=>(b6 b hb).elim (λh=>by have:=b3 b h; omega) (λh=>by omega)
 simp only [st0,ef v6 t6.one.1,qX o6 true (sp':=v6) (sk':=.slice none 0 0) (si':=.slice none 0 0) t6.one.2 rfl rfl,lwo (Mem.qe m6 m1.next _)];have hput:Upd [m1.next] m6 (m6.put m1.next (qg true v6 (.slice none 0 0) (.slice none 0 0))):=Upd.put _ _ (by simp);refine ⟨⟨_,_,_,rfl,((t6.rsl hb6).upd hput (λb hb=>by simp at hb; omega)).low (by omega),RSl.nil _ _ _,RSl.nil _ _ _⟩,((u04.qu u5).then' u6 (λb hb=>.inr ?_)).ki _ (.inr (by omega))⟩;have:=b3 b hb; omega
end Go.Fx.Tryz
