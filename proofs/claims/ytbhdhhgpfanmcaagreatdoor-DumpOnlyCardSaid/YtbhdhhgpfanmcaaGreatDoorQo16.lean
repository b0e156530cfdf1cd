/- Parts of a proof: TreeF, TreeG, TreeH, TreeI. Conditions: none. -/
import Derived.Test.YtbhdhhgpfanmcaaGreatDoorQo15
set_option linter.unusedSimpArgs false
set_option linter.unusedVariables false
namespace Go.Fx.Tryz
open Go Go.Fx
def zS (ks:List Bs) (key:Bs):Nat:=(ks.filter fun k=>!ltB key k).length
def zx (l:List Pr) (key:Bs):Nat:=(l.filter fun p=>ltB p.1 key).length
def zJ (l:List Pr) (key:Bs):Bool:=match l[zx l key]? with|some p=>decide (p.1=key)|none=>false
def yK (l:List Pr) (key:Bs):List Pr:=if zJ l key then l.eraseIdx (zx l key) else l
def xD (l:List Pr) (key val:Bs):List Pr:=(yK l key).take (zx l key)++[(key,val)]++(yK l key).drop (zx l key)
theorem Zu {α:Type} (f:α→Bool) (l:List α) {i:Nat} (h:i<l.length):((l.take (i+1)).filter f).length=((l.take i).filter f).length+(if f l[i] then 1 else 0):=by
 rw [List.take_succ_eq_append_getElem h,List.filter_append,List.length_append]
 cases hf:f l[i]<;>simp [hf]
theorem Hk {lo:Nat} {ks:List Bs} {sk:Value} (hl:ks.length≤65536) (key:Bs):∀ (d i:Nat) (m:Mem),ks.length - i=d→i≤ks.length→RSl lo encS m sk ks →
  W (Jf (str key) (.int .i64 (((ks.take i).filter fun k=>!ltB key k).length:Nat)) sk (.int .i64 (ks.length:Int)) (.int .i64 (i:Int)) m) fun r m'=>r=.int .i64 (zS ks key:Nat)∧m'=m:=by
 intro d
 induction d with
 | zero =>
  intro i m hd hi h
  obtain rfl:i=ks.length:=by omega
  rw [P124_0_eq]
  simp -implicitDefEqProofs only [st0,qb,reduceIte,Int.lt_irrefl,List.take_length]
  exact ⟨rfl,trivial⟩
 | succ d ih =>
  intro i m hd hi h
  have hlt:i<ks.length:=by omega
  have e1:((i:Int)<(ks.length:Int))=True:=eq_true (by omega)
  obtain ⟨p,h1,_,h2⟩:=h.1.index .i64 (jE hlt)
  rw [zZ] at h1
  have h2:=h2 (str ks[i]) rfl
  have hle:((ks.take i).filter fun k=>!ltB key k).length≤65536:=Nat.le_trans (List.length_filter_le ..) (by rw [List.length_take]; omega)
  have hs:=Zu (fun k=>!ltB key k) ks hlt
  have ih':=ih (i+1) m (by omega) hlt h
  rw [P124_0_eq]
  cases hc:ltB key ks[i] with
  | true =>
   rw [hs] at ih'
   simp -implicitDefEqProofs only [st0,qb,reduceIte,e1,h1,h2,Qh,hc,qH (i:=i) (by omega)]
   simpa [hc] using ih'
  | false =>
   rw [hs] at ih'
   simp -implicitDefEqProofs only [st0,qb,reduceIte,e1,h1,h2,Qh,hc,qH (i:=i) (by omega),qH (i:=((ks.take i).filter fun k=>!ltB key k).length) (by omega)]
   simpa [hc] using ih'
theorem Yd {lo:Nat} {v:Value} {n:Nd} {m:Mem} (key:Bs) (h:TN lo m v n) (hf:n.Fit):W (Call S tab 124 [v,str key] m) fun r m'=>r=.int .i64 (zS n.keys key:Nat)∧Upd [] m m':=by
 obtain ⟨sp,sk,si,rfl,h1,h2,h3⟩:=h.ex
 rw [qkG]
 have g1:(m.add (qk n.leaf sp sk si)).get m.next=some (qk n.leaf sp sk si):=Mem.qh ..
 have u1:Upd [] m (m.add (qk n.leaf sp sk si)):=Upd.add _ _ _
 simp -implicitDefEqProofs only [st0,qb,reduceIte,fa,qR,TN.load g1 (o:=0+2) rfl,zv h2]
 have:=Hk hf.kl key _ 0 _ rfl (by omega) (h2.qx u1)
 exact this.mono fun r m' ⟨hr,hm⟩=>⟨hr,hm ▸ u1⟩
theorem qbT {lo:Nat} {l:List Pr} {sp:Value} {x2:Value} (hl:l.length≤65536) (key:Bs) {Q:Value→Mem→Prop} {m0:Mem}
  (hQ:∀ m',Upd [] m0 m'→RSl lo qN m' sp l→W (Hu (str key) x2 (.int .i64 (zx l key:Nat)) m') Q):∀ (d i:Nat) (m:Mem),l.length - i=d→i≤l.length→RSl lo qN m sp l→Upd [] m0 m →
  W (Jg (str key) x2 (.int .i64 (((l.take i).filter fun p=>ltB p.1 key).length:Nat)) sp (.int .i64 (l.length:Int)) (.int .i64 (i:Int)) m) Q:=by
 intro d
 induction d with
 | zero =>
  intro i m hd hi h hu
  obtain rfl:i=l.length:=by omega
  rw [P123_0_eq]
  simp -implicitDefEqProofs only [st0,qb,reduceIte,Int.lt_irrefl,List.take_length]
  exact hQ m hu h
 | succ d ih =>
  intro i m hd hi h hu
  have hlt:i<l.length:=by omega
  have e1:((i:Int)<(l.length:Int))=True:=eq_true (by omega)
  obtain ⟨b,off,h1,h2⟩:=h.1.at .i64 (jE hlt)
  rw [zc] at h1 h2
  have h2:=h2 m h.1
  have hle:((l.take i).filter fun p=>ltB p.1 key).length≤65536:=Nat.le_trans (List.length_filter_le ..) (by rw [List.length_take]; omega)
  have hs:=Zu (fun p:Pr=>ltB p.1 key) l hlt
  rw [P123_0_eq]
  simp -implicitDefEqProofs only [st0,qb,reduceIte,e1,h1,h2.1]
  refine jJ (c:=qN.cells l[i]) rfl rfl rfl fun m1 g1 u1 n1=>?_
  have ih':=ih (i+1) m1 (by omega) hlt (h.qx u1) (hu.qz u1)
  rw [hs] at ih'
  have ld:=qs (o:=0+0) (v:=str l[i].1) g1 rfl
  cases hc:ltB l[i].1 key with
  | true =>
   simp -implicitDefEqProofs only [st0,qb,reduceIte,fa,ld,ZM,hc,qH (i:=i) (by omega),qH (i:=((l.take i).filter fun p=>ltB p.1 key).length) (by omega)]
   simpa [hc] using ih'
  | false =>
   simp -implicitDefEqProofs only [st0,qb,reduceIte,fa,ld,ZM,hc,qH (i:=i) (by omega)]
   simpa [hc] using ih'
theorem Va {lo:Nat} {v:Value} {n:Nd} {m:Mem} (key:Bs) (h:TN lo m v n) (hf:n.Fit):W (Call S tab 123 [v,str key] m) fun r m'=>r=.tuple #[.int .i64 (zx n.pairs key:Nat),.bool (zJ n.pairs key)]∧Upd [] m m':=by
 obtain ⟨sp,sk,si,rfl,h1,h2,h3⟩:=h.ex
 rw [qkH]
 have g1:(m.add (qk n.leaf sp sk si)).get m.next=some (qk n.leaf sp sk si):=Mem.qh ..
 have u1:Upd [] m (m.add (qk n.leaf sp sk si)):=Upd.add _ _ _
 have n1:m.next<(m.add (qk n.leaf sp sk si)).next:=by simp
 simp -implicitDefEqProofs only [st0,qb,reduceIte,fa,qR,TN.load g1 (o:=0+1) rfl,zv h1]
 refine qbT (m0:=m.add (qk n.leaf sp sk si)) hf.pl key (fun m' u2 h1'=>?_) _ 0 _ rfl (by omega) (h1.qx u1) (Upd.refl _ _)
 have g2:=qA u2 n1 g1
 rw [P123_1_eq]
 unfold zJ
 by_cases hc:zx n.pairs key<n.pairs.length
 ·have e1:((zx n.pairs key:Nat):Int)<(n.pairs.length:Int):=by omega
  obtain ⟨b,off,q1,q2⟩:=h1'.1.at .i64 (jE hc)
  rw [zc] at q1 q2
  have q2:=(q2 m' h1'.1).2 0 (str (n.pairs[zx n.pairs key]).1) rfl
  simp -implicitDefEqProofs only [st0,qb,reduceIte,fa,TN.load g2 (o:=0+1) rfl,zv h1',eq_true e1,q1,q2,kI]
  rw [List.getElem?_eq_getElem hc]
  exact ⟨rfl,u1.qz u2⟩
 ·have e1:¬ (((zx n.pairs key:Nat):Int)<(n.pairs.length:Int)):=by omega
  simp -implicitDefEqProofs only [st0,qb,reduceIte,fa,TN.load g2 (o:=0+1) rfl,zv h1',eq_false e1]
  rw [List.getElem?_eq_none (by omega)]
  exact ⟨rfl,u1.qz u2⟩
structure TIn {α:Type} (E:Enc α) (e:TypeId) (m:Mem) (v:Value) (l:List α):Prop where
 ap:TAp E e m v l
 lo:l≠[]→∃ b cap rest,v=.slice (some ⟨b,0,none⟩) l.length cap∧b<m.next∧m.get b=some ⟨.cells (E.flat l++rest) e,false,some E.size⟩∧rest.length=(cap - l.length) * E.size∧l.length≤cap
theorem TIn.nil {α:Type} (E:Enc α) (e:TypeId) (m:Mem):TIn E e m (.slice none 0 0) []:=⟨TAp.nil m,fun h=>absurd rfl h⟩
theorem TIn.upd {α:Type} {E:Enc α} {e:TypeId} {fp:List Nat} {m m':Mem} {v:Value} {l:List α} (h:TIn E e m v l) (hu:Upd fp m m') (hk:∀ b∈qf v,b∉fp):TIn E e m' v l:=by
 refine ⟨h.ap.upd hu hk,fun hl=>?_⟩
 obtain ⟨b,cap,rest,rfl,h1,h2,h3,h4⟩:=h.lo hl
 exact ⟨b,cap,rest,rfl,Nat.lt_of_lt_of_le h1 hu.next,by rw [hu.same b h1 (hk b (by simp [qf]))]; exact h2,h3,h4⟩
theorem TIn.qx {α:Type} {E:Enc α} {e:TypeId} {m m':Mem} {v:Value} {l:List α} (h:TIn E e m v l) (hu:Upd [] m m'):TIn E e m' v l:=h.upd hu (fun b _ hb=>by simp at hb)
theorem yL {α:Type} {E:Enc α} {e:TypeId} {eb:Nat} {m:Mem} {v:Value} {l:List α} (hs:0<E.size) (hn:l.length * (eb+1)≤2 ^ 47) (h:TSl E m v l) (hb:∀ b∈qf v,b<m.next) {Q:Value→Mem→Prop}
  (hQ:∀ v' m',TIn E e m' v' l→Upd [] m m'→(∀ b∈qf v',m.next≤b)→Q v' m') :
  W ((qL E.size v (m.add ⟨.cells [] e,false,none⟩)).bind fun p=>(qB e E.size eb (.slice (some ⟨m.next,0,none⟩) 0 0) p.1 p.2 (m.add ⟨.cells [] e,false,none⟩)).bind fun q=>some (q.1,q.2)) Q:=by
 have h1:=(h.upd (fp:=[]) (Upd.add _ m ⟨.cells [] e,false,none⟩) (fun b hbb=>⟨hb b hbb,by simp⟩)).src
 rw [h1]
 have hx:l.length * eb≤l.length * (eb+1):=Nat.mul_le_mul_left _ (by omega)
 have hy:l.length≤l.length * (eb+1):=Nat.le_mul_of_pos_right _ (by omega)
 have hc0:¬ ¬ ((0+l.length) * eb≤2 ^ 47∧(0+l.length)≤2 ^ 47∧(E.flat l).length=l.length * E.size∧(E.flat l).all (·.oneCell')=true):=by
  simp only [Decidable.not_not,Nat.zero_add]; exact ⟨by omega,by omega,E.qV l,E.vC l⟩
 by_cases hl:l=[]
 ·subst hl
  refine W.Qt rfl (W.Qt (a:=(.slice (some ⟨m.next,0,none⟩) 0 0,m.add ⟨.cells [] e,false,none⟩)) ?_ (zs.2 (hQ _ _ ⟨TAp.fresh m [],fun h=>absurd rfl h⟩ (Upd.add _ _ _) (fun b hb=>by simp [qf] at hb; omega))))
  simp only [qB,if_neg hc0]
  simp
 ·have hl0:l.length≠0:=by simpa using hl
  have hk':¬ (0+l.length≤0):=by omega
  have hg:(m.add ⟨.cells [] e,false,none⟩).get m.next=some ⟨.cells [] e,false,none⟩:=Mem.qh ..
  have hnx:(m.add ⟨.cells [] e,false,none⟩).next=m.next+1:=rfl
  refine W.Qt rfl (W.Qt (a:=(.slice (some ⟨m.next+1,0,none⟩) l.length l.length,(m.add ⟨.cells [] e,false,none⟩).add ⟨.cells (E.flat l) e,false,some E.size⟩)) ?_ (zs.2 (hQ _ _ ⟨.inr ⟨m.next+1,l.length,[],some E.size,rfl,by simp,?_,.inr rfl,by simp,Nat.le_refl _⟩,fun _=>⟨m.next+1,l.length,[],rfl,by simp,?_,by simp,Nat.le_refl _⟩⟩ ((Upd.add _ _ _).qdZ _) (fun b hb=>by simp [qf] at hb; omega))))
  ·simp only [qB,if_neg hc0,if_neg hk',hg]
   rw [if_pos (by simp)]
   simp [hnx]
  ·rw [← hnx,Mem.qh]; simp
  ·rw [← hnx,Mem.qh]; simp
theorem yp {α:Type} {E:Enc α} {m:Mem} {v:Value} {l:List α} (h:TSl E m v l):(v=.slice none 0 0∧l=[])∨∃ b off cap,v=.slice (some ⟨b,off,none⟩) l.length cap:=by
 obtain ⟨_,⟨rfl,h0⟩|⟨b,off,cap,rfl,_⟩⟩:=h
 ·exact .inl ⟨rfl,by simpa using h0⟩
 ·exact .inr ⟨b,off,cap,rfl⟩
theorem qdK:qP .slice false (.slice none 0 0) (.slice none 0 0)=some (.bool true):=rfl
theorem qdJ (p:Addr) (n c:Nat):qP .slice false (.slice (some p) n c) (.slice none 0 0)=some (.bool false):=rfl
theorem Hp:qy [] []=some []:=rfl
theorem QX {lo:Nat} {v:Value} {l:List Pr} {m:Mem} (h:RSl lo qN m v l) (hl:l.length≤65536):W (Call S tab 176 [v] m) fun r m'=>TIn qN 81 m' r l∧Upd [] m m'∧∀ b∈qf r,m.next≤b:=by
 rw [qkl]
 rcases yp h.1 with ⟨rfl,rfl⟩|⟨b,off,cap,rfl⟩
 ·simp -implicitDefEqProofs only [st0,qb,reduceIte,qdK]
  exact ⟨TIn.nil _ _ _,Upd.refl _ _,fun b hb=>by simp [qf] at hb⟩
 ·simp -implicitDefEqProofs only [st0,qb,reduceIte,qdJ,Hp]
  exact yL (E:=qN) (by decide) (by omega) h.1 (fun b hb=>(h.2 b hb).2) fun v' m' q1 q2 q3=>⟨q1,q2,q3⟩
theorem JW {lo:Nat} {v:Value} {l:List Bs} {m:Mem} (h:RSl lo encS m v l) (hl:l.length≤65536):W (Call S tab 205 [v] m) fun r m'=>TIn encS 9 m' r l∧Upd [] m m'∧∀ b∈qf r,m.next≤b:=by
 rw [qkd]
 rcases yp h.1 with ⟨rfl,rfl⟩|⟨b,off,cap,rfl⟩
 ·simp -implicitDefEqProofs only [st0,qb,reduceIte,qdK]
  exact ⟨TIn.nil _ _ _,Upd.refl _ _,fun b hb=>by simp [qf] at hb⟩
 ·simp -implicitDefEqProofs only [st0,qb,reduceIte,qdJ,Hp]
  exact yL (E:=encS) (by decide) (by omega) h.1 (fun b hb=>(h.2 b hb).2) fun v' m' q1 q2 q3=>⟨q1,q2,q3⟩
theorem JX {lo:Nat} {v:Value} {l:List Nat} {m:Mem} (h:RSl lo xd m v l) (hl:l.length≤65536):W (Call S tab 206 [v] m) fun r m'=>TIn xd 3 m' r l∧Upd [] m m'∧∀ b∈qf r,m.next≤b:=by
 rw [qkc]
 rcases yp h.1 with ⟨rfl,rfl⟩|⟨b,off,cap,rfl⟩
 ·simp -implicitDefEqProofs only [st0,qb,reduceIte,qdK]
  exact ⟨TIn.nil _ _ _,Upd.refl _ _,fun b hb=>by simp [qf] at hb⟩
 ·simp -implicitDefEqProofs only [st0,qb,reduceIte,qdJ,Hp]
  exact yL (E:=xd) (by decide) (by omega) h.1 (fun b hb=>(h.2 b hb).2) fun v' m' q1 q2 q3=>⟨q1,q2,q3⟩
theorem bV {len cap i j:Nat} (h1:i≤j) (h2:j≤cap):zm len cap (some (.int .i64 (i:Int))) (some (.int .i64 (j:Int)))=some (i,j):=by
 have e1:(0:Int)≤(j:Int)∧(j:Int)≤(cap:Int):=by omega
 have e2:(0:Int)≤(i:Int)∧(i:Int)≤(j:Int):=by omega
 simp only [zm,xf,if_pos e1,Option.bind_some,if_pos e2,Option.map_some,Int.toNat_natCast]
theorem bV0 {len cap j:Nat} (h2:j≤cap):zm len cap none (some (.int .i64 (j:Int)))=some (0,j):=by
 have e1:(0:Int)≤(j:Int)∧(j:Int)≤(cap:Int):=by omega
 simp only [zm,xf,if_pos e1,Option.bind_some,Option.map_some,Int.toNat_natCast]
theorem XS {α:Type} (l:List α) (i:Nat):l.eraseIdx i=l.take i++l.drop (i+1):=List.eraseIdx_eq_take_drop_succ l i
theorem qhd {α:Type} (E:Enc α) (l:List α) {i:Nat} (hi:i<l.length) (rest:List Value):∃ x:List Value,x.length=E.size∧qJ (E.flat l++rest) (i * E.size) (E.flat (l.drop (i+1)))=E.flat (l.eraseIdx i)++(x++rest):=by
 have h1:(E.flat l++rest)=E.flat (l.take i)++(((E.flat (l.drop i)).take ((l.length - (i+1)) * E.size))++((E.flat (l.drop i)).drop ((l.length - (i+1)) * E.size)++rest)):=by
  rw [← List.append_assoc ((E.flat (l.drop i)).take _),List.take_append_drop,← List.append_assoc,← E.xn,List.take_append_drop]
 have h2:=zR (E.flat (l.take i)) ((E.flat (l.drop i)).take ((l.length - (i+1)) * E.size)) ((E.flat (l.drop i)).drop ((l.length - (i+1)) * E.size)++rest) (E.flat (l.drop (i+1)))
  (by rw [List.length_take,E.qV,E.qV,List.length_drop,List.length_drop]; exact Nat.min_eq_left (Nat.mul_le_mul_right _ (by omega)))
 rw [← h1,E.qV,List.length_take,Nat.min_eq_left (by omega)] at h2
 refine ⟨_,?_,by rw [h2,XS,E.xn,List.append_assoc]⟩
 rw [List.length_drop,E.qV,List.length_drop,← Nat.sub_mul,show l.length - i - (l.length - (i+1))=1 by omega,Nat.one_mul]
theorem qbY {v:Value} {l:List Pr} {m:Mem} (h:TIn qN 81 m v l) {i:Nat} (hi:i<l.length) (hl:l.length≤65536) :
  W (Call S tab 177 [v,.int .i64 (i:Int),.int .i64 ((i+1:Nat):Int)] m) fun r m'=>TIn qN 81 m' r (l.eraseIdx i)∧Upd (qf v) m m'∧qf r=qf v:=by
 obtain ⟨b,cap,rest,rfl,hb,hg,hr,hc⟩:=h.lo (by rintro rfl; simp at hi)
 rw [zc] at hg hr
 have hfl:=qN.qV l
 rw [zc] at hfl
 have hkn:m.known b=.loose 2:=by simp [Mem.known,hg]
 have hel:(l.eraseIdx i).length=l.length - 1:=by rw [List.length_eraseIdx,if_pos hi]
 rw [qkk]
 have e1:qj (.slice (some ⟨b,0,none⟩) l.length cap)=some (.int .i64 (l.length:Int)):=rfl
 have e2:ju 2 (.slice (some ⟨b,0,none⟩) l.length cap) (some (.int .i64 (i:Int))) (some (.int .i64 ((i+1:Nat):Int))) (.int .i64 (l.length:Int)) m=some (.slice (some ⟨b,if (l.length:Int).toNat=i then 0 else 0+i * 2,none⟩) (i+1 - i) ((l.length:Int).toNat - i)):=by
  have c1:(0:Int)≤(l.length:Int)∧(l.length:Int)≤(cap:Int)∧l.length≤cap:=by omega
  simp only [ju,if_pos c1]
  rw [bV (by omega) (by omega)]
  simp only [Option.bind_some,hkn,or_true,if_true]
 have e3:decide ((i:Int)=((i+1:Nat):Int))=false:=by simp; omega
 have e4:qD 2 (.slice (some ⟨b,0,none⟩) l.length cap) none (some (.int .i64 (i:Int))) m=some (.slice (some ⟨b,0,none⟩) i cap):=by
  simp only [qD]
  rw [bV0 (by omega)]
  simp only [Option.bind_some,true_or,if_true,Nat.sub_zero,Nat.zero_mul,Nat.add_zero,ite_self]
 obtain ⟨v5,e5,t5,_⟩:=h.ap.from (k:=i+1) (by omega)
 have e5:=e5 m (fun _ _=>rfl)
 have e6:=t5.src
 rw [zc] at e5 e6
 have hs:=qhd qN l hi rest
 obtain ⟨x,hx,hse⟩:=hs
 rw [zc] at hx hse
 rw [List.length_drop] at e6
 obtain ⟨m1,y,e7,hg1,u1,hy⟩:∃ m1 y,qB 81 2 32 (.slice (some ⟨b,0,none⟩) i cap) (l.length - (i+1)) (qN.flat (l.drop (i+1))) m=some (.slice (some ⟨b,0,none⟩) (l.length - 1) cap,m1)∧m1.get b=some ⟨.cells (qN.flat (l.eraseIdx i)++(y++rest)) 81,false,some 2⟩∧Upd [b] m m1∧y.length=2:=by
  have hc0:¬ ¬ ((i+(l.length - (i+1))) * 32≤2 ^ 47∧(i+(l.length - (i+1)))≤2 ^ 47∧(qN.flat (l.drop (i+1))).length=(l.length - (i+1)) * 2∧(qN.flat (l.drop (i+1))).all (·.oneCell')=true):=by
   simp only [Decidable.not_not]
   exact ⟨by omega,by omega,by rw [qN.qV,List.length_drop]; rfl,qN.vC _⟩
  have hfit:i+(l.length - (i+1))≤cap:=by omega
  have hlen:i+(l.length - (i+1))=l.length - 1:=by omega
  by_cases h0:l.length - (i+1)=0
  ·refine ⟨m,(qN.flat (l.drop i)),?_,?_,Upd.refl _ _,by rw [qN.qV,List.length_drop,zc]; omega⟩
   ·simp only [qB,if_neg hc0,if_pos hfit,if_pos (show (l.length - (i+1)) * 2=0 by omega)]; rw [hlen]
   ·rw [hg,XS,List.drop_of_length_le (by omega:l.length≤i+1),List.append_nil,← List.append_assoc,← qN.xn,List.take_append_drop]
  ·refine ⟨_,x,?_,Mem.qi ..,Upd.put _ _ (by simp),hx⟩
   have how:m.jk b=some (qN.flat l++rest,81,some 2):=by simp [Mem.jk,hg]
   have hlc:0+(i+(l.length - (i+1))) * 2≤(qN.flat l++rest).length∧cap≠0:=by rw [List.length_append,hfl]; omega
   simp only [qB,if_neg hc0,if_pos hfit,if_neg (show ¬ (l.length - (i+1)) * 2=0 by omega),how,Option.bind_some]
   rw [if_pos hlc,Nat.zero_add,hse,hlen]
 have e8:qj (.slice (some ⟨b,0,none⟩) (l.length - 1) cap)=some (.int .i64 ((l.length - 1:Nat):Int)):=rfl
 have hkn1:m1.known b=.loose 2:=by simp [Mem.known,hg1]
 have hel2:=qN.qV (l.eraseIdx i)
 rw [hel,zc] at hel2
 have e9:qD 2 (.slice (some ⟨b,0,none⟩) (l.length - 1) cap) (some (.int .i64 ((l.length - 1:Nat):Int))) (some (.int .i64 (l.length:Int))) m1=some (.slice (some ⟨b,(l.length - 1) * 2,none⟩) 1 (cap - (l.length - 1))):=by
  simp only [qD]
  rw [bV (by omega) hc]
  simp only [Option.bind_some,hkn1,or_true,if_true]
  rw [if_neg (by omega),show l.length - (l.length - 1)=1 by omega,Nat.zero_add]
 have e10:kQ [.string ⟨#[]⟩,.string ⟨#[]⟩] (.slice (some ⟨b,(l.length - 1) * 2,none⟩) 1 (cap - (l.length - 1))) m1=some (m1.put b ⟨.cells (qN.flat (l.eraseIdx i)++([.string ⟨#[]⟩,.string ⟨#[]⟩]++rest)) 81,false,some 2⟩):=by
  have how:m1.jk b=some (qN.flat (l.eraseIdx i)++(y++rest),81,some 2):=by simp [Mem.jk,hg1]
  have hset:=zR (qN.flat (l.eraseIdx i)) y rest [.string ⟨#[]⟩,.string ⟨#[]⟩] (by rw [hy]; rfl)
  rw [hel2] at hset
  have hcc:(l.length - 1) * 2+1 * [Value.string ⟨#[]⟩,Value.string ⟨#[]⟩].length≤(qN.flat (l.eraseIdx i)++(y++rest)).length∧cap - (l.length - 1)≠0∧[Value.string ⟨#[]⟩,Value.string ⟨#[]⟩].all (·.oneCell')=true:=by
   refine ⟨?_,by omega,rfl⟩
   simp only [List.length_append,hel2,hy,List.length_cons,List.length_nil]; omega
  simp only [kQ,if_neg (show ¬ (1:Nat)=0 by omega),how,Option.bind_some]
  rw [if_pos hcc,← hset]
  rfl
 simp -implicitDefEqProofs only [st0,qb,reduceIte,e1,e2,e3,e4,e5,e6,e7,e8,e9,e10]
 have hbo:qf (.slice (some ⟨b,0,none⟩) (l.length - 1) cap)=[b]:=rfl
 have hgf:(m1.put b ⟨.cells (qN.flat (l.eraseIdx i)++([.string ⟨#[]⟩,.string ⟨#[]⟩]++rest)) 81,false,some 2⟩).get b=_:=Mem.qi ..
 have hnx:b<(m1.put b ⟨.cells (qN.flat (l.eraseIdx i)++([.string ⟨#[]⟩,.string ⟨#[]⟩]++rest)) 81,false,some 2⟩).next:=Nat.lt_of_lt_of_le hb u1.next
 have hrl:([Value.string ⟨#[]⟩,.string ⟨#[]⟩]++rest).length=(cap - (l.eraseIdx i).length) * 2:=by
  rw [List.length_append,hr,hel]; simp only [List.length_cons,List.length_nil]; omega
 refine ⟨⟨.inr ⟨b,cap,[.string ⟨#[]⟩,.string ⟨#[]⟩]++rest,some 2,by rw [hel],hnx,hgf,.inr rfl,hrl,by omega⟩,fun _=>⟨b,cap,_,by rw [hel],hnx,hgf,hrl,by omega⟩⟩,u1.kr _ (.inl (by simp)),rfl⟩
theorem qbH {v:Value} {l:List Pr} {m:Mem} (h:TIn qN 81 m v l) {i:Nat} (hi:i≤l.length) (hl:l.length≤65536) {vb:Nat} {t':TypeId} {p:Pr} (hvb:m.get vb=some ⟨.cells (qN.flat [p]) t',false,none⟩) (hne:vb∉qf v) :
  W (Call S tab 132 [v,.int .i64 (i:Int),.slice (some ⟨vb,0,none⟩) 1 1] m) fun r m'=>TAp qN 81 m' r (l.take i++[p]++l.drop i)∧Upd (qf v) m m'∧∀ b∈qf r,b∈qf v∨m.next≤b:=by
 have hsrc:qL 2 (.slice (some ⟨vb,0,none⟩) 1 1) m=some (1,qN.flat [p]):=by
  simp only [qL,if_neg (show ¬ (1:Nat)=0 by omega)]
  rw [zE hvb]
  rfl
 by_cases hin:i=l.length
 ·subst hin
  have e0:∃ x,qD 2 v (some (.int .i64 (l.length:Int))) none m=some x:=by
   obtain ⟨x,h1,_⟩:=h.ap.from (k:=l.length) (Nat.le_refl _)
   exact ⟨x,h1 m (fun _ _=>rfl)⟩
  obtain ⟨x,e0⟩:=e0
  obtain ⟨v',m',h1,h2,h3,h4⟩:=h.ap.append (k:=[p]) (eb:=32) (by decide) (by simp; omega) (by simp; omega)
  have hcall:kB [v,.int .i64 (l.length:Int),.slice (some ⟨vb,0,none⟩) 1 1] m=some (v',m'):=by
   rcases h.ap with ⟨rfl,rfl⟩|⟨b,cap,rest,lo,rfl,_⟩
   ·simp only [kB]
    rw [if_pos (by rfl)]
    rw [e0,Option.bind_some,hsrc,Option.bind_some]
    exact h1
   ·simp only [kB]
    rw [if_pos trivial,e0,Option.bind_some,hsrc,Option.bind_some]
    exact h1
  refine ⟨v',m',yO hcall,?_,h3,h4⟩
  rw [List.take_length,List.drop_length,List.append_nil]
  exact h2
 ·have hlt:i<l.length:=by omega
  obtain ⟨b,cap,rest,rfl,hb,hg,hr,hc⟩:=h.lo (by rintro rfl; simp at hlt)
  rw [zc] at hg hr
  have hfl:=qN.qV l
  rw [zc] at hfl
  have hbv:b≠vb:=fun e=>hne (by simp [qf,e])
  have ht:(((qN.flat l++rest).drop 0).take (l.length * 2))=qN.flat l:=by rw [List.drop_zero,← hfl,List.take_left']; rfl
  have hcond:(0:Int)≤(i:Int)∧(i:Int)<(l.length:Int)∧l.length≤cap∧0+l.length * 2≤(qN.flat l++rest).length∧True∧l.length≤1099511627776∧b≠vb∧0+2≤(qN.flat [p]).length∧(((qN.flat l++rest).drop 0).take (l.length * 2)).all (·.oneCell')=true∧(((qN.flat [p]).drop 0).take 2).all (·.oneCell')=true:=by
   refine ⟨by omega,by omega,hc,by rw [List.length_append,hfl]; omega,trivial,by omega,hbv,by rw [qN.qV,zc]; simp,by rw [ht]; exact qN.vC l,rfl⟩
  have hcells:(((qN.flat l++rest).drop 0).take ((i:Int).toNat * 2)++(((qN.flat [p]).drop 0).take 2++((qN.flat l++rest).drop (0+(i:Int).toNat * 2)).take ((l.length - (i:Int).toNat) * 2)))=qN.flat (l.take i++[p]++l.drop i)++[]:=by
   have f1:=qN.QS l i
   have f2:=qN.vB l i
   rw [zc] at f1 f2
   rw [Int.toNat_natCast,List.drop_zero,Nat.zero_add,List.take_append_of_le_length (by rw [hfl]; omega),f1,List.drop_append_of_le_length (by rw [hfl]; omega),f2,List.take_append_of_le_length (by rw [qN.qV,List.length_drop,zc]; exact Nat.le_refl _),List.take_of_length_le (l:=qN.flat (l.drop i)) (by rw [qN.qV,List.length_drop,zc]; exact Nat.le_refl _)]
   rw [qN.xn,qN.xn,List.append_nil,List.append_assoc]
   rfl
  have hcall:kB [.slice (some ⟨b,0,none⟩) l.length cap,.int .i64 (i:Int),.slice (some ⟨vb,0,none⟩) 1 1] m=some (.slice (some ⟨m.next,0,none⟩) (l.length+1) (l.length+1),(m.kill b).add ⟨.cells (qN.flat (l.take i++[p]++l.drop i)++[]) 81,false,some 2⟩):=by
   simp only [kB]
   rw [if_neg (by omega)]
   simp only [ZO,hg,hvb]
   rw [if_pos hcond,hcells]
  have hlen:(l.take i++[p]++l.drop i).length=l.length+1:=by
   simp only [List.length_append,List.length_take,List.length_drop,List.length_cons,List.length_nil]; omega
  refine ⟨_,_,yO hcall,.inr ⟨m.next,l.length+1,[],some 2,by rw [hlen],by simp,?_,.inr rfl,by rw [hlen]; simp,by omega⟩,((Upd.kill _ (by simp [qf]):Upd (qf (.slice (some ⟨b,0,none⟩) l.length cap)) m (m.kill b))).qdZ _,fun c hc=>.inr (by simp [qf] at hc; omega)⟩
  have:(m.kill b).next=m.next:=rfl
  rw [← this,Mem.qh]
theorem yo (l:List Pr) (key:Bs):zx l key≤l.length:=List.length_filter_le ..
theorem jt {l:List Pr} {key:Bs} (h:zJ l key=true):zx l key<l.length:=by
 unfold zJ at h
 split at h
 ·rename_i p hp; exact (List.getElem?_eq_some_iff.1 hp).1
 ·cases h
theorem qhD {lo:Nat} {v:Value} {n:Nd} {m:Mem} (key:Bs) (h:TN lo m v n) (hf:n.Fit) (hlo:lo≤m.next) :
  W (Call S tab 131 [v,str key] m) fun r m'=>(∃ sp,r=yv true sp (.slice none 0 0) (.slice none 0 0)∧TIn qN 81 m' sp (yK n.pairs key)∧∀ b∈qf sp,m.next≤b)∧Upd [] m m':=by
 have hn:=h
 obtain ⟨sp,sk,si,rfl,h1,h2,h3⟩:=h.ex
 rw [qkB]
 have g1:(m.add (qk n.leaf sp sk si)).get m.next=some (qk n.leaf sp sk si):=Mem.qh ..
 have u1:Upd [] m (m.add (qk n.leaf sp sk si)):=Upd.add _ _ _
 have n1:(m.add (qk n.leaf sp sk si)).next=m.next+1:=rfl
 simp -implicitDefEqProofs only [st0,qb,reduceIte,fa,qR]
 generalize (m.add (qk n.leaf sp sk si))=m1 at g1 u1 n1
 have u2:Upd [] m1 (m1.add (qk false (.slice none 0 0) (.slice none 0 0) (.slice none 0 0))):=Upd.add _ _ _
 have o2:(m1.add (qk false (.slice none 0 0) (.slice none 0 0) (.slice none 0 0))).get m1.next=some (qk false (.slice none 0 0) (.slice none 0 0) (.slice none 0 0)):=Mem.qh ..
 have n2:(m1.add (qk false (.slice none 0 0) (.slice none 0 0) (.slice none 0 0))).next=m1.next+1:=rfl
 generalize (m1.add (qk false (.slice none 0 0) (.slice none 0 0) (.slice none 0 0)))=m2 at u2 o2 n2
 have g2:=qA u2 (by omega) g1
 have u02:=u1.qz u2
 have lw:∀ {M:Mem},M.get m.next=some (qk n.leaf sp sk si)→qm 4 (.pointer (some ⟨m.next,0,none⟩)) M=some (.agg #[.bool n.leaf,sp,sk,si]):=fun g=>zu g rfl
 have lwo:∀ {M:Mem} {x:Value},M.get m1.next=some (qk true x (.slice none 0 0) (.slice none 0 0))→qm 4 (.pointer (some ⟨m1.next,0,none⟩)) M=some (.agg #[.bool true,x,.slice none 0 0,.slice none 0 0]):=fun g=>zu g rfl
 have ef:∀ x:Value,x.cells=#[x]→qy [.bool false,.slice none 0 0,.slice none 0 0,.slice none 0 0] [(0,1,.bool true),(1,1,x)]=some [.bool true,x,.slice none 0 0,.slice none 0 0]:=by
  intro x hx
  simp only [qy,hx]
  rfl
 simp -implicitDefEqProofs only [st0,qb,reduceIte,TN.load g2 (o:=0+1) rfl]
 refine qo.2 ((QX (h1.qx u02) hf.pl).mono fun v3 m3 ⟨t3,u3,b3⟩=>?_)
 have g3:=qA u3 (by omega) g2
 have o3:=qA u3 (by omega) o2
 simp -implicitDefEqProofs only [st0,qb,reduceIte,lw g3]
 refine qo.2 ((Va key ((hn.qx u02).qx u3) hf).mono fun v4 m4 ⟨r4,u4⟩=>?_)
 subst r4
 have t4:=t3.qx u4
 have x3:=u3.next
 have x4:=u4.next
 have o4:=qA u4 (by omega) o3
 have e1:∀ a b:Value,qd 0 (.tuple #[a,b])=some a:=fun _ _=>rfl
 have e2:∀ a b:Value,qd 1 (.tuple #[a,b])=some b:=fun _ _=>rfl
 have hal:=yo n.pairs key
 have hfp:=hf.pl
 have u04:Upd [] m m4:=(u02.qz u3).qz u4
 unfold yK
 cases ht:zJ n.pairs key with
 | true =>
  simp -implicitDefEqProofs only [st0,qb,reduceIte,e1,e2,qH (i:=zx n.pairs key) (by omega)]
  refine qo.2 ((qbY t4 (jt ht) hfp).mono fun v5 m5 ⟨t5,u5,b5⟩=>?_)
  have hb5:∀ b∈qf v3,m2.next≤b:=b3
  have o5:m5.get m1.next=_:=(u5.same m1.next (by omega) (fun hm=>by have:=b3 _ hm; omega)).trans o4
  simp -implicitDefEqProofs only [st0,qb,reduceIte,ef v5 t5.ap.one.1,zB o5 true (sp':=v5) (sk':=.slice none 0 0) (si':=.slice none 0 0) t5.ap.one.2 rfl rfl,lwo (Mem.qi m5 m1.next _)]
  refine ⟨⟨v5,rfl,t5.upd (Upd.put (fp:=[m1.next]) _ _ (by simp)) (fun b hb hm=>?_),fun b hb=>?_⟩,(u04.then' u5 (fun b hb=>.inr ?_)).kr _ (.inr (by omega))⟩
  ·rw [b5] at hb; have:=b3 b hb; simp at hm; omega
  ·rw [b5] at hb; have:=b3 b hb; omega
  ·have:=b3 b hb; omega
 | false =>
  simp -implicitDefEqProofs only [st0,qb,reduceIte,e1,e2,ef v3 t4.ap.one.1,zB o4 true (sp':=v3) (sk':=.slice none 0 0) (si':=.slice none 0 0) t4.ap.one.2 rfl rfl,lwo (Mem.qi m4 m1.next _)]
  refine ⟨⟨v3,rfl,t4.upd (Upd.put (fp:=[m1.next]) _ _ (by simp)) (fun b hb hm=>?_),fun b hb=>?_⟩,u04.kr _ (.inr (by omega))⟩
  ·have:=b3 b hb; simp at hm; omega
  ·have:=b3 b hb; omega
theorem KQ {lo:Nat} {v:Value} {n:Nd} {m:Mem} (key val:Bs) (h:TN lo m v n) (hf:n.Fit) (hlo:lo≤m.next) :
  W (Call S tab 94 [v,str key,str val] m) fun r m'=>TN m.next m' r (Nd.lf (xD n.pairs key val))∧Upd [] m m':=by
 have hn:=h
 obtain ⟨sp,sk,si,rfl,h1,h2,h3⟩:=h.ex
 rw [C94]
 have g1:(m.add (qk n.leaf sp sk si)).get m.next=some (qk n.leaf sp sk si):=Mem.qh ..
 have u1:Upd [] m (m.add (qk n.leaf sp sk si)):=Upd.add _ _ _
 have n1:(m.add (qk n.leaf sp sk si)).next=m.next+1:=rfl
 simp -implicitDefEqProofs only [st0,qb,reduceIte,fa,qR]
 generalize (m.add (qk n.leaf sp sk si))=m1 at g1 u1 n1
 have u2:Upd [] m1 (m1.add (qk false (.slice none 0 0) (.slice none 0 0) (.slice none 0 0))):=Upd.add _ _ _
 have o2:(m1.add (qk false (.slice none 0 0) (.slice none 0 0) (.slice none 0 0))).get m1.next=some (qk false (.slice none 0 0) (.slice none 0 0) (.slice none 0 0)):=Mem.qh ..
 have n2:(m1.add (qk false (.slice none 0 0) (.slice none 0 0) (.slice none 0 0))).next=m1.next+1:=rfl
 generalize (m1.add (qk false (.slice none 0 0) (.slice none 0 0) (.slice none 0 0)))=m2 at u2 o2 n2
 have g2:=qA u2 (by omega) g1
 have u02:=u1.qz u2
 have lw:∀ {M:Mem},M.get m.next=some (qk n.leaf sp sk si)→qm 4 (.pointer (some ⟨m.next,0,none⟩)) M=some (.agg #[.bool n.leaf,sp,sk,si]):=fun g=>zu g rfl
 have lwo:∀ {M:Mem} {x:Value},M.get m1.next=some (qk true x (.slice none 0 0) (.slice none 0 0))→qm 4 (.pointer (some ⟨m1.next,0,none⟩)) M=some (.agg #[.bool true,x,.slice none 0 0,.slice none 0 0]):=fun g=>zu g rfl
 have ef:∀ x:Value,x.cells=#[x]→qy [.bool false,.slice none 0 0,.slice none 0 0,.slice none 0 0] [(0,1,.bool true),(1,1,x)]=some [.bool true,x,.slice none 0 0,.slice none 0 0]:=by
  intro x hx
  simp only [qy,hx]
  rfl
 simp -implicitDefEqProofs only [st0,qb,reduceIte,lw g2]
 refine qo.2 ((qhD key (hn.qx u02) hf (by omega)).mono fun v3 m3 ⟨⟨sp3,r3,t3,b3⟩,u3⟩=>?_)
 subst r3
 have g3:=qA u3 (by omega) g2
 have o3:=qA u3 (by omega) o2
 have x3:=u3.next
 have ef1:vu 1 1 false (yv true sp3 (.slice none 0 0) (.slice none 0 0))=some sp3:=rfl
 simp -implicitDefEqProofs only [st0,qb,reduceIte,lw g3,ef1]
 refine qo.2 ((Va key ((hn.qx u02).qx u3) hf).mono fun v4 m4 ⟨r4,u4⟩=>?_)
 subst r4
 have t4:=t3.qx u4
 have x4:=u4.next
 have o4:=qA u4 (by omega) o3
 have e1:∀ a b:Value,qd 0 (.tuple #[a,b])=some a:=fun _ _=>rfl
 have e2:∀ a b:Value,qd 1 (.tuple #[a,b])=some b:=fun _ _=>rfl
 have u04:Upd [] m m4:=(u02.qz u3).qz u4
 have e3:qy [.string ⟨#[]⟩,.string ⟨#[]⟩] [(0,1,str key),(1,1,str val)]=some [str key,str val]:=by kernel_rfl
 have e4:qy [.string ⟨#[]⟩,.string ⟨#[]⟩] [(0,2,.agg [str key,str val].toArray)]=some (qN.flat [(key,val)]):=by kernel_rfl
 have g5:(m4.add ⟨.cells (qN.flat [(key,val)]) 81,false,none⟩).get m4.next=some ⟨.cells (qN.flat [(key,val)]) 81,false,none⟩:=Mem.qh ..
 have u5:Upd [] m4 (m4.add ⟨.cells (qN.flat [(key,val)]) 81,false,none⟩):=Upd.add _ _ _
 have n5:(m4.add ⟨.cells (qN.flat [(key,val)]) 81,false,none⟩).next=m4.next+1:=rfl
 simp -implicitDefEqProofs only [st0,qb,reduceIte,e1,e2,e3,e4]
 generalize (m4.add ⟨.cells (qN.flat [(key,val)]) 81,false,none⟩)=m5 at g5 u5 n5
 have o5:=qA u5 (by omega) o4
 have t5:=t4.qx u5
 have hcl:(yK n.pairs key).length≤n.pairs.length:=by
  unfold yK; split
  ·rw [List.length_eraseIdx]; split<;>omega
  ·exact Nat.le_refl _
 have hal:zx n.pairs key≤(yK n.pairs key).length:=by
  have:=yo n.pairs key
  unfold yK; split
  ·rename_i ht; have:=jt ht; rw [List.length_eraseIdx,if_pos this]; omega
  ·exact this
 have hfp:=hf.pl
 refine qo.2 ((qbH t5 hal (by omega) g5 (fun hm=>by have:=t4.ap.lt _ hm; omega)).mono fun v6 m6 ⟨t6,u6,b6⟩=>?_)
 have o6:m6.get m1.next=_:=(u6.same m1.next (by omega) (fun hm=>by have:=b3 _ hm; omega)).trans o5
 have x6:=u6.next
 have hb6:∀ b∈qf v6,m2.next≤b:=fun b hb=>(b6 b hb).elim (fun h=>by have:=b3 b h; omega) (fun h=>by omega)
 simp -implicitDefEqProofs only [st0,qb,reduceIte,ef v6 t6.one.1,zB o6 true (sp':=v6) (sk':=.slice none 0 0) (si':=.slice none 0 0) t6.one.2 rfl rfl,lwo (Mem.qi m6 m1.next _)]
 have hput:Upd [m1.next] m6 (m6.put m1.next (qk true v6 (.slice none 0 0) (.slice none 0 0))):=Upd.put _ _ (by simp)
 refine ⟨⟨_,_,_,rfl,((t6.rsl hb6).upd hput (fun b hb=>by simp at hb; omega)).low (by omega),RSl.nil _ _ _,RSl.nil _ _ _⟩,((u04.qz u5).then' u6 (fun b hb=>.inr ?_)).kr _ (.inr (by omega))⟩
 have:=b3 b hb; omega
end Go.Fx.Tryz
namespace Go.Fx.Tryz
open Go Go.Fx
end Go.Fx.Tryz
namespace Go.Fx.Tryz
open Go Go.Fx
theorem Upd.xE (fp:List Nat) (m:Mem) (n:Nat):Upd fp m (m.xE n):=⟨by simp,fun b _ _=>rfl⟩
theorem qO {m:Mem} {b:Nat} {lf:Bool} {sp sk si:Value} (g:m.get b=some (qk lf sp sk si)):qm 4 (.pointer (some ⟨b,0,none⟩)) m=some (yv lf sp sk si):=zu g rfl
theorem zl {m:Mem} {b:Nat} {lf:Bool} {sp sk si:Value} (g:m.get b=some (qk lf sp sk si)):∀ {o:Nat} {x:Value},[Value.bool lf,sp,sk,si][o]? = some x→qc (.pointer (some ⟨b,o,none⟩)) m=some x:=fun hx=>qs g hx
theorem qgG (x:Value) (hx:x.cells=#[x]):qy [.bool false,.slice none 0 0,.slice none 0 0,.slice none 0 0] [(0,1,.bool true),(1,1,x)]=some [.bool true,x,.slice none 0 0,.slice none 0 0]:=by
 simp only [qy,hx]; rfl
theorem Hi (x y:Value) (hx:x.cells=#[x]) (hy:y.cells=#[y]):qy [.bool false,.slice none 0 0,.slice none 0 0,.slice none 0 0] [(2,1,x),(3,1,y)]=some [.bool false,.slice none 0 0,x,y]:=by
 simp only [qy,hx,hy]; rfl
theorem _root_.Go.Fx.RSl.one {lo:Nat} {α:Type} {E:Enc α} {m:Mem} {v:Value} {l:List α} (h:RSl lo E m v l):v.cells=#[v]∧v.oneCell'=true:=by
 rcases yp h.1 with ⟨rfl,_⟩|⟨b,off,cap,rfl⟩<;>exact ⟨rfl,rfl⟩
end Go.Fx.Tryz
namespace Go.Fx.Tryz
open Go Go.Fx
def xh (w:List Nat) (most all:Nat):Nat→Nat→Nat→Nat
 | 0,i,_=>i
 | d+1,i,part=>if i=0∨(i<most∧2 * part<all) then xh w most all d (i+1) (part+w.getD i 0) else i
def kE (w:List Nat) (most:Nat):Nat:=xh w most w.sum w.length 0 0
def ze (ks:List Bs):Nat:=kE (ks.map fun k=>3+k.length) (ks.length - 2)
def zg (ps:List Pr):Nat:=kE (ps.map qI) (ps.length - 1)
def qM (n:Nd):Nd × Nd × Bs :=
 if n.leaf then (Nd.lf (n.pairs.take (zg n.pairs)),Nd.lf (n.pairs.drop (zg n.pairs)),((n.pairs[zg n.pairs]?).map (·.1)).getD [])
 else (Nd.nd (n.keys.take (ze n.keys)) (n.kids.take (ze n.keys+1)),Nd.nd (n.keys.drop (ze n.keys+1)) (n.kids.drop (ze n.keys+1)),(n.keys[ze n.keys]?).getD [])
theorem JN (w:List Nat) (most all:Nat):∀ (d i part:Nat),xh w most all d i part≤max i (max 1 most)
 | 0,i,part=>by unfold xh; omega
 | d+1,i,part=>by
  unfold xh
  split
  ·rename_i h
   have:=JN w most all d (i+1) (part+w.getD i 0)
   omega
  ·omega
theorem QR (w:List Nat) (most all:Nat):∀ (d i part:Nat),i≤xh w most all d i part
 | 0,i,part=>by unfold xh; omega
 | d+1,i,part=>by
  unfold xh
  split
  ·have:=QR w most all d (i+1) (part+w.getD i 0); omega
  ·omega
theorem Ql {w:List Nat} {most:Nat} (h:w≠[]):1≤kE w most:=by
 unfold kE
 cases w with
 | nil=>exact absurd rfl h
 | cons a l =>
  simp only [List.length_cons]
  unfold xh
  rw [if_pos (.inl rfl)]
  exact QR ..
theorem Qk {w:List Nat} {most:Nat} (h:1≤most):kE w most≤most:=by
 have:=JN w most w.sum w.length 0 0
 unfold kE; omega
theorem jX (w:List Nat) {i:Nat} (h:i<w.length):(w.take (i+1)).sum=(w.take i).sum+w[i]:=by
 rw [List.take_succ_eq_append_getElem h,List.sum_append]; simp
theorem Ze (w:List Nat) (i:Nat):(w.take i).sum≤w.sum:=by
 have:=congrArg List.sum (List.take_append_drop i w)
 rw [List.sum_append] at this
 omega
theorem qdv {lo:Nat} {ks:List Bs} {sk:Value} (hl:ks.length≤65536) (hk:∀ k∈ks,k.length≤65536) (x4 x5:Value) {Q:Value→Mem→Prop} {m:Mem} (h:RSl lo encS m sk ks) (hQ:W (Hq sk (.int .i64 (((ks.map fun k=>3+k.length).sum:Nat):Int)) x4 x5 m) Q) (hs:(ks.map fun k=>3+k.length).sum≤65536 * 65539) :
  ∀ (d i:Nat),ks.length - i=d→i≤ks.length→W (Vu sk (.int .i64 ((((ks.map fun k=>3+k.length).take i).sum:Nat):Int)) x4 x5 sk (.int .i64 (ks.length:Int)) (.int .i64 (i:Int)) m) Q:=by
 intro d
 induction d with
 | zero =>
  intro i hd hi
  obtain rfl:i=ks.length:=by omega
  rw [P204_0_eq]
  simp -implicitDefEqProofs only [st0,qb,reduceIte,Int.lt_irrefl]
  rw [List.take_of_length_le (by simp)]
  exact hQ
 | succ d ih =>
  intro i hd hi
  have hlt:i<ks.length:=by omega
  have e1:((i:Int)<(ks.length:Int))=True:=eq_true (by omega)
  obtain ⟨p,h1,_,h2⟩:=h.1.index .i64 (jE hlt)
  rw [zZ] at h1
  have h2:=h2 (str ks[i]) rfl
  have hki:=hk _ (List.getElem_mem hlt)
  have e3:arith .add (.int .i64 3) (.int .i64 (ks[i].length:Int))=some (.int .i64 ((3+ks[i].length:Nat):Int)):=addN (i:=3) (by omega)
  have hsum:=Ze (ks.map fun k=>3+k.length) i
  have ih':=ih (i+1) (by omega) hlt
  rw [jX _ (by simpa using hlt),List.getElem_map] at ih'
  rw [P204_0_eq]
  simp -implicitDefEqProofs only [st0,qb,reduceIte,e1,h1,h2,zN,e3,addN (i:=((ks.map fun k=>3+k.length).take i).sum) (j:=3+ks[i].length) (by omega),qH (i:=i) (by omega)]
  exact ih'
theorem qbJ {lo:Nat} {ks:List Bs} {sk:Value} (hl:ks.length≤65536) (h3:3≤ks.length) (hk:∀ k∈ks,k.length≤65536) {m:Mem} (h:RSl lo encS m sk ks) (all:Nat) (hall:all≤65536 * 65539):∀ (d i part:Nat),ks.length - i=d→i≤ks.length→part≤i * 65539 →
  W (Vt sk (.int .i64 (all:Int)) (.int .i64 (part:Int)) (.int .i64 (i:Int)) m) fun r m'=>r=.int .i64 ((xh (ks.map fun k=>3+k.length) (ks.length - 2) all d i part:Nat):Int)∧m'=m:=by
 intro d
 induction d with
 | zero =>
  intro i part hd hi hp
  obtain rfl:i=ks.length:=by omega
  have e0:((ks.length:Int)=0)=False:=eq_false (by omega)
  have e1:arith .sub (.int .i64 (ks.length:Int)) (.int .i64 2)=some (.int .i64 ((ks.length:Int) - 2)):=jf (by omega) (by omega)
  have e2:((ks.length:Int)<(ks.length:Int) - 2)=False:=eq_false (by omega)
  rw [P204_2_eq]
  simp -implicitDefEqProofs only [st0,qb,reduceIte,e0,zv h,e1,e2,xh]
  exact ⟨trivial,trivial⟩
 | succ d ih =>
  intro i part hd hi hp
  have hlt:i<ks.length:=by omega
  have hi6:i * 65539≤65536 * 65539:=Nat.mul_le_mul_right _ (by omega)
  obtain ⟨p,h1,_,h2⟩:=h.1.index .i64 (jE hlt)
  rw [zZ] at h1
  have h2:=h2 (str ks[i]) rfl
  have hki:=hk _ (List.getElem_mem hlt)
  have e3:arith .add (.int .i64 3) (.int .i64 (ks[i].length:Int))=some (.int .i64 ((3+ks[i].length:Nat):Int)):=addN (i:=3) (by omega)
  have ih':=ih (i+1) (part+(3+ks[i].length)) (by omega) hlt (by rw [Nat.add_mul]; omega)
  have hgd:(ks.map fun k=>3+k.length).getD i 0=3+ks[i].length:=by
   rw [List.getD_eq_getElem?_getD,List.getElem?_eq_getElem (by simpa using hlt)]; simp
  unfold xh
  rw [hgd]
  rw [P204_2_eq]
  by_cases h0:i=0
  ·rw [if_pos (.inl h0)]
   have e0:((i:Int)=0)=True:=eq_true (by omega)
   simp -implicitDefEqProofs only [st0,qb,reduceIte,e0,h1,h2,zN,e3,addN (i:=part) (j:=3+ks[i].length) (by omega),qH (i:=i) (by omega)]
   exact ih'
  ·have e0:((i:Int)=0)=False:=eq_false (by omega)
   have e1:arith .sub (.int .i64 (ks.length:Int)) (.int .i64 2)=some (.int .i64 ((ks.length:Int) - 2)):=jf (by omega) (by omega)
   have e4:arith .mul (.int .i64 2) (.int .i64 (part:Int))=some (.int .i64 ((2 * part:Nat):Int)):=by rw [qdW,wrap64 (by omega) (by omega)]; simp
   by_cases h4:i<ks.length - 2
   ·have e5:((i:Int)<(ks.length:Int) - 2)=True:=eq_true (by omega)
    by_cases h5:2 * part<all
    ·have e6:(((2 * part:Nat):Int)<(all:Int))=True:=eq_true (by omega)
     rw [if_pos (.inr ⟨h4,h5⟩)]
     simp -implicitDefEqProofs only [st0,qb,reduceIte,e0,zv h,e1,e4,e5,e6,h1,h2,zN,e3,addN (i:=part) (j:=3+ks[i].length) (by omega),qH (i:=i) (by omega)]
     exact ih'
    ·have e6:(((2 * part:Nat):Int)<(all:Int))=False:=eq_false (by omega)
     rw [if_neg (by omega)]
     simp -implicitDefEqProofs only [st0,qb,reduceIte,e0,zv h,e1,e4,e5,e6]
     exact ⟨trivial,trivial⟩
   ·have e5:((i:Int)<(ks.length:Int) - 2)=False:=eq_false (by omega)
    rw [if_neg (by omega)]
    simp -implicitDefEqProofs only [st0,qb,reduceIte,e0,zv h,e1,e5]
    exact ⟨trivial,trivial⟩
theorem kG {α:Type} (f:α→Nat) (c:Nat):∀ l:List α,(∀ a∈l,f a≤c)→(l.map f).sum≤l.length * c
 | [],_=>by simp
 | a::l,h=>by
  have:=kG f c l (fun s hs=>h s (by simp [hs]))
  have:=h a (by simp)
  rw [List.map_cons,List.sum_cons,List.length_cons,Nat.add_mul]; omega
theorem qfd {lo:Nat} {ks:List Bs} {sk:Value} {m:Mem} (hl:ks.length≤65536) (h3:3≤ks.length) (hk:∀ k∈ks,k.length≤65536) (h:RSl lo encS m sk ks):Call S tab 204 [sk] m=some (.int .i64 ((ze ks:Nat):Int),m):=by
 refine W_eq ?_
 have hs:(ks.map fun k=>3+k.length).sum≤65536 * 65539:=Nat.le_trans (kG _ 65539 ks (fun k hk'=>by have:=hk k hk'; omega)) (Nat.mul_le_mul_right _ hl)
 rw [qke]
 simp -implicitDefEqProofs only [st0,qb,reduceIte,zv h]
 refine qdv hl hk _ _ h ?_ hs _ 0 rfl (by omega)
 rw [P204_1_eq]
 have:=qbJ hl h3 hk h _ hs _ 0 0 rfl (by omega) (by omega)
 simpa [ze,kE] using this
theorem qdm {lo:Nat} {l:List Pr} {sp:Value} (hl:l.length≤65536) (hk:∀ p∈l,p.1.length≤65536∧p.2.length≤65536) (x2 x3 x6 x7:Value) {Q:Value→Mem→Prop} {m0:Mem} (hQ:∀ m,Upd [] m0 m→W (Hs sp x2 x3 (.int .i64 (((l.map qI).sum:Nat):Int)) x6 x7 m) Q) (hs:(l.map qI).sum≤65536 * 131074) :
  ∀ (d i:Nat) (m:Mem),l.length - i=d→i≤l.length→RSl lo qN m sp l→Upd [] m0 m→W (Vv sp x2 x3 (.int .i64 ((((l.map qI).take i).sum:Nat):Int)) x6 x7 sp (.int .i64 (l.length:Int)) (.int .i64 (i:Int)) m) Q:=by
 intro d
 induction d with
 | zero =>
  intro i m hd hi h hu
  obtain rfl:i=l.length:=by omega
  rw [P203_0_eq]
  simp -implicitDefEqProofs only [st0,qb,reduceIte,Int.lt_irrefl]
  rw [List.take_of_length_le (by simp)]
  exact hQ m hu
 | succ d ih =>
  intro i m hd hi h hu
  have hlt:i<l.length:=by omega
  have e1:((i:Int)<(l.length:Int))=True:=eq_true (by omega)
  obtain ⟨b,off,h1,h2⟩:=h.1.at .i64 (jE hlt)
  rw [zc] at h1 h2
  have h2:=h2 m h.1
  have hp:=hk _ (List.getElem_mem hlt)
  have hsum:=Ze (l.map qI) i
  have hw:qI l[i]≤131074:=by unfold qI; omega
  rw [P203_0_eq]
  simp -implicitDefEqProofs only [st0,qb,reduceIte,e1,h1,h2.1]
  refine jJ (c:=qN.cells l[i]) rfl rfl rfl fun m1 g1 u1 n1=>?_
  have lw:qm 2 (.pointer (some ⟨m.next,0,none⟩)) m1=some (HY l[i]):=zu g1 rfl
  simp -implicitDefEqProofs only [st0,qb,reduceIte,lw]
  refine qo.2 ((ZR l[i] m1 hp.1 hp.2).mono fun v2 m2 ⟨r2,u2⟩=>?_)
  subst r2
  have ih':=ih (i+1) m2 (by omega) hlt ((h.qx u1).qx u2) ((hu.qz u1).qz u2)
  rw [jX _ (by simpa using hlt),List.getElem_map] at ih'
  simp -implicitDefEqProofs only [st0,qb,reduceIte,addN (i:=((l.map qI).take i).sum) (j:=qI l[i]) (by omega),qH (i:=i) (by omega)]
  exact ih'
theorem qbE {lo:Nat} {l:List Pr} {sp:Value} (hl:l.length≤65536) (h2l:2≤l.length) (hk:∀ p∈l,p.1.length≤65536∧p.2.length≤65536) (x2 x3:Value) {Q:Value→Mem→Prop} {m0:Mem} (all:Nat) (hall:all≤65536 * 131074) (r:Nat)
  (hQ:∀ m,Upd [] m0 m→W (Hr sp x2 x3 (.int .i64 (r:Int)) m) Q):∀ (d i part:Nat) (m:Mem),l.length - i=d→i≤l.length→part≤i * 131074→RSl lo qN m sp l→Upd [] m0 m→xh (l.map qI) (l.length - 1) all d i part=r →
  W (Jd sp x2 x3 (.int .i64 (all:Int)) (.int .i64 (part:Int)) (.int .i64 (i:Int)) m) Q:=by
 intro d
 induction d with
 | zero =>
  intro i part m hd hi hp h hu hr
  obtain rfl:i=l.length:=by omega
  have e0:((l.length:Int)=0)=False:=eq_false (by omega)
  have e1:arith .sub (.int .i64 (l.length:Int)) (.int .i64 1)=some (.int .i64 ((l.length:Int) - 1)):=jf (by omega) (by omega)
  have e2:((l.length:Int)<(l.length:Int) - 1)=False:=eq_false (by omega)
  unfold xh at hr
  subst hr
  rw [P203_2_eq]
  simp -implicitDefEqProofs only [st0,qb,reduceIte,e0,zv h,e1,e2]
  exact hQ m hu
 | succ d ih =>
  intro i part m hd hi hp h hu hr
  have hlt:i<l.length:=by omega
  have hi6:i * 131074≤65536 * 131074:=Nat.mul_le_mul_right _ (by omega)
  obtain ⟨b,off,h1,h2⟩:=h.1.at .i64 (jE hlt)
  rw [zc] at h1 h2
  have h2:=h2 m h.1
  have hpi:=hk _ (List.getElem_mem hlt)
  have hw:qI l[i]≤131074:=by unfold qI; omega
  have hgd:(l.map qI).getD i 0=qI l[i]:=by
   rw [List.getD_eq_getElem?_getD,List.getElem?_eq_getElem (by simpa using hlt)]; simp
  unfold xh at hr
  rw [hgd] at hr
  have step:xh (l.map qI) (l.length - 1) all d (i+1) (part+qI l[i])=r→W ((Call S tab 202 [HY l[i]] m).bind fun p22=>(arith .add (.int .i64 (part:Int)) p22.1).bind fun v23=>(arith .add (.int .i64 (i:Int)) (.int .i64 1)).bind fun v24=>Jd sp x2 x3 (.int .i64 (all:Int)) v23 v24 p22.2) Q:=by
   intro hr'
   refine qo.2 ((ZR l[i] m hpi.1 hpi.2).mono fun v2 m2 ⟨r2,u2⟩=>?_)
   subst r2
   simp -implicitDefEqProofs only [st0,qb,reduceIte,addN (i:=part) (j:=qI l[i]) (by omega),qH (i:=i) (by omega)]
   exact ih (i+1) _ m2 (by omega) hlt (by rw [Nat.add_mul]; omega) (h.qx u2) (hu.qz u2) hr'
  rw [P203_2_eq]
  by_cases h0:i=0
  ·rw [if_pos (.inl h0)] at hr
   have e0:((i:Int)=0)=True:=eq_true (by omega)
   simp -implicitDefEqProofs only [st0,qb,reduceIte,e0,h1,h2.1]
   exact step hr
  ·have e0:((i:Int)=0)=False:=eq_false (by omega)
   have e1:arith .sub (.int .i64 (l.length:Int)) (.int .i64 1)=some (.int .i64 ((l.length:Int) - 1)):=jf (by omega) (by omega)
   have e4:arith .mul (.int .i64 2) (.int .i64 (part:Int))=some (.int .i64 ((2 * part:Nat):Int)):=by rw [qdW,wrap64 (by omega) (by omega)]; simp
   by_cases h4:i<l.length - 1
   ·have e5:((i:Int)<(l.length:Int) - 1)=True:=eq_true (by omega)
    by_cases h5:2 * part<all
    ·have e6:(((2 * part:Nat):Int)<(all:Int))=True:=eq_true (by omega)
     rw [if_pos (.inr ⟨h4,h5⟩)] at hr
     simp -implicitDefEqProofs only [st0,qb,reduceIte,e0,zv h,e1,e4,e5,e6,h1,h2.1]
     exact step hr
    ·have e6:(((2 * part:Nat):Int)<(all:Int))=False:=eq_false (by omega)
     rw [if_neg (by omega)] at hr
     subst hr
     simp -implicitDefEqProofs only [st0,qb,reduceIte,e0,zv h,e1,e4,e5,e6]
     exact hQ m hu
   ·have e5:((i:Int)<(l.length:Int) - 1)=False:=eq_false (by omega)
    rw [if_neg (by omega)] at hr
    subst hr
    simp -implicitDefEqProofs only [st0,qb,reduceIte,e0,zv h,e1,e5]
    exact hQ m hu
theorem Km {lo:Nat} {l:List Pr} {sp:Value} {m:Mem} (hl:l.length≤65536) (h2l:2≤l.length) (hk:∀ p∈l,p.1.length≤65536∧p.2.length≤65536) (h:RSl lo qN m sp l) :
  W (Call S tab 203 [sp] m) fun r m'=>(∃ va vb,r=.tuple #[va,vb,str (((l[zg l]?).map (·.1)).getD [])]∧TN m.next m' va (Nd.lf (l.take (zg l)))∧TN m.next m' vb (Nd.lf (l.drop (zg l))))∧Upd [] m m':=by
 have hs:(l.map qI).sum≤65536 * 131074:=Nat.le_trans (kG _ 131074 l (fun p hp=>by have:=hk p hp; unfold qI; omega)) (Nat.mul_le_mul_right _ hl)
 have hh1:1≤zg l:=Ql (by cases l with|nil=>simp at h2l|cons a r=>simp)
 have hh2:zg l≤l.length - 1:=Qk (by omega)
 have hlt:zg l<l.length:=by omega
 rw [qkf]
 simp -implicitDefEqProofs only [st0,qb,reduceIte,zv h]
 have u1:Upd [] m (m.add (qk false (.slice none 0 0) (.slice none 0 0) (.slice none 0 0))):=Upd.add _ _ _
 have g1:(m.add (qk false (.slice none 0 0) (.slice none 0 0) (.slice none 0 0))).get m.next=some (qk false (.slice none 0 0) (.slice none 0 0) (.slice none 0 0)):=Mem.qh ..
 have n1:(m.add (qk false (.slice none 0 0) (.slice none 0 0) (.slice none 0 0))).next=m.next+1:=rfl
 generalize (m.add (qk false (.slice none 0 0) (.slice none 0 0) (.slice none 0 0)))=m1 at u1 g1 n1
 have u2:Upd [] m1 (m1.add (qk false (.slice none 0 0) (.slice none 0 0) (.slice none 0 0))):=Upd.add _ _ _
 have h2:(m1.add (qk false (.slice none 0 0) (.slice none 0 0) (.slice none 0 0))).get m1.next=some (qk false (.slice none 0 0) (.slice none 0 0) (.slice none 0 0)):=Mem.qh ..
 have n2:(m1.add (qk false (.slice none 0 0) (.slice none 0 0) (.slice none 0 0))).next=m1.next+1:=rfl
 have g2:=qA u2 (by omega) g1
 generalize (m1.add (qk false (.slice none 0 0) (.slice none 0 0) (.slice none 0 0)))=m2 at u2 h2 n2 g2
 have u02:=u1.qz u2
 refine qdm (m0:=m2) hl hk _ _ _ _ (fun m3 u3=>?_) hs _ 0 m2 rfl (by omega) (h.qx u02) (Upd.refl _ _)
 rw [P203_1_eq]
 refine qbE (m0:=m2) hl h2l hk _ _ _ hs (zg l) (fun m4 u4=>?_) _ 0 0 m3 rfl (by omega) (by omega) ((h.qx u02).qx u3) u3 (by simp [zg,kE])
 have g4:=qA u4 (by omega) g2
 have h4:=qA u4 (by omega) h2
 have k4:=(h.qx u02).qx u4
 have x4:=u4.next
 have u04:=u02.qz u4
 obtain ⟨va,ea,ka⟩:=k4.VM (k:=zg l) (by omega)
 obtain ⟨vb,eb,kb⟩:=k4.from (k:=zg l) (by omega)
 rw [zc] at ea eb
 rw [P203_3_eq]
 simp -implicitDefEqProofs only [st0,qb,reduceIte,ea]
 refine qo.2 ((QX ka (by rw [List.length_take]; omega)).mono fun v5 m5 ⟨t5,u5,b5⟩=>?_)
 have k5:=k4.qx u5
 have eb5:=eb m5 (fun b hb=>u5.same b (k4.2 b hb).2 (by simp))
 simp -implicitDefEqProofs only [st0,qb,reduceIte,qgG v5 t5.ap.one.1,eb5]
 refine qo.2 ((QX (kb.qx u5) (by rw [List.length_drop]; omega)).mono fun v6 m6 ⟨t6,u6,b6⟩=>?_)
 have k6:=k5.qx u6
 obtain ⟨b,off,q1,q2⟩:=k6.1.at .i64 (jE hlt)
 rw [zc] at q1
 have qv:∀ {M:Mem},RSl lo qN M sp l→qc (.pointer (some ⟨b,off+0,none⟩)) M=some (str l[zg l].1):=fun hM=>(q2 _ hM.1).2 0 (str l[zg l].1) rfl
 have x5:=u5.next
 have x6:=u6.next
 have g6:=qA u6 (by omega) (qA u5 (by omega) g4)
 have h6:=qA u6 (by omega) (qA u5 (by omega) h4)
 simp -implicitDefEqProofs only [st0,qb,reduceIte,qgG v6 t6.ap.one.1,q1,fa,qv k6,zB g6 true (sp':=v5) (sk':=.slice none 0 0) (si':=.slice none 0 0) t5.ap.one.2 rfl rfl]
 have g7:(m6.put m.next (qk true v5 (.slice none 0 0) (.slice none 0 0))).get m.next=_:=Mem.qi ..
 have h7:(m6.put m.next (qk true v5 (.slice none 0 0) (.slice none 0 0))).get m1.next=_:=(Mem.qu m6 _ (by omega)).trans h6
 have u7:Upd [m.next] m6 (m6.put m.next (qk true v5 (.slice none 0 0) (.slice none 0 0))):=Upd.put _ _ (by simp)
 generalize (m6.put m.next (qk true v5 (.slice none 0 0) (.slice none 0 0)))=m7 at g7 h7 u7
 simp -implicitDefEqProofs only [st0,qb,reduceIte,zB h7 true (sp':=v6) (sk':=.slice none 0 0) (si':=.slice none 0 0) t6.ap.one.2 rfl rfl]
 have h8:(m7.put m1.next (qk true v6 (.slice none 0 0) (.slice none 0 0))).get m1.next=_:=Mem.qi ..
 have g8:(m7.put m1.next (qk true v6 (.slice none 0 0) (.slice none 0 0))).get m.next=_:=(Mem.qu m7 _ (by omega)).trans g7
 have u8:Upd [m1.next] m7 (m7.put m1.next (qk true v6 (.slice none 0 0) (.slice none 0 0))):=Upd.put _ _ (by simp)
 generalize (m7.put m1.next (qk true v6 (.slice none 0 0) (.slice none 0 0)))=m8 at g8 h8 u8
 have x7:=u7.next
 have x8:=u8.next
 have hnk:∀ {c:Nat},m.next≤c→c<m4.next→∀ b∈qf sp,b≠c:=fun hc1 hc2 b hb=>by have:=(h.2 b hb).2; omega
 have k7:=k6.jB u7 (fun b hb hm=>by simp at hm; have:=(h.2 b hb).2; omega)
 have k8:=k7.jB u8 (fun b hb hm=>by simp at hm; have:=(h.2 b hb).2; omega)
 have ta:TAp qN 81 m8 v5 (l.take (zg l)):=((t5.ap.qx u6).upd u7 (fun b hb hm=>by simp at hm; have:=b5 b hb; omega)).upd u8 (fun b hb hm=>by simp at hm; have:=b5 b hb; omega)
 have tb:TAp qN 81 m8 v6 (l.drop (zg l)):=(t6.ap.upd u7 (fun b hb hm=>by simp at hm; have:=b6 b hb; omega)).upd u8 (fun b hb hm=>by simp at hm; have:=b6 b hb; omega)
 simp -implicitDefEqProofs only [st0,qb,reduceIte,qO g8,qO h8]
 refine kJ (fun r hr=>?_) (zs.2 ⟨⟨_,_,?_,⟨_,_,_,rfl,ta.rsl (fun b hb=>by have:=b5 b hb; omega),RSl.nil _ _ _,RSl.nil _ _ _⟩,⟨_,_,_,rfl,tb.rsl (fun b hb=>by have:=b6 b hb; omega),RSl.nil _ _ _,RSl.nil _ _ _⟩⟩,?_⟩)
 ·simp only [List.mem_cons,List.not_mem_nil,or_false] at hr
  rcases hr with rfl|rfl|rfl
  ·exact okR fun k _ hk'=>by
    obtain rfl:k=0:=by omega
    exact ⟨_,rfl,ea _⟩
  ·exact okR fun k _ hk'=>by
    have:k=0∨k=1:=by omega
    rcases this with rfl|rfl
    ·exact ⟨_,rfl,eb _ (fun _ _=>rfl)⟩
    ·exact ⟨_,rfl,eb5⟩
  ·exact okL (fun M hM=>by
    simp only [List.mem_cons,List.not_mem_nil,or_false] at hM
    rcases hM with rfl|rfl|rfl|rfl|rfl
    ·exact qv k4
    ·exact qv k5
    ·exact qv k6
    ·exact qv k7
    ·exact qv k8) (by simp)
 ·rw [List.getElem?_eq_getElem hlt]; rfl
 ·exact (((u04.qz u5).qz u6).then' u7 (fun b hb=>.inr (by simp at hb; omega))).then' u8 (fun b hb=>.inr (by simp at hb; omega))
end Go.Fx.Tryz
