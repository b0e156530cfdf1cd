/- Parts of a proof: TreeF, TreeG. Conditions: none. -/
import Derived.Test.YtnngjdfadfblmaaGreatDoorQt15
set_option linter.unusedSimpArgs false
set_option linter.unusedVariables false
namespace Go.Fx.Tryz
open Go Go.Fx
def zJ (ks:List Bs) (key:Bs):Nat:=(ks.filter fun k=>!ltB key k).length
def zb (l:List Pr) (key:Bs):Nat:=(l.filter fun p=>ltB p.1 key).length
def zo (l:List Pr) (key:Bs):Bool:=match l[zb l key]? with|some p=>decide (p.1=key)|none=>false
def xA (l:List Pr) (key:Bs):List Pr:=if zo l key then l.eraseIdx (zb l key) else l
def xO (l:List Pr) (key val:Bs):List Pr:=(xA l key).take (zb l key)++[(key,val)]++(xA l key).drop (zb l key)
theorem Zr {α:Type} (f:α→Bool) (l:List α) {i:Nat} (h:i<l.length):((l.take (i+1)).filter f).length=((l.take i).filter f).length+(if f l[i] then 1 else 0):=by
 rw [List.take_succ_eq_append_getElem h,List.filter_append,List.length_append]
 cases hf:f l[i]<;>simp [hf]
theorem Hi {lo:Nat} {ks:List Bs} {sk:Value} (hl:ks.length≤65536) (key:Bs):∀ (d i:Nat) (m:Mem),ks.length - i=d→i≤ks.length→RSl lo zi m sk ks →
  W (Yi (str key) (.int .i64 (((ks.take i).filter fun k=>!ltB key k).length:Nat)) sk (.int .i64 (ks.length:Int)) (.int .i64 (i:Int)) m) fun r m'=>r=.int .i64 (zJ ks key:Nat)∧m'=m:=by
 intro d
 induction d with
 | zero =>
  intro i m hd hi h
  obtain rfl:i=ks.length:=by omega
  rw [P51_0_eq]
  simp -implicitDefEqProofs only [st0,qc,reduceIte,Int.lt_irrefl,List.take_length]
  exact ⟨rfl,trivial⟩
 | succ d ih =>
  intro i m hd hi h
  have hlt:i<ks.length:=by omega
  have e1:((i:Int)<(ks.length:Int))=True:=eq_true (by omega)
  obtain ⟨p,h1,_,h2⟩:=h.1.index .i64 (ja hlt)
  rw [xm] at h1
  have h2:=h2 (str ks[i]) rfl
  have hle:((ks.take i).filter fun k=>!ltB key k).length≤65536:=Nat.le_trans (List.length_filter_le ..) (by rw [List.length_take]; omega)
  have hs:=Zr (fun k=>!ltB key k) ks hlt
  have ih':=ih (i+1) m (by omega) hlt h
  rw [P51_0_eq]
  cases hc:ltB key ks[i] with
  | true =>
   rw [hs] at ih'
   simp -implicitDefEqProofs only [st0,qc,reduceIte,e1,h1,h2,KR,hc,qE (i:=i) (by omega)]
   simpa [hc] using ih'
  | false =>
   rw [hs] at ih'
   simp -implicitDefEqProofs only [st0,qc,reduceIte,e1,h1,h2,KR,hc,qE (i:=i) (by omega),qE (i:=((ks.take i).filter fun k=>!ltB key k).length) (by omega)]
   simpa [hc] using ih'
theorem XO {lo:Nat} {v:Value} {n:Nd} {m:Mem} (key:Bs) (h:TN lo m v n) (hf:n.Fit):W (Call S tab 51 [v,str key] m) fun r m'=>r=.int .i64 (zJ n.keys key:Nat)∧Upd [] m m':=by
 obtain ⟨sp,sk,si,rfl,h1,h2,h3⟩:=h.ex
 rw [C51]
 have g1:(m.add (qh n.leaf sp sk si)).get m.next=some (qh n.leaf sp sk si):=Mem.qk ..
 have u1:Upd [] m (m.add (qh n.leaf sp sk si)):=Upd.add _ _ _
 simp -implicitDefEqProofs only [st0,qc,reduceIte,fa,qQ,TN.load g1 (o:=0+2) rfl,qY h2]
 have:=Hi hf.kl key _ 0 _ rfl (by omega) (h2.qt u1)
 exact this.mono fun r m' ⟨hr,hm⟩=>⟨hr,hm ▸ u1⟩
theorem qbI {lo:Nat} {l:List Pr} {sp:Value} {x2:Value} (hl:l.length≤65536) (key:Bs) {Q:Value→Mem→Prop} {m0:Mem}
  (hQ:∀ m',Upd [] m0 m'→RSl lo qJ m' sp l→W (qdM (str key) x2 (.int .i64 (zb l key:Nat)) m') Q):∀ (d i:Nat) (m:Mem),l.length - i=d→i≤l.length→RSl lo qJ m sp l→Upd [] m0 m →
  W (Yj (str key) x2 (.int .i64 (((l.take i).filter fun p=>ltB p.1 key).length:Nat)) sp (.int .i64 (l.length:Int)) (.int .i64 (i:Int)) m) Q:=by
 intro d
 induction d with
 | zero =>
  intro i m hd hi h hu
  obtain rfl:i=l.length:=by omega
  rw [P50_0_eq]
  simp -implicitDefEqProofs only [st0,qc,reduceIte,Int.lt_irrefl,List.take_length]
  exact hQ m hu h
 | succ d ih =>
  intro i m hd hi h hu
  have hlt:i<l.length:=by omega
  have e1:((i:Int)<(l.length:Int))=True:=eq_true (by omega)
  obtain ⟨b,off,h1,h2⟩:=h.1.at .i64 (ja hlt)
  rw [qT] at h1 h2
  have h2:=h2 m h.1
  have hle:((l.take i).filter fun p=>ltB p.1 key).length≤65536:=Nat.le_trans (List.length_filter_le ..) (by rw [List.length_take]; omega)
  have hs:=Zr (fun p:Pr=>ltB p.1 key) l hlt
  rw [P50_0_eq]
  simp -implicitDefEqProofs only [st0,qc,reduceIte,e1,h1,h2.1]
  refine xR (c:=qJ.cells l[i]) rfl rfl rfl fun m1 g1 u1 n1=>?_
  have ih':=ih (i+1) m1 (by omega) hlt (h.qt u1) (hu.qD u1)
  rw [hs] at ih'
  have ld:=qu (o:=0+0) (v:=str l[i].1) g1 rfl
  cases hc:ltB l[i].1 key with
  | true =>
   simp -implicitDefEqProofs only [st0,qc,reduceIte,fa,ld,Qj,hc,qE (i:=i) (by omega),qE (i:=((l.take i).filter fun p=>ltB p.1 key).length) (by omega)]
   simpa [hc] using ih'
  | false =>
   simp -implicitDefEqProofs only [st0,qc,reduceIte,fa,ld,Qj,hc,qE (i:=i) (by omega)]
   simpa [hc] using ih'
theorem ZJ {lo:Nat} {v:Value} {n:Nd} {m:Mem} (key:Bs) (h:TN lo m v n) (hf:n.Fit):W (Call S tab 50 [v,str key] m) fun r m'=>r=.tuple #[.int .i64 (zb n.pairs key:Nat),.bool (zo n.pairs key)]∧Upd [] m m':=by
 obtain ⟨sp,sk,si,rfl,h1,h2,h3⟩:=h.ex
 rw [C50]
 have g1:(m.add (qh n.leaf sp sk si)).get m.next=some (qh n.leaf sp sk si):=Mem.qk ..
 have u1:Upd [] m (m.add (qh n.leaf sp sk si)):=Upd.add _ _ _
 have n1:m.next<(m.add (qh n.leaf sp sk si)).next:=by simp
 simp -implicitDefEqProofs only [st0,qc,reduceIte,fa,qQ,TN.load g1 (o:=0+1) rfl,qY h1]
 refine qbI (m0:=m.add (qh n.leaf sp sk si)) hf.pl key (fun m' u2 h1'=>?_) _ 0 _ rfl (by omega) (h1.qt u1) (Upd.refl _ _)
 have g2:=qA u2 n1 g1
 rw [P50_1_eq]
 unfold zo
 by_cases hc:zb n.pairs key<n.pairs.length
 ·have e1:((zb n.pairs key:Nat):Int)<(n.pairs.length:Int):=by omega
  obtain ⟨b,off,q1,q2⟩:=h1'.1.at .i64 (ja hc)
  rw [qT] at q1 q2
  have q2:=(q2 m' h1'.1).2 0 (str (n.pairs[zb n.pairs key]).1) rfl
  simp -implicitDefEqProofs only [st0,qc,reduceIte,fa,TN.load g2 (o:=0+1) rfl,qY h1',eq_true e1,q1,q2,wa]
  rw [List.getElem?_eq_getElem hc]
  exact ⟨rfl,u1.qD u2⟩
 ·have e1:¬ (((zb n.pairs key:Nat):Int)<(n.pairs.length:Int)):=by omega
  simp -implicitDefEqProofs only [st0,qc,reduceIte,fa,TN.load g2 (o:=0+1) rfl,qY h1',eq_false e1]
  rw [List.getElem?_eq_none (by omega)]
  exact ⟨rfl,u1.qD u2⟩
structure TIn {α:Type} (E:Enc α) (e:TypeId) (m:Mem) (v:Value) (l:List α):Prop where
 ap:TAp E e m v l
 lo:l≠[]→∃ b cap rest,v=.slice (some ⟨b,0,none⟩) l.length cap∧b<m.next∧m.get b=some ⟨.cells (E.flat l++rest) e,false,some E.size⟩∧rest.length=(cap - l.length) * E.size∧l.length≤cap
theorem TIn.nil {α:Type} (E:Enc α) (e:TypeId) (m:Mem):TIn E e m (.slice none 0 0) []:=⟨TAp.nil m,fun h=>absurd rfl h⟩
theorem TIn.upd {α:Type} {E:Enc α} {e:TypeId} {fp:List Nat} {m m':Mem} {v:Value} {l:List α} (h:TIn E e m v l) (hu:Upd fp m m') (hk:∀ b∈qe v,b∉fp):TIn E e m' v l:=by
 refine ⟨h.ap.upd hu hk,fun hl=>?_⟩
 obtain ⟨b,cap,rest,rfl,h1,h2,h3,h4⟩:=h.lo hl
 exact ⟨b,cap,rest,rfl,Nat.lt_of_lt_of_le h1 hu.next,by rw [hu.same b h1 (hk b (by simp [qe]))]; exact h2,h3,h4⟩
theorem TIn.qt {α:Type} {E:Enc α} {e:TypeId} {m m':Mem} {v:Value} {l:List α} (h:TIn E e m v l) (hu:Upd [] m m'):TIn E e m' v l:=h.upd hu (fun b _ hb=>by simp at hb)
theorem yN {α:Type} {E:Enc α} {e:TypeId} {eb:Nat} {m:Mem} {v:Value} {l:List α} (hs:0<E.size) (hn:l.length * (eb+1)≤2 ^ 47) (h:TSl E m v l) (hb:∀ b∈qe v,b<m.next) {Q:Value→Mem→Prop}
  (hQ:∀ v' m',TIn E e m' v' l→Upd [] m m'→(∀ b∈qe v',m.next≤b)→Q v' m') :
  W ((qN E.size v (m.add ⟨.cells [] e,false,none⟩)).bind fun p=>(qC e E.size eb (.slice (some ⟨m.next,0,none⟩) 0 0) p.1 p.2 (m.add ⟨.cells [] e,false,none⟩)).bind fun q=>some (q.1,q.2)) Q:=by
 have h1:=(h.upd (fp:=[]) (Upd.add _ m ⟨.cells [] e,false,none⟩) (fun b hbb=>⟨hb b hbb,by simp⟩)).src
 rw [h1]
 have hx:l.length * eb≤l.length * (eb+1):=Nat.mul_le_mul_left _ (by omega)
 have hy:l.length≤l.length * (eb+1):=Nat.le_mul_of_pos_right _ (by omega)
 have hc0:¬ ¬ ((0+l.length) * eb≤2 ^ 47∧(0+l.length)≤2 ^ 47∧(E.flat l).length=l.length * E.size∧(E.flat l).all (·.oneCell')=true):=by
  simp only [Decidable.not_not,Nat.zero_add]; exact ⟨by omega,by omega,E.zf l,E.vN l⟩
 by_cases hl:l=[]
 ·subst hl
  refine W.Qw rfl (W.Qw (a:=(.slice (some ⟨m.next,0,none⟩) 0 0,m.add ⟨.cells [] e,false,none⟩)) ?_ (xI.2 (hQ _ _ ⟨TAp.fresh m [],fun h=>absurd rfl h⟩ (Upd.add _ _ _) (fun b hb=>by simp [qe] at hb; omega))))
  simp only [qC,if_neg hc0]
  simp
 ·have hl0:l.length≠0:=by simpa using hl
  have hk':¬ (0+l.length≤0):=by omega
  have hg:(m.add ⟨.cells [] e,false,none⟩).get m.next=some ⟨.cells [] e,false,none⟩:=Mem.qk ..
  have hnx:(m.add ⟨.cells [] e,false,none⟩).next=m.next+1:=rfl
  refine W.Qw rfl (W.Qw (a:=(.slice (some ⟨m.next+1,0,none⟩) l.length l.length,(m.add ⟨.cells [] e,false,none⟩).add ⟨.cells (E.flat l) e,false,some E.size⟩)) ?_ (xI.2 (hQ _ _ ⟨.inr ⟨m.next+1,l.length,[],some E.size,rfl,by simp,?_,.inr rfl,by simp,Nat.le_refl _⟩,fun _=>⟨m.next+1,l.length,[],rfl,by simp,?_,by simp,Nat.le_refl _⟩⟩ ((Upd.add _ _ _).qbX _) (fun b hb=>by simp [qe] at hb; omega))))
  ·simp only [qC,if_neg hc0,if_neg hk',hg]
   rw [if_pos (by simp)]
   simp [hnx]
  ·rw [← hnx,Mem.qk]; simp
  ·rw [← hnx,Mem.qk]; simp
theorem yn {α:Type} {E:Enc α} {m:Mem} {v:Value} {l:List α} (h:TSl E m v l):(v=.slice none 0 0∧l=[])∨∃ b off cap,v=.slice (some ⟨b,off,none⟩) l.length cap:=by
 obtain ⟨_,⟨rfl,h0⟩|⟨b,off,cap,rfl,_⟩⟩:=h
 ·exact .inl ⟨rfl,by simpa using h0⟩
 ·exact .inr ⟨b,off,cap,rfl⟩
theorem qdq:zp .slice false (.slice none 0 0) (.slice none 0 0)=some (.bool true):=rfl
theorem qdp (p:Addr) (n c:Nat):zp .slice false (.slice (some p) n c) (.slice none 0 0)=some (.bool false):=rfl
theorem Hm:qy [] []=some []:=rfl
theorem QV {lo:Nat} {v:Value} {l:List Pr} {m:Mem} (h:RSl lo qJ m v l) (hl:l.length≤65536):W (Call S tab 157 [v] m) fun r m'=>TIn qJ 61 m' r l∧Upd [] m m'∧∀ b∈qe r,m.next≤b:=by
 rw [qjv]
 rcases yn h.1 with ⟨rfl,rfl⟩|⟨b,off,cap,rfl⟩
 ·simp -implicitDefEqProofs only [st0,qc,reduceIte,qdq]
  exact ⟨TIn.nil _ _ _,Upd.refl _ _,fun b hb=>by simp [qe] at hb⟩
 ·simp -implicitDefEqProofs only [st0,qc,reduceIte,qdp,Hm]
  exact yN (E:=qJ) (by decide) (by omega) h.1 (fun b hb=>(h.2 b hb).2) fun v' m' q1 q2 q3=>⟨q1,q2,q3⟩
theorem JR {lo:Nat} {v:Value} {l:List Bs} {m:Mem} (h:RSl lo zi m v l) (hl:l.length≤65536):W (Call S tab 203 [v] m) fun r m'=>TIn zi 9 m' r l∧Upd [] m m'∧∀ b∈qe r,m.next≤b:=by
 rw [qji]
 rcases yn h.1 with ⟨rfl,rfl⟩|⟨b,off,cap,rfl⟩
 ·simp -implicitDefEqProofs only [st0,qc,reduceIte,qdq]
  exact ⟨TIn.nil _ _ _,Upd.refl _ _,fun b hb=>by simp [qe] at hb⟩
 ·simp -implicitDefEqProofs only [st0,qc,reduceIte,qdp,Hm]
  exact yN (E:=zi) (by decide) (by omega) h.1 (fun b hb=>(h.2 b hb).2) fun v' m' q1 q2 q3=>⟨q1,q2,q3⟩
theorem JS {lo:Nat} {v:Value} {l:List Nat} {m:Mem} (h:RSl lo zG m v l) (hl:l.length≤65536):W (Call S tab 204 [v] m) fun r m'=>TIn zG 3 m' r l∧Upd [] m m'∧∀ b∈qe r,m.next≤b:=by
 rw [qjh]
 rcases yn h.1 with ⟨rfl,rfl⟩|⟨b,off,cap,rfl⟩
 ·simp -implicitDefEqProofs only [st0,qc,reduceIte,qdq]
  exact ⟨TIn.nil _ _ _,Upd.refl _ _,fun b hb=>by simp [qe] at hb⟩
 ·simp -implicitDefEqProofs only [st0,qc,reduceIte,qdp,Hm]
  exact yN (E:=zG) (by decide) (by omega) h.1 (fun b hb=>(h.2 b hb).2) fun v' m' q1 q2 q3=>⟨q1,q2,q3⟩
theorem bV {len cap i j:Nat} (h1:i≤j) (h2:j≤cap):zw len cap (some (.int .i64 (i:Int))) (some (.int .i64 (j:Int)))=some (i,j):=by
 have e1:(0:Int)≤(j:Int)∧(j:Int)≤(cap:Int):=by omega
 have e2:(0:Int)≤(i:Int)∧(i:Int)≤(j:Int):=by omega
 simp only [zw,xy,if_pos e1,Option.bind_some,if_pos e2,Option.map_some,Int.toNat_natCast]
theorem bV0 {len cap j:Nat} (h2:j≤cap):zw len cap none (some (.int .i64 (j:Int)))=some (0,j):=by
 have e1:(0:Int)≤(j:Int)∧(j:Int)≤(cap:Int):=by omega
 simp only [zw,xy,if_pos e1,Option.bind_some,Option.map_some,Int.toNat_natCast]
theorem XN {α:Type} (l:List α) (i:Nat):l.eraseIdx i=l.take i++l.drop (i+1):=List.eraseIdx_eq_take_drop_succ l i
theorem qgC {α:Type} (E:Enc α) (l:List α) {i:Nat} (hi:i<l.length) (rest:List Value):∃ x:List Value,x.length=E.size∧qP (E.flat l++rest) (i * E.size) (E.flat (l.drop (i+1)))=E.flat (l.eraseIdx i)++(x++rest):=by
 have h1:(E.flat l++rest)=E.flat (l.take i)++(((E.flat (l.drop i)).take ((l.length - (i+1)) * E.size))++((E.flat (l.drop i)).drop ((l.length - (i+1)) * E.size)++rest)):=by
  rw [← List.append_assoc ((E.flat (l.drop i)).take _),List.take_append_drop,← List.append_assoc,← E.xM,List.take_append_drop]
 have h2:=xe (E.flat (l.take i)) ((E.flat (l.drop i)).take ((l.length - (i+1)) * E.size)) ((E.flat (l.drop i)).drop ((l.length - (i+1)) * E.size)++rest) (E.flat (l.drop (i+1)))
  (by rw [List.length_take,E.zf,E.zf,List.length_drop,List.length_drop]; exact Nat.min_eq_left (Nat.mul_le_mul_right _ (by omega)))
 rw [← h1,E.zf,List.length_take,Nat.min_eq_left (by omega)] at h2
 refine ⟨_,?_,by rw [h2,XN,E.xM,List.append_assoc]⟩
 rw [List.length_drop,E.zf,List.length_drop,← Nat.sub_mul,show l.length - i - (l.length - (i+1))=1 by omega,Nat.one_mul]
theorem qbO {v:Value} {l:List Pr} {m:Mem} (h:TIn qJ 61 m v l) {i:Nat} (hi:i<l.length) (hl:l.length≤65536) :
  W (Call S tab 158 [v,.int .i64 (i:Int),.int .i64 ((i+1:Nat):Int)] m) fun r m'=>TIn qJ 61 m' r (l.eraseIdx i)∧Upd (qe v) m m'∧qe r=qe v:=by
 obtain ⟨b,cap,rest,rfl,hb,hg,hr,hc⟩:=h.lo (by rintro rfl; simp at hi)
 rw [qT] at hg hr
 have hfl:=qJ.zf l
 rw [qT] at hfl
 have hkn:m.known b=.loose 2:=by simp [Mem.known,hg]
 have hel:(l.eraseIdx i).length=l.length - 1:=by rw [List.length_eraseIdx,if_pos hi]
 rw [qju]
 have e1:qd (.slice (some ⟨b,0,none⟩) l.length cap)=some (.int .i64 (l.length:Int)):=rfl
 have e2:jz 2 (.slice (some ⟨b,0,none⟩) l.length cap) (some (.int .i64 (i:Int))) (some (.int .i64 ((i+1:Nat):Int))) (.int .i64 (l.length:Int)) m=some (.slice (some ⟨b,if (l.length:Int).toNat=i then 0 else 0+i * 2,none⟩) (i+1 - i) ((l.length:Int).toNat - i)):=by
  have c1:(0:Int)≤(l.length:Int)∧(l.length:Int)≤(cap:Int)∧l.length≤cap:=by omega
  simp only [jz,if_pos c1]
  rw [bV (by omega) (by omega)]
  simp only [Option.bind_some,hkn,or_true,if_true]
 have e3:decide ((i:Int)=((i+1:Nat):Int))=false:=by simp; omega
 have e4:qz 2 (.slice (some ⟨b,0,none⟩) l.length cap) none (some (.int .i64 (i:Int))) m=some (.slice (some ⟨b,0,none⟩) i cap):=by
  simp only [qz]
  rw [bV0 (by omega)]
  simp only [Option.bind_some,true_or,if_true,Nat.sub_zero,Nat.zero_mul,Nat.add_zero,ite_self]
 obtain ⟨v5,e5,t5,_⟩:=h.ap.from (k:=i+1) (by omega)
 have e5:=e5 m (fun _ _=>rfl)
 have e6:=t5.src
 rw [qT] at e5 e6
 have hs:=qgC qJ l hi rest
 obtain ⟨x,hx,hse⟩:=hs
 rw [qT] at hx hse
 rw [List.length_drop] at e6
 obtain ⟨m1,y,e7,hg1,u1,hy⟩:∃ m1 y,qC 61 2 32 (.slice (some ⟨b,0,none⟩) i cap) (l.length - (i+1)) (qJ.flat (l.drop (i+1))) m=some (.slice (some ⟨b,0,none⟩) (l.length - 1) cap,m1)∧m1.get b=some ⟨.cells (qJ.flat (l.eraseIdx i)++(y++rest)) 61,false,some 2⟩∧Upd [b] m m1∧y.length=2:=by
  have hc0:¬ ¬ ((i+(l.length - (i+1))) * 32≤2 ^ 47∧(i+(l.length - (i+1)))≤2 ^ 47∧(qJ.flat (l.drop (i+1))).length=(l.length - (i+1)) * 2∧(qJ.flat (l.drop (i+1))).all (·.oneCell')=true):=by
   simp only [Decidable.not_not]
   exact ⟨by omega,by omega,by rw [qJ.zf,List.length_drop]; rfl,qJ.vN _⟩
  have hfit:i+(l.length - (i+1))≤cap:=by omega
  have hlen:i+(l.length - (i+1))=l.length - 1:=by omega
  by_cases h0:l.length - (i+1)=0
  ·refine ⟨m,(qJ.flat (l.drop i)),?_,?_,Upd.refl _ _,by rw [qJ.zf,List.length_drop,qT]; omega⟩
   ·simp only [qC,if_neg hc0,if_pos hfit,if_pos (show (l.length - (i+1)) * 2=0 by omega)]; rw [hlen]
   ·rw [hg,XN,List.drop_of_length_le (by omega:l.length≤i+1),List.append_nil,← List.append_assoc,← qJ.xM,List.take_append_drop]
  ·refine ⟨_,x,?_,Mem.qj ..,Upd.put _ _ (by simp),hx⟩
   have how:m.jt b=some (qJ.flat l++rest,61,some 2):=by simp [Mem.jt,hg]
   have hlc:0+(i+(l.length - (i+1))) * 2≤(qJ.flat l++rest).length∧cap≠0:=by rw [List.length_append,hfl]; omega
   simp only [qC,if_neg hc0,if_pos hfit,if_neg (show ¬ (l.length - (i+1)) * 2=0 by omega),how,Option.bind_some]
   rw [if_pos hlc,Nat.zero_add,hse,hlen]
 have e8:qd (.slice (some ⟨b,0,none⟩) (l.length - 1) cap)=some (.int .i64 ((l.length - 1:Nat):Int)):=rfl
 have hkn1:m1.known b=.loose 2:=by simp [Mem.known,hg1]
 have hel2:=qJ.zf (l.eraseIdx i)
 rw [hel,qT] at hel2
 have e9:qz 2 (.slice (some ⟨b,0,none⟩) (l.length - 1) cap) (some (.int .i64 ((l.length - 1:Nat):Int))) (some (.int .i64 (l.length:Int))) m1=some (.slice (some ⟨b,(l.length - 1) * 2,none⟩) 1 (cap - (l.length - 1))):=by
  simp only [qz]
  rw [bV (by omega) hc]
  simp only [Option.bind_some,hkn1,or_true,if_true]
  rw [if_neg (by omega),show l.length - (l.length - 1)=1 by omega,Nat.zero_add]
 have e10:ve [.string ⟨#[]⟩,.string ⟨#[]⟩] (.slice (some ⟨b,(l.length - 1) * 2,none⟩) 1 (cap - (l.length - 1))) m1=some (m1.put b ⟨.cells (qJ.flat (l.eraseIdx i)++([.string ⟨#[]⟩,.string ⟨#[]⟩]++rest)) 61,false,some 2⟩):=by
  have how:m1.jt b=some (qJ.flat (l.eraseIdx i)++(y++rest),61,some 2):=by simp [Mem.jt,hg1]
  have hset:=xe (qJ.flat (l.eraseIdx i)) y rest [.string ⟨#[]⟩,.string ⟨#[]⟩] (by rw [hy]; rfl)
  rw [hel2] at hset
  have hcc:(l.length - 1) * 2+1 * [Value.string ⟨#[]⟩,Value.string ⟨#[]⟩].length≤(qJ.flat (l.eraseIdx i)++(y++rest)).length∧cap - (l.length - 1)≠0∧[Value.string ⟨#[]⟩,Value.string ⟨#[]⟩].all (·.oneCell')=true:=by
   refine ⟨?_,by omega,rfl⟩
   simp only [List.length_append,hel2,hy,List.length_cons,List.length_nil]; omega
  simp only [ve,if_neg (show ¬ (1:Nat)=0 by omega),how,Option.bind_some]
  rw [if_pos hcc,← hset]
  rfl
 simp -implicitDefEqProofs only [st0,qc,reduceIte,e1,e2,e3,e4,e5,e6,e7,e8,e9,e10]
 have hbo:qe (.slice (some ⟨b,0,none⟩) (l.length - 1) cap)=[b]:=rfl
 have hgf:(m1.put b ⟨.cells (qJ.flat (l.eraseIdx i)++([.string ⟨#[]⟩,.string ⟨#[]⟩]++rest)) 61,false,some 2⟩).get b=_:=Mem.qj ..
 have hnx:b<(m1.put b ⟨.cells (qJ.flat (l.eraseIdx i)++([.string ⟨#[]⟩,.string ⟨#[]⟩]++rest)) 61,false,some 2⟩).next:=Nat.lt_of_lt_of_le hb u1.next
 have hrl:([Value.string ⟨#[]⟩,.string ⟨#[]⟩]++rest).length=(cap - (l.eraseIdx i).length) * 2:=by
  rw [List.length_append,hr,hel]; simp only [List.length_cons,List.length_nil]; omega
 refine ⟨⟨.inr ⟨b,cap,[.string ⟨#[]⟩,.string ⟨#[]⟩]++rest,some 2,by rw [hel],hnx,hgf,.inr rfl,hrl,by omega⟩,fun _=>⟨b,cap,_,by rw [hel],hnx,hgf,hrl,by omega⟩⟩,u1.jL _ (.inl (by simp)),rfl⟩
theorem qbv {v:Value} {l:List Pr} {m:Mem} (h:TIn qJ 61 m v l) {i:Nat} (hi:i≤l.length) (hl:l.length≤65536) {vb:Nat} {t':TypeId} {p:Pr} (hvb:m.get vb=some ⟨.cells (qJ.flat [p]) t',false,none⟩) (hne:vb∉qe v) :
  W (Call S tab 124 [v,.int .i64 (i:Int),.slice (some ⟨vb,0,none⟩) 1 1] m) fun r m'=>TAp qJ 61 m' r (l.take i++[p]++l.drop i)∧Upd (qe v) m m'∧∀ b∈qe r,b∈qe v∨m.next≤b:=by
 have hsrc:qN 2 (.slice (some ⟨vb,0,none⟩) 1 1) m=some (1,qJ.flat [p]):=by
  simp only [qN,if_neg (show ¬ (1:Nat)=0 by omega)]
  rw [zN hvb]
  rfl
 by_cases hin:i=l.length
 ·subst hin
  have e0:∃ x,qz 2 v (some (.int .i64 (l.length:Int))) none m=some x:=by
   obtain ⟨x,h1,_⟩:=h.ap.from (k:=l.length) (Nat.le_refl _)
   exact ⟨x,h1 m (fun _ _=>rfl)⟩
  obtain ⟨x,e0⟩:=e0
  obtain ⟨v',m',h1,h2,h3,h4⟩:=h.ap.append (k:=[p]) (eb:=32) (by decide) (by simp; omega) (by simp; omega)
  have hcall:kD [v,.int .i64 (l.length:Int),.slice (some ⟨vb,0,none⟩) 1 1] m=some (v',m'):=by
   rcases h.ap with ⟨rfl,rfl⟩|⟨b,cap,rest,lo,rfl,_⟩
   ·simp only [kD]
    rw [if_pos (by rfl)]
    rw [e0,Option.bind_some,hsrc,Option.bind_some]
    exact h1
   ·simp only [kD]
    rw [if_pos trivial,e0,Option.bind_some,hsrc,Option.bind_some]
    exact h1
  refine ⟨v',m',XZ hcall,?_,h3,h4⟩
  rw [List.take_length,List.drop_length,List.append_nil]
  exact h2
 ·have hlt:i<l.length:=by omega
  obtain ⟨b,cap,rest,rfl,hb,hg,hr,hc⟩:=h.lo (by rintro rfl; simp at hlt)
  rw [qT] at hg hr
  have hfl:=qJ.zf l
  rw [qT] at hfl
  have hbv:b≠vb:=fun e=>hne (by simp [qe,e])
  have ht:(((qJ.flat l++rest).drop 0).take (l.length * 2))=qJ.flat l:=by rw [List.drop_zero,← hfl,List.take_left']; rfl
  have hcond:(0:Int)≤(i:Int)∧(i:Int)<(l.length:Int)∧l.length≤cap∧0+l.length * 2≤(qJ.flat l++rest).length∧True∧l.length≤1099511627776∧b≠vb∧0+2≤(qJ.flat [p]).length∧(((qJ.flat l++rest).drop 0).take (l.length * 2)).all (·.oneCell')=true∧(((qJ.flat [p]).drop 0).take 2).all (·.oneCell')=true:=by
   refine ⟨by omega,by omega,hc,by rw [List.length_append,hfl]; omega,trivial,by omega,hbv,by rw [qJ.zf,qT]; simp,by rw [ht]; exact qJ.vN l,rfl⟩
  have hcells:(((qJ.flat l++rest).drop 0).take ((i:Int).toNat * 2)++(((qJ.flat [p]).drop 0).take 2++((qJ.flat l++rest).drop (0+(i:Int).toNat * 2)).take ((l.length - (i:Int).toNat) * 2)))=qJ.flat (l.take i++[p]++l.drop i)++[]:=by
   have f1:=qJ.QT l i
   have f2:=qJ.vM l i
   rw [qT] at f1 f2
   rw [Int.toNat_natCast,List.drop_zero,Nat.zero_add,List.take_append_of_le_length (by rw [hfl]; omega),f1,List.drop_append_of_le_length (by rw [hfl]; omega),f2,List.take_append_of_le_length (by rw [qJ.zf,List.length_drop,qT]; exact Nat.le_refl _),List.take_of_length_le (l:=qJ.flat (l.drop i)) (by rw [qJ.zf,List.length_drop,qT]; exact Nat.le_refl _)]
   rw [qJ.xM,qJ.xM,List.append_nil,List.append_assoc]
   rfl
  have hcall:kD [.slice (some ⟨b,0,none⟩) l.length cap,.int .i64 (i:Int),.slice (some ⟨vb,0,none⟩) 1 1] m=some (.slice (some ⟨m.next,0,none⟩) (l.length+1) (l.length+1),(m.kill b).add ⟨.cells (qJ.flat (l.take i++[p]++l.drop i)++[]) 61,false,some 2⟩):=by
   simp only [kD]
   rw [if_neg (by omega)]
   simp only [ZK,hg,hvb]
   rw [if_pos hcond,hcells]
  have hlen:(l.take i++[p]++l.drop i).length=l.length+1:=by
   simp only [List.length_append,List.length_take,List.length_drop,List.length_cons,List.length_nil]; omega
  refine ⟨_,_,XZ hcall,.inr ⟨m.next,l.length+1,[],some 2,by rw [hlen],by simp,?_,.inr rfl,by rw [hlen]; simp,by omega⟩,((Upd.kill _ (by simp [qe]):Upd (qe (.slice (some ⟨b,0,none⟩) l.length cap)) m (m.kill b))).qbX _,fun c hc=>.inr (by simp [qe] at hc; omega)⟩
  have:(m.kill b).next=m.next:=rfl
  rw [← this,Mem.qk]
theorem ym (l:List Pr) (key:Bs):zb l key≤l.length:=List.length_filter_le ..
theorem jj {l:List Pr} {key:Bs} (h:zo l key=true):zb l key<l.length:=by
 unfold zo at h
 split at h
 ·rename_i p hp; exact (List.getElem?_eq_some_iff.1 hp).1
 ·cases h
theorem qds {lo:Nat} {v:Value} {n:Nd} {m:Mem} (key:Bs) (h:TN lo m v n) (hf:n.Fit) (hlo:lo≤m.next) :
  W (Call S tab 104 [v,str key] m) fun r m'=>(∃ sp,r=jM true sp (.slice none 0 0) (.slice none 0 0)∧TIn qJ 61 m' sp (xA n.pairs key)∧∀ b∈qe sp,m.next≤b)∧Upd [] m m':=by
 have hn:=h
 obtain ⟨sp,sk,si,rfl,h1,h2,h3⟩:=h.ex
 rw [qjQ]
 have g1:(m.add (qh n.leaf sp sk si)).get m.next=some (qh n.leaf sp sk si):=Mem.qk ..
 have u1:Upd [] m (m.add (qh n.leaf sp sk si)):=Upd.add _ _ _
 have n1:(m.add (qh n.leaf sp sk si)).next=m.next+1:=rfl
 simp -implicitDefEqProofs only [st0,qc,reduceIte,fa,qQ]
 generalize (m.add (qh n.leaf sp sk si))=m1 at g1 u1 n1
 have u2:Upd [] m1 (m1.add (qh false (.slice none 0 0) (.slice none 0 0) (.slice none 0 0))):=Upd.add _ _ _
 have o2:(m1.add (qh false (.slice none 0 0) (.slice none 0 0) (.slice none 0 0))).get m1.next=some (qh false (.slice none 0 0) (.slice none 0 0) (.slice none 0 0)):=Mem.qk ..
 have n2:(m1.add (qh false (.slice none 0 0) (.slice none 0 0) (.slice none 0 0))).next=m1.next+1:=rfl
 generalize (m1.add (qh false (.slice none 0 0) (.slice none 0 0) (.slice none 0 0)))=m2 at u2 o2 n2
 have g2:=qA u2 (by omega) g1
 have u02:=u1.qD u2
 have lw:∀ {M:Mem},M.get m.next=some (qh n.leaf sp sk si)→qm 4 (.pointer (some ⟨m.next,0,none⟩)) M=some (.agg #[.bool n.leaf,sp,sk,si]):=fun g=>zK g rfl
 have lwo:∀ {M:Mem} {x:Value},M.get m1.next=some (qh true x (.slice none 0 0) (.slice none 0 0))→qm 4 (.pointer (some ⟨m1.next,0,none⟩)) M=some (.agg #[.bool true,x,.slice none 0 0,.slice none 0 0]):=fun g=>zK g rfl
 have ef:∀ x:Value,x.cells=#[x]→qy [.bool false,.slice none 0 0,.slice none 0 0,.slice none 0 0] [(0,1,.bool true),(1,1,x)]=some [.bool true,x,.slice none 0 0,.slice none 0 0]:=by
  intro x hx
  simp only [qy,hx]
  rfl
 simp -implicitDefEqProofs only [st0,qc,reduceIte,TN.load g2 (o:=0+1) rfl]
 refine qo.2 ((QV (h1.qt u02) hf.pl).mono fun v3 m3 ⟨t3,u3,b3⟩=>?_)
 have g3:=qA u3 (by omega) g2
 have o3:=qA u3 (by omega) o2
 simp -implicitDefEqProofs only [st0,qc,reduceIte,lw g3]
 refine qo.2 ((ZJ key ((hn.qt u02).qt u3) hf).mono fun v4 m4 ⟨r4,u4⟩=>?_)
 subst r4
 have t4:=t3.qt u4
 have x3:=u3.next
 have x4:=u4.next
 have o4:=qA u4 (by omega) o3
 have e1:∀ a b:Value,qf 0 (.tuple #[a,b])=some a:=fun _ _=>rfl
 have e2:∀ a b:Value,qf 1 (.tuple #[a,b])=some b:=fun _ _=>rfl
 have hal:=ym n.pairs key
 have hfp:=hf.pl
 have u04:Upd [] m m4:=(u02.qD u3).qD u4
 unfold xA
 cases ht:zo n.pairs key with
 | true =>
  simp -implicitDefEqProofs only [st0,qc,reduceIte,e1,e2,qE (i:=zb n.pairs key) (by omega)]
  refine qo.2 ((qbO t4 (jj ht) hfp).mono fun v5 m5 ⟨t5,u5,b5⟩=>?_)
  have hb5:∀ b∈qe v3,m2.next≤b:=b3
  have o5:m5.get m1.next=_:=(u5.same m1.next (by omega) (fun hm=>by have:=b3 _ hm; omega)).trans o4
  simp -implicitDefEqProofs only [st0,qc,reduceIte,ef v5 t5.ap.one.1,qX o5 true (sp':=v5) (sk':=.slice none 0 0) (si':=.slice none 0 0) t5.ap.one.2 rfl rfl,lwo (Mem.qj m5 m1.next _)]
  refine ⟨⟨v5,rfl,t5.upd (Upd.put (fp:=[m1.next]) _ _ (by simp)) (fun b hb hm=>?_),fun b hb=>?_⟩,(u04.then' u5 (fun b hb=>.inr ?_)).jL _ (.inr (by omega))⟩
  ·rw [b5] at hb; have:=b3 b hb; simp at hm; omega
  ·rw [b5] at hb; have:=b3 b hb; omega
  ·have:=b3 b hb; omega
 | false =>
  simp -implicitDefEqProofs only [st0,qc,reduceIte,e1,e2,ef v3 t4.ap.one.1,qX o4 true (sp':=v3) (sk':=.slice none 0 0) (si':=.slice none 0 0) t4.ap.one.2 rfl rfl,lwo (Mem.qj m4 m1.next _)]
  refine ⟨⟨v3,rfl,t4.upd (Upd.put (fp:=[m1.next]) _ _ (by simp)) (fun b hb hm=>?_),fun b hb=>?_⟩,u04.jL _ (.inr (by omega))⟩
  ·have:=b3 b hb; simp at hm; omega
  ·have:=b3 b hb; omega
theorem KL {lo:Nat} {v:Value} {n:Nd} {m:Mem} (key val:Bs) (h:TN lo m v n) (hf:n.Fit) (hlo:lo≤m.next) :
  W (Call S tab 75 [v,str key,str val] m) fun r m'=>TN m.next m' r (Nd.lf (xO n.pairs key val))∧Upd [] m m':=by
 have hn:=h
 obtain ⟨sp,sk,si,rfl,h1,h2,h3⟩:=h.ex
 rw [C75]
 have g1:(m.add (qh n.leaf sp sk si)).get m.next=some (qh n.leaf sp sk si):=Mem.qk ..
 have u1:Upd [] m (m.add (qh n.leaf sp sk si)):=Upd.add _ _ _
 have n1:(m.add (qh n.leaf sp sk si)).next=m.next+1:=rfl
 simp -implicitDefEqProofs only [st0,qc,reduceIte,fa,qQ]
 generalize (m.add (qh n.leaf sp sk si))=m1 at g1 u1 n1
 have u2:Upd [] m1 (m1.add (qh false (.slice none 0 0) (.slice none 0 0) (.slice none 0 0))):=Upd.add _ _ _
 have o2:(m1.add (qh false (.slice none 0 0) (.slice none 0 0) (.slice none 0 0))).get m1.next=some (qh false (.slice none 0 0) (.slice none 0 0) (.slice none 0 0)):=Mem.qk ..
 have n2:(m1.add (qh false (.slice none 0 0) (.slice none 0 0) (.slice none 0 0))).next=m1.next+1:=rfl
 generalize (m1.add (qh false (.slice none 0 0) (.slice none 0 0) (.slice none 0 0)))=m2 at u2 o2 n2
 have g2:=qA u2 (by omega) g1
 have u02:=u1.qD u2
 have lw:∀ {M:Mem},M.get m.next=some (qh n.leaf sp sk si)→qm 4 (.pointer (some ⟨m.next,0,none⟩)) M=some (.agg #[.bool n.leaf,sp,sk,si]):=fun g=>zK g rfl
 have lwo:∀ {M:Mem} {x:Value},M.get m1.next=some (qh true x (.slice none 0 0) (.slice none 0 0))→qm 4 (.pointer (some ⟨m1.next,0,none⟩)) M=some (.agg #[.bool true,x,.slice none 0 0,.slice none 0 0]):=fun g=>zK g rfl
 have ef:∀ x:Value,x.cells=#[x]→qy [.bool false,.slice none 0 0,.slice none 0 0,.slice none 0 0] [(0,1,.bool true),(1,1,x)]=some [.bool true,x,.slice none 0 0,.slice none 0 0]:=by
  intro x hx
  simp only [qy,hx]
  rfl
 simp -implicitDefEqProofs only [st0,qc,reduceIte,lw g2]
 refine qo.2 ((qds key (hn.qt u02) hf (by omega)).mono fun v3 m3 ⟨⟨sp3,r3,t3,b3⟩,u3⟩=>?_)
 subst r3
 have g3:=qA u3 (by omega) g2
 have o3:=qA u3 (by omega) o2
 have x3:=u3.next
 have ef1:vF 1 1 false (jM true sp3 (.slice none 0 0) (.slice none 0 0))=some sp3:=rfl
 simp -implicitDefEqProofs only [st0,qc,reduceIte,lw g3,ef1]
 refine qo.2 ((ZJ key ((hn.qt u02).qt u3) hf).mono fun v4 m4 ⟨r4,u4⟩=>?_)
 subst r4
 have t4:=t3.qt u4
 have x4:=u4.next
 have o4:=qA u4 (by omega) o3
 have e1:∀ a b:Value,qf 0 (.tuple #[a,b])=some a:=fun _ _=>rfl
 have e2:∀ a b:Value,qf 1 (.tuple #[a,b])=some b:=fun _ _=>rfl
 have u04:Upd [] m m4:=(u02.qD u3).qD u4
 have e3:qy [.string ⟨#[]⟩,.string ⟨#[]⟩] [(0,1,str key),(1,1,str val)]=some [str key,str val]:=by kernel_rfl
 have e4:qy [.string ⟨#[]⟩,.string ⟨#[]⟩] [(0,2,.agg [str key,str val].toArray)]=some (qJ.flat [(key,val)]):=by kernel_rfl
 have g5:(m4.add ⟨.cells (qJ.flat [(key,val)]) 61,false,none⟩).get m4.next=some ⟨.cells (qJ.flat [(key,val)]) 61,false,none⟩:=Mem.qk ..
 have u5:Upd [] m4 (m4.add ⟨.cells (qJ.flat [(key,val)]) 61,false,none⟩):=Upd.add _ _ _
 have n5:(m4.add ⟨.cells (qJ.flat [(key,val)]) 61,false,none⟩).next=m4.next+1:=rfl
 simp -implicitDefEqProofs only [st0,qc,reduceIte,e1,e2,e3,e4]
 generalize (m4.add ⟨.cells (qJ.flat [(key,val)]) 61,false,none⟩)=m5 at g5 u5 n5
 have o5:=qA u5 (by omega) o4
 have t5:=t4.qt u5
 have hcl:(xA n.pairs key).length≤n.pairs.length:=by
  unfold xA; split
  ·rw [List.length_eraseIdx]; split<;>omega
  ·exact Nat.le_refl _
 have hal:zb n.pairs key≤(xA n.pairs key).length:=by
  have:=ym n.pairs key
  unfold xA; split
  ·rename_i ht; have:=jj ht; rw [List.length_eraseIdx,if_pos this]; omega
  ·exact this
 have hfp:=hf.pl
 refine qo.2 ((qbv t5 hal (by omega) g5 (fun hm=>by have:=t4.ap.lt _ hm; omega)).mono fun v6 m6 ⟨t6,u6,b6⟩=>?_)
 have o6:m6.get m1.next=_:=(u6.same m1.next (by omega) (fun hm=>by have:=b3 _ hm; omega)).trans o5
 have x6:=u6.next
 have hb6:∀ b∈qe v6,m2.next≤b:=fun b hb=>(b6 b hb).elim (fun h=>by have:=b3 b h; omega) (fun h=>by omega)
 simp -implicitDefEqProofs only [st0,qc,reduceIte,ef v6 t6.one.1,qX o6 true (sp':=v6) (sk':=.slice none 0 0) (si':=.slice none 0 0) t6.one.2 rfl rfl,lwo (Mem.qj m6 m1.next _)]
 have hput:Upd [m1.next] m6 (m6.put m1.next (qh true v6 (.slice none 0 0) (.slice none 0 0))):=Upd.put _ _ (by simp)
 refine ⟨⟨_,_,_,rfl,((t6.rsl hb6).upd hput (fun b hb=>by simp at hb; omega)).low (by omega),RSl.nil _ _ _,RSl.nil _ _ _⟩,((u04.qD u5).then' u6 (fun b hb=>.inr ?_)).jL _ (.inr (by omega))⟩
 have:=b3 b hb; omega
end Go.Fx.Tryz
namespace Go.Fx.Tryz
open Go Go.Fx
theorem qdD {e:TypeId} {size eb k:Nat} {z:Value} {m:Mem} (hk:0<k) (h1:k≤2 ^ 47) (h2:k * eb≤2 ^ 47) (hz:z.cells.toList.length=size) (hz1:z.cells.toList.all (·.oneCell')=true) :
  xf e size eb z (.slice none 0 0) (.int .i64 (k:Int)) m=some (.slice (some ⟨m.next,0,none⟩) k k,m.add ⟨.cells (List.replicate k z.cells.toList).flatten e,false,some size⟩):=by
 have c1:(0:Int)≤(k:Int)∧(k:Int)≤2 ^ 47∧(k:Int).toNat * eb≤2 ^ 47:=⟨by omega,by omega,by simpa using h2⟩
 have hlen:((List.replicate k z.cells.toList).flatten).length=k * size:=by simp [hz]
 have hall:((List.replicate k z.cells.toList).flatten).all (·.oneCell')=true:=by
  rw [List.all_eq_true] at hz1 ⊢
  intro x hx
  obtain ⟨y,hy,hxy⟩:=List.mem_flatten.1 hx
  rw [List.mem_replicate] at hy
  exact hz1 x (hy.2 ▸ hxy)
 simp only [xf]
 rw [if_pos c1,Int.toNat_natCast]
 have hc0:¬ ¬ ((0+k) * eb≤2 ^ 47∧(0+k)≤2 ^ 47∧((List.replicate k z.cells.toList).flatten).length=k * size∧((List.replicate k z.cells.toList).flatten).all (·.oneCell')=true):=by
  simp only [Decidable.not_not]; exact ⟨by rw [Nat.zero_add]; exact h2,by omega,hlen,hall⟩
 simp only [qC,if_neg hc0,if_neg (show ¬ (0+k≤0) by omega),and_self,if_true]
theorem Xw {l:List Value} {s:Nat} (k:Nat) (h:l.length=s):((List.replicate k l).flatten).length=(k - 0) * s:=by simp [h]
theorem qbw {vb n i:Nat} (h:i<n):ql 1 (.slice (some ⟨vb,0,none⟩) n n) (.int .i64 (i:Int))=some (.pointer (some ⟨vb,i,none⟩)):=by
 have:(0:Int)≤(i:Int)∧(i:Int)<(n:Int):=by omega
 simp only [ql,Int.toNat_natCast]
 simp [h]
theorem Kh {α:Type} (c:Nat):∀ (l:List (Value × List α)),(∀ s∈l,s.2.length≤c)→(l.map (·.2.length)).sum≤l.length * c
 | [],_=>by simp
 | a::l,h=>by
  have:=Kh c l (fun s hs=>h s (by simp [hs]))
  have:=h a (by simp)
  rw [List.map_cons,List.sum_cons,List.length_cons,Nat.add_mul]; omega
theorem qcZ (k:Nat) (m:Mem) (hk:k≤1000000):W (Call S tab 227 [.slice none 0 0,.int .i64 (k:Int)] m) fun r m'=>TAp qJ 61 m' r []∧(∀ b∈qe r,m.next≤b)∧Upd [] m m':=by
 have e0:((k:Int)<0)=False:=eq_false (by omega)
 have e1:jV (.slice none 0 0) m=some (.int .i64 0):=rfl
 have e2:qd (.slice none 0 0)=some (.int .i64 0):=rfl
 have e3:arith .sub (.int .i64 0) (.int .i64 0)=some (.int .i64 0):=by kernel_rfl
 have e4:arith .sub (.int .i64 (k:Int)) (.int .i64 0)=some (.int .i64 (k:Int)):=by rw [zS (by omega) (by omega)]; simp
 rw [qjc]
 simp -implicitDefEqProofs only [st0,qc,reduceIte,e0]
 rw [P227_0_eq]
 simp -implicitDefEqProofs only [st0,qc,reduceIte,e1,e2,e3,e4]
 by_cases h0:k=0
 ·subst h0
  have e5:decide ((0:Int)<((0:Nat):Int))=false:=rfl
  simp -implicitDefEqProofs only [st0,qc,reduceIte,e5]
  exact ⟨TAp.nil _,fun b hb=>by simp [qe] at hb,Upd.refl _ _⟩
 ·have e5:((0:Int)<(k:Int))=True:=eq_true (by omega)
  have e6:qz 2 (.slice none 0 0) none (some (.int .i64 0)) m=some (.slice none 0 0):=rfl
  have e7:xf 61 2 32 (.agg #[.string ⟨#[]⟩,.string ⟨#[]⟩]) (.slice none 0 0) (.int .i64 (k:Int)) m=some (.slice (some ⟨m.next,0,none⟩) k k,m.add ⟨.cells (List.replicate k (Value.cells (.agg #[.string ⟨#[]⟩,.string ⟨#[]⟩])).toList).flatten 61,false,some 2⟩):=qdD (by omega) (by omega) (by omega) rfl rfl
  have e8:∀ M,qz 2 (.slice (some ⟨m.next,0,none⟩) k k) none (some (.int .i64 0)) M=some (.slice (some ⟨m.next,0,none⟩) 0 k):=fun M=>by
   have:=bV0 (len:=k) (cap:=k) (j:=0) (by omega)
   simp only [qz]
   rw [show (Value.int .i64 0)=.int .i64 ((0:Nat):Int) from rfl,this]
   simp
  simp -implicitDefEqProofs only [st0,qc,reduceIte,e5,e6,e7,e8]
  exact ⟨.inr ⟨m.next,k,_,some 2,rfl,by simp,Mem.qk ..,.inr rfl,Xw k rfl,by simp⟩,fun b hb=>by simp [qe] at hb; omega,Upd.add _ _ _⟩
theorem WS {vb:Nat} {t:TypeId} {n:Nat}:∀ (ss:List (Value × List Pr)) (i acc:Nat) (m:Mem),n - i=ss.length→i≤n→(∃ pre,pre.length=i∧m.get vb=some ⟨.cells (pre++ss.map (·.1)) t,false,none⟩)→(∀ s∈ss,qd s.1=some (.int .i64 (s.2.length:Int))∧s.2.length≤65536)→n≤3→acc≤i * 65536 →
  ∀ Q,W (Hp (.slice (some ⟨vb,0,none⟩) n n) (.int .i64 ((acc+(ss.map (·.2.length)).sum:Nat):Int)) m) Q→W (Vo (.slice (some ⟨vb,0,none⟩) n n) (.int .i64 (acc:Int)) (.slice (some ⟨vb,0,none⟩) n n) (.int .i64 (n:Int)) (.int .i64 (i:Int)) m) Q:=by
 intro ss
 induction ss with
 | nil =>
  intro i acc m hd hi hg hs hn ha Q hq
  obtain rfl:i=n:=by simp at hd; omega
  rw [P205_0_eq]
  simp -implicitDefEqProofs only [st0,qc,reduceIte,Int.lt_irrefl]
  simpa using hq
 | cons s ss ih =>
  intro i acc m hd hi ⟨pre,hp,hg⟩ hs hn ha Q hq
  have hlt:i<n:=by simp at hd; omega
  have e1:((i:Int)<(n:Int))=True:=eq_true (by omega)
  have e2:=qbw (vb:=vb) hlt
  have e3:qb (.pointer (some ⟨vb,i,none⟩)) m=some s.1:=qu hg (by rw [List.getElem?_append_right (by omega),hp,Nat.sub_self]; rfl)
  obtain ⟨e4,hsl⟩:=hs s (by simp)
  have hacc:acc≤3 * 65536:=Nat.le_trans ha (Nat.mul_le_mul_right _ (by omega))
  have e5:(((acc+s.2.length:Nat):Int)<0)=False:=eq_false (by omega)
  rw [P205_0_eq]
  simp -implicitDefEqProofs only [st0,qc,reduceIte,e1,e2,e3,e4,addN (i:=acc) (j:=s.2.length) (by omega),e5,qE (i:=i) (by omega)]
  refine ih (i+1) (acc+s.2.length) m (by simp at hd; omega) hlt ⟨pre++[s.1],by simp [hp],by rw [hg]; simp⟩ (fun x hx=>hs x (by simp [hx])) hn (by rw [Nat.add_mul]; omega) Q ?_
  rw [List.map_cons,List.sum_cons,← Nat.add_assoc] at hq
  exact hq
theorem WU {vb:Nat} {t:TypeId} {n:Nat} {lo:Nat} {m0:Mem} (hvb:vb<m0.next):∀ (ss:List (Value × List Pr)) (i:Nat) (m:Mem) (v:Value) (l:List Pr),n - i=ss.length→i≤n→(∃ pre,pre.length=i∧m.get vb=some ⟨.cells (pre++ss.map (·.1)) t,false,none⟩)→(∀ s∈ss,RSl lo qJ m s.1 s.2∧s.2.length≤65536∧∀ b∈qe s.1,b<m0.next)→n≤3→l.length≤i * 65536→TAp qJ 61 m v l→(∀ b∈qe v,m0.next≤b)→Upd [] m0 m →
  W (Vn v (.slice (some ⟨vb,0,none⟩) n n) (.int .i64 (n:Int)) (.int .i64 (i:Int)) m) fun r m'=>TAp qJ 61 m' r (l++(ss.map (·.2)).flatten)∧(∀ b∈qe r,m0.next≤b)∧Upd [] m0 m':=by
 intro ss
 induction ss with
 | nil =>
  intro i m v l hd hi hg hs hn ha hv hb hu
  obtain rfl:i=n:=by simp at hd; omega
  rw [P205_2_eq]
  simp -implicitDefEqProofs only [st0,qc,reduceIte,Int.lt_irrefl]
  simpa using ⟨hv,hb,hu⟩
 | cons s ss ih =>
  intro i m v l hd hi ⟨pre,hp,hg⟩ hs hn ha hv hb hu
  have hlt:i<n:=by simp at hd; omega
  have e1:((i:Int)<(n:Int))=True:=eq_true (by omega)
  have e2:=qbw (vb:=vb) hlt
  have e3:qb (.pointer (some ⟨vb,i,none⟩)) m=some s.1:=qu hg (by rw [List.getElem?_append_right (by omega),hp,Nat.sub_self]; rfl)
  obtain ⟨e4,hsl,hsb⟩:=hs s (by simp)
  have hacc:l.length≤3 * 65536:=Nat.le_trans ha (Nat.mul_le_mul_right _ (by omega))
  rw [P205_2_eq]
  simp -implicitDefEqProofs only [st0,qc,reduceIte,e1,e2,e3]
  refine ki (E:=qJ) s.2 (by decide) hv e4.1.src (by omega) fun v1 m1 q1 q2 q3=>?_
  simp -implicitDefEqProofs only [st0,qc,reduceIte,qE (i:=i) (by omega)]
  have hx:∀ b,b<m0.next→b∉qe v:=fun b hb1 hb2=>by have:=hb b hb2; omega
  have:=ih (i+1) m1 v1 (l++s.2) (by simp at hd; omega) hlt ⟨pre++[s.1],by simp [hp],by rw [q2.same vb (Nat.lt_of_lt_of_le hvb hu.next) (hx vb hvb),hg]; simp⟩
   (fun x hx'=>⟨(hs x (by simp [hx'])).1.zF q2 (fun b hb1=>hx b ((hs x (by simp [hx'])).2.2 b hb1)),(hs x (by simp [hx'])).2⟩) hn (by rw [List.length_append,Nat.add_mul]; omega) q1
   (fun b hb1=>(q3 b hb1).elim (hb b) (fun h=>Nat.le_trans hu.next h)) (hu.then' q2 (fun b hb1=>.inr (hb b hb1)))
  rw [List.append_assoc] at this
  rwa [List.map_cons,List.flatten_cons]
theorem Hg {lo vb:Nat} {t:TypeId} {m:Mem} (hvb:vb<m.next) (ss:List (Value × List Pr)) (hn:ss.length≤3) (hg:m.get vb=some ⟨.cells (ss.map (·.1)) t,false,none⟩) (hs:∀ s∈ss,RSl lo qJ m s.1 s.2∧s.2.length≤65536) :
  W (Call S tab 205 [.slice (some ⟨vb,0,none⟩) ss.length ss.length] m) fun r m'=>TAp qJ 61 m' r (ss.map (·.2)).flatten∧(∀ b∈qe r,m.next≤b)∧Upd [] m m':=by
 rw [qjg]
 have e1:qd (.slice (some ⟨vb,0,none⟩) ss.length ss.length)=some (.int .i64 (ss.length:Int)):=rfl
 simp -implicitDefEqProofs only [st0,qc,reduceIte,e1]
 have hsum:(ss.map (·.2.length)).sum≤3 * 65536:=Nat.le_trans (Kh 65536 ss (fun s h=>(hs s h).2)) (Nat.mul_le_mul_right _ hn)
 refine WS (n:=ss.length) ss 0 0 m (by simp) (by omega) ⟨[],rfl,by rw [hg]; rfl⟩ (fun s h=>⟨(hs s h).1.1.len,(hs s h).2⟩) hn (by omega) _ ?_
 rw [Nat.zero_add,P205_1_eq]
 refine (qcZ _ m (by omega)).bind fun v1 m1 ⟨t1,b1,u1⟩=>?_
 simp -implicitDefEqProofs only [st0,qc,reduceIte,e1]
 exact WU hvb (n:=ss.length) ss 0 m1 v1 [] (by simp) (by omega) ⟨[],rfl,by rw [qA u1 hvb hg]; rfl⟩ (fun s h=>⟨(hs s h).1.qt u1,(hs s h).2,fun b hb=>((hs s h).1.2 b hb).2⟩) hn (by simp) t1 b1 u1
theorem qcY (k:Nat) (m:Mem) (hk:k≤1000000):W (Call S tab 228 [.slice none 0 0,.int .i64 (k:Int)] m) fun r m'=>TAp zi 9 m' r []∧(∀ b∈qe r,m.next≤b)∧Upd [] m m':=by
 have e0:((k:Int)<0)=False:=eq_false (by omega)
 have e1:jV (.slice none 0 0) m=some (.int .i64 0):=rfl
 have e2:qd (.slice none 0 0)=some (.int .i64 0):=rfl
 have e3:arith .sub (.int .i64 0) (.int .i64 0)=some (.int .i64 0):=by kernel_rfl
 have e4:arith .sub (.int .i64 (k:Int)) (.int .i64 0)=some (.int .i64 (k:Int)):=by rw [zS (by omega) (by omega)]; simp
 rw [qjb]
 simp -implicitDefEqProofs only [st0,qc,reduceIte,e0]
 rw [P228_0_eq]
 simp -implicitDefEqProofs only [st0,qc,reduceIte,e1,e2,e3,e4]
 by_cases h0:k=0
 ·subst h0
  have e5:decide ((0:Int)<((0:Nat):Int))=false:=rfl
  simp -implicitDefEqProofs only [st0,qc,reduceIte,e5]
  exact ⟨TAp.nil _,fun b hb=>by simp [qe] at hb,Upd.refl _ _⟩
 ·have e5:((0:Int)<(k:Int))=True:=eq_true (by omega)
  have e6:qz 1 (.slice none 0 0) none (some (.int .i64 0)) m=some (.slice none 0 0):=rfl
  have e7:xf 9 1 16 (.string ⟨#[]⟩) (.slice none 0 0) (.int .i64 (k:Int)) m=some (.slice (some ⟨m.next,0,none⟩) k k,m.add ⟨.cells (List.replicate k (Value.cells (.string ⟨#[]⟩)).toList).flatten 9,false,some 1⟩):=qdD (by omega) (by omega) (by omega) rfl rfl
  have e8:∀ M,qz 1 (.slice (some ⟨m.next,0,none⟩) k k) none (some (.int .i64 0)) M=some (.slice (some ⟨m.next,0,none⟩) 0 k):=fun M=>by
   have:=bV0 (len:=k) (cap:=k) (j:=0) (by omega)
   simp only [qz]
   rw [show (Value.int .i64 0)=.int .i64 ((0:Nat):Int) from rfl,this]
   simp
  simp -implicitDefEqProofs only [st0,qc,reduceIte,e5,e6,e7,e8]
  exact ⟨.inr ⟨m.next,k,_,some 1,rfl,by simp,Mem.qk ..,.inr rfl,Xw k rfl,by simp⟩,fun b hb=>by simp [qe] at hb; omega,Upd.add _ _ _⟩
theorem WO {vb:Nat} {t:TypeId} {n:Nat}:∀ (ss:List (Value × List Bs)) (i acc:Nat) (m:Mem),n - i=ss.length→i≤n→(∃ pre,pre.length=i∧m.get vb=some ⟨.cells (pre++ss.map (·.1)) t,false,none⟩)→(∀ s∈ss,qd s.1=some (.int .i64 (s.2.length:Int))∧s.2.length≤65536)→n≤3→acc≤i * 65536 →
  ∀ Q,W (Ho (.slice (some ⟨vb,0,none⟩) n n) (.int .i64 ((acc+(ss.map (·.2.length)).sum:Nat):Int)) m) Q→W (Vm (.slice (some ⟨vb,0,none⟩) n n) (.int .i64 (acc:Int)) (.slice (some ⟨vb,0,none⟩) n n) (.int .i64 (n:Int)) (.int .i64 (i:Int)) m) Q:=by
 intro ss
 induction ss with
 | nil =>
  intro i acc m hd hi hg hs hn ha Q hq
  obtain rfl:i=n:=by simp at hd; omega
  rw [P206_0_eq]
  simp -implicitDefEqProofs only [st0,qc,reduceIte,Int.lt_irrefl]
  simpa using hq
 | cons s ss ih =>
  intro i acc m hd hi ⟨pre,hp,hg⟩ hs hn ha Q hq
  have hlt:i<n:=by simp at hd; omega
  have e1:((i:Int)<(n:Int))=True:=eq_true (by omega)
  have e2:=qbw (vb:=vb) hlt
  have e3:qb (.pointer (some ⟨vb,i,none⟩)) m=some s.1:=qu hg (by rw [List.getElem?_append_right (by omega),hp,Nat.sub_self]; rfl)
  obtain ⟨e4,hsl⟩:=hs s (by simp)
  have hacc:acc≤3 * 65536:=Nat.le_trans ha (Nat.mul_le_mul_right _ (by omega))
  have e5:(((acc+s.2.length:Nat):Int)<0)=False:=eq_false (by omega)
  rw [P206_0_eq]
  simp -implicitDefEqProofs only [st0,qc,reduceIte,e1,e2,e3,e4,addN (i:=acc) (j:=s.2.length) (by omega),e5,qE (i:=i) (by omega)]
  refine ih (i+1) (acc+s.2.length) m (by simp at hd; omega) hlt ⟨pre++[s.1],by simp [hp],by rw [hg]; simp⟩ (fun x hx=>hs x (by simp [hx])) hn (by rw [Nat.add_mul]; omega) Q ?_
  rw [List.map_cons,List.sum_cons,← Nat.add_assoc] at hq
  exact hq
theorem WQ {vb:Nat} {t:TypeId} {n:Nat} {lo:Nat} {m0:Mem} (hvb:vb<m0.next):∀ (ss:List (Value × List Bs)) (i:Nat) (m:Mem) (v:Value) (l:List Bs),n - i=ss.length→i≤n→(∃ pre,pre.length=i∧m.get vb=some ⟨.cells (pre++ss.map (·.1)) t,false,none⟩)→(∀ s∈ss,RSl lo zi m s.1 s.2∧s.2.length≤65536∧∀ b∈qe s.1,b<m0.next)→n≤3→l.length≤i * 65536→TAp zi 9 m v l→(∀ b∈qe v,m0.next≤b)→Upd [] m0 m →
  W (Vl v (.slice (some ⟨vb,0,none⟩) n n) (.int .i64 (n:Int)) (.int .i64 (i:Int)) m) fun r m'=>TAp zi 9 m' r (l++(ss.map (·.2)).flatten)∧(∀ b∈qe r,m0.next≤b)∧Upd [] m0 m':=by
 intro ss
 induction ss with
 | nil =>
  intro i m v l hd hi hg hs hn ha hv hb hu
  obtain rfl:i=n:=by simp at hd; omega
  rw [P206_2_eq]
  simp -implicitDefEqProofs only [st0,qc,reduceIte,Int.lt_irrefl]
  simpa using ⟨hv,hb,hu⟩
 | cons s ss ih =>
  intro i m v l hd hi ⟨pre,hp,hg⟩ hs hn ha hv hb hu
  have hlt:i<n:=by simp at hd; omega
  have e1:((i:Int)<(n:Int))=True:=eq_true (by omega)
  have e2:=qbw (vb:=vb) hlt
  have e3:qb (.pointer (some ⟨vb,i,none⟩)) m=some s.1:=qu hg (by rw [List.getElem?_append_right (by omega),hp,Nat.sub_self]; rfl)
  obtain ⟨e4,hsl,hsb⟩:=hs s (by simp)
  have hacc:l.length≤3 * 65536:=Nat.le_trans ha (Nat.mul_le_mul_right _ (by omega))
  rw [P206_2_eq]
  simp -implicitDefEqProofs only [st0,qc,reduceIte,e1,e2,e3]
  refine ki (E:=zi) s.2 (by decide) hv e4.1.src (by omega) fun v1 m1 q1 q2 q3=>?_
  simp -implicitDefEqProofs only [st0,qc,reduceIte,qE (i:=i) (by omega)]
  have hx:∀ b,b<m0.next→b∉qe v:=fun b hb1 hb2=>by have:=hb b hb2; omega
  have:=ih (i+1) m1 v1 (l++s.2) (by simp at hd; omega) hlt ⟨pre++[s.1],by simp [hp],by rw [q2.same vb (Nat.lt_of_lt_of_le hvb hu.next) (hx vb hvb),hg]; simp⟩
   (fun x hx'=>⟨(hs x (by simp [hx'])).1.zF q2 (fun b hb1=>hx b ((hs x (by simp [hx'])).2.2 b hb1)),(hs x (by simp [hx'])).2⟩) hn (by rw [List.length_append,Nat.add_mul]; omega) q1
   (fun b hb1=>(q3 b hb1).elim (hb b) (fun h=>Nat.le_trans hu.next h)) (hu.then' q2 (fun b hb1=>.inr (hb b hb1)))
  rw [List.append_assoc] at this
  rwa [List.map_cons,List.flatten_cons]
theorem Hf {lo vb:Nat} {t:TypeId} {m:Mem} (hvb:vb<m.next) (ss:List (Value × List Bs)) (hn:ss.length≤3) (hg:m.get vb=some ⟨.cells (ss.map (·.1)) t,false,none⟩) (hs:∀ s∈ss,RSl lo zi m s.1 s.2∧s.2.length≤65536) :
  W (Call S tab 206 [.slice (some ⟨vb,0,none⟩) ss.length ss.length] m) fun r m'=>TAp zi 9 m' r (ss.map (·.2)).flatten∧(∀ b∈qe r,m.next≤b)∧Upd [] m m':=by
 rw [qjf]
 have e1:qd (.slice (some ⟨vb,0,none⟩) ss.length ss.length)=some (.int .i64 (ss.length:Int)):=rfl
 simp -implicitDefEqProofs only [st0,qc,reduceIte,e1]
 have hsum:(ss.map (·.2.length)).sum≤3 * 65536:=Nat.le_trans (Kh 65536 ss (fun s h=>(hs s h).2)) (Nat.mul_le_mul_right _ hn)
 refine WO (n:=ss.length) ss 0 0 m (by simp) (by omega) ⟨[],rfl,by rw [hg]; rfl⟩ (fun s h=>⟨(hs s h).1.1.len,(hs s h).2⟩) hn (by omega) _ ?_
 rw [Nat.zero_add,P206_1_eq]
 refine (qcY _ m (by omega)).bind fun v1 m1 ⟨t1,b1,u1⟩=>?_
 simp -implicitDefEqProofs only [st0,qc,reduceIte,e1]
 exact WQ hvb (n:=ss.length) ss 0 m1 v1 [] (by simp) (by omega) ⟨[],rfl,by rw [qA u1 hvb hg]; rfl⟩ (fun s h=>⟨(hs s h).1.qt u1,(hs s h).2,fun b hb=>((hs s h).1.2 b hb).2⟩) hn (by simp) t1 b1 u1
theorem qda (k:Nat) (m:Mem) (hk:k≤1000000):W (Call S tab 229 [.slice none 0 0,.int .i64 (k:Int)] m) fun r m'=>TAp zG 3 m' r []∧(∀ b∈qe r,m.next≤b)∧Upd [] m m':=by
 have e0:((k:Int)<0)=False:=eq_false (by omega)
 have e1:jV (.slice none 0 0) m=some (.int .i64 0):=rfl
 have e2:qd (.slice none 0 0)=some (.int .i64 0):=rfl
 have e3:arith .sub (.int .i64 0) (.int .i64 0)=some (.int .i64 0):=by kernel_rfl
 have e4:arith .sub (.int .i64 (k:Int)) (.int .i64 0)=some (.int .i64 (k:Int)):=by rw [zS (by omega) (by omega)]; simp
 rw [qja]
 simp -implicitDefEqProofs only [st0,qc,reduceIte,e0]
 rw [P229_0_eq]
 simp -implicitDefEqProofs only [st0,qc,reduceIte,e1,e2,e3,e4]
 by_cases h0:k=0
 ·subst h0
  have e5:decide ((0:Int)<((0:Nat):Int))=false:=rfl
  simp -implicitDefEqProofs only [st0,qc,reduceIte,e5]
  exact ⟨TAp.nil _,fun b hb=>by simp [qe] at hb,Upd.refl _ _⟩
 ·have e5:((0:Int)<(k:Int))=True:=eq_true (by omega)
  have e6:qz 1 (.slice none 0 0) none (some (.int .i64 0)) m=some (.slice none 0 0):=rfl
  have e7:xf 3 1 8 (.int .i64 0) (.slice none 0 0) (.int .i64 (k:Int)) m=some (.slice (some ⟨m.next,0,none⟩) k k,m.add ⟨.cells (List.replicate k (Value.cells (.int .i64 0)).toList).flatten 3,false,some 1⟩):=qdD (by omega) (by omega) (by omega) rfl rfl
  have e8:∀ M,qz 1 (.slice (some ⟨m.next,0,none⟩) k k) none (some (.int .i64 0)) M=some (.slice (some ⟨m.next,0,none⟩) 0 k):=fun M=>by
   have:=bV0 (len:=k) (cap:=k) (j:=0) (by omega)
   simp only [qz]
   rw [show (Value.int .i64 0)=.int .i64 ((0:Nat):Int) from rfl,this]
   simp
  simp -implicitDefEqProofs only [st0,qc,reduceIte,e5,e6,e7,e8]
  exact ⟨.inr ⟨m.next,k,_,some 1,rfl,by simp,Mem.qk ..,.inr rfl,Xw k rfl,by simp⟩,fun b hb=>by simp [qe] at hb; omega,Upd.add _ _ _⟩
theorem WV {vb:Nat} {t:TypeId} {n:Nat}:∀ (ss:List (Value × List Nat)) (i acc:Nat) (m:Mem),n - i=ss.length→i≤n→(∃ pre,pre.length=i∧m.get vb=some ⟨.cells (pre++ss.map (·.1)) t,false,none⟩)→(∀ s∈ss,qd s.1=some (.int .i64 (s.2.length:Int))∧s.2.length≤65536)→n≤3→acc≤i * 65536 →
  ∀ Q,W (Hn (.slice (some ⟨vb,0,none⟩) n n) (.int .i64 ((acc+(ss.map (·.2.length)).sum:Nat):Int)) m) Q→W (Vk (.slice (some ⟨vb,0,none⟩) n n) (.int .i64 (acc:Int)) (.slice (some ⟨vb,0,none⟩) n n) (.int .i64 (n:Int)) (.int .i64 (i:Int)) m) Q:=by
 intro ss
 induction ss with
 | nil =>
  intro i acc m hd hi hg hs hn ha Q hq
  obtain rfl:i=n:=by simp at hd; omega
  rw [P207_0_eq]
  simp -implicitDefEqProofs only [st0,qc,reduceIte,Int.lt_irrefl]
  simpa using hq
 | cons s ss ih =>
  intro i acc m hd hi ⟨pre,hp,hg⟩ hs hn ha Q hq
  have hlt:i<n:=by simp at hd; omega
  have e1:((i:Int)<(n:Int))=True:=eq_true (by omega)
  have e2:=qbw (vb:=vb) hlt
  have e3:qb (.pointer (some ⟨vb,i,none⟩)) m=some s.1:=qu hg (by rw [List.getElem?_append_right (by omega),hp,Nat.sub_self]; rfl)
  obtain ⟨e4,hsl⟩:=hs s (by simp)
  have hacc:acc≤3 * 65536:=Nat.le_trans ha (Nat.mul_le_mul_right _ (by omega))
  have e5:(((acc+s.2.length:Nat):Int)<0)=False:=eq_false (by omega)
  rw [P207_0_eq]
  simp -implicitDefEqProofs only [st0,qc,reduceIte,e1,e2,e3,e4,addN (i:=acc) (j:=s.2.length) (by omega),e5,qE (i:=i) (by omega)]
  refine ih (i+1) (acc+s.2.length) m (by simp at hd; omega) hlt ⟨pre++[s.1],by simp [hp],by rw [hg]; simp⟩ (fun x hx=>hs x (by simp [hx])) hn (by rw [Nat.add_mul]; omega) Q ?_
  rw [List.map_cons,List.sum_cons,← Nat.add_assoc] at hq
  exact hq
theorem WW {vb:Nat} {t:TypeId} {n:Nat} {lo:Nat} {m0:Mem} (hvb:vb<m0.next):∀ (ss:List (Value × List Nat)) (i:Nat) (m:Mem) (v:Value) (l:List Nat),n - i=ss.length→i≤n→(∃ pre,pre.length=i∧m.get vb=some ⟨.cells (pre++ss.map (·.1)) t,false,none⟩)→(∀ s∈ss,RSl lo zG m s.1 s.2∧s.2.length≤65536∧∀ b∈qe s.1,b<m0.next)→n≤3→l.length≤i * 65536→TAp zG 3 m v l→(∀ b∈qe v,m0.next≤b)→Upd [] m0 m →
  W (Vj v (.slice (some ⟨vb,0,none⟩) n n) (.int .i64 (n:Int)) (.int .i64 (i:Int)) m) fun r m'=>TAp zG 3 m' r (l++(ss.map (·.2)).flatten)∧(∀ b∈qe r,m0.next≤b)∧Upd [] m0 m':=by
 intro ss
 induction ss with
 | nil =>
  intro i m v l hd hi hg hs hn ha hv hb hu
  obtain rfl:i=n:=by simp at hd; omega
  rw [P207_2_eq]
  simp -implicitDefEqProofs only [st0,qc,reduceIte,Int.lt_irrefl]
  simpa using ⟨hv,hb,hu⟩
 | cons s ss ih =>
  intro i m v l hd hi ⟨pre,hp,hg⟩ hs hn ha hv hb hu
  have hlt:i<n:=by simp at hd; omega
  have e1:((i:Int)<(n:Int))=True:=eq_true (by omega)
  have e2:=qbw (vb:=vb) hlt
  have e3:qb (.pointer (some ⟨vb,i,none⟩)) m=some s.1:=qu hg (by rw [List.getElem?_append_right (by omega),hp,Nat.sub_self]; rfl)
  obtain ⟨e4,hsl,hsb⟩:=hs s (by simp)
  have hacc:l.length≤3 * 65536:=Nat.le_trans ha (Nat.mul_le_mul_right _ (by omega))
  rw [P207_2_eq]
  simp -implicitDefEqProofs only [st0,qc,reduceIte,e1,e2,e3]
  refine ki (E:=zG) s.2 (by decide) hv e4.1.src (by omega) fun v1 m1 q1 q2 q3=>?_
  simp -implicitDefEqProofs only [st0,qc,reduceIte,qE (i:=i) (by omega)]
  have hx:∀ b,b<m0.next→b∉qe v:=fun b hb1 hb2=>by have:=hb b hb2; omega
  have:=ih (i+1) m1 v1 (l++s.2) (by simp at hd; omega) hlt ⟨pre++[s.1],by simp [hp],by rw [q2.same vb (Nat.lt_of_lt_of_le hvb hu.next) (hx vb hvb),hg]; simp⟩
   (fun x hx'=>⟨(hs x (by simp [hx'])).1.zF q2 (fun b hb1=>hx b ((hs x (by simp [hx'])).2.2 b hb1)),(hs x (by simp [hx'])).2⟩) hn (by rw [List.length_append,Nat.add_mul]; omega) q1
   (fun b hb1=>(q3 b hb1).elim (hb b) (fun h=>Nat.le_trans hu.next h)) (hu.then' q2 (fun b hb1=>.inr (hb b hb1)))
  rw [List.append_assoc] at this
  rwa [List.map_cons,List.flatten_cons]
theorem Hh {lo vb:Nat} {t:TypeId} {m:Mem} (hvb:vb<m.next) (ss:List (Value × List Nat)) (hn:ss.length≤3) (hg:m.get vb=some ⟨.cells (ss.map (·.1)) t,false,none⟩) (hs:∀ s∈ss,RSl lo zG m s.1 s.2∧s.2.length≤65536) :
  W (Call S tab 207 [.slice (some ⟨vb,0,none⟩) ss.length ss.length] m) fun r m'=>TAp zG 3 m' r (ss.map (·.2)).flatten∧(∀ b∈qe r,m.next≤b)∧Upd [] m m':=by
 rw [qje]
 have e1:qd (.slice (some ⟨vb,0,none⟩) ss.length ss.length)=some (.int .i64 (ss.length:Int)):=rfl
 simp -implicitDefEqProofs only [st0,qc,reduceIte,e1]
 have hsum:(ss.map (·.2.length)).sum≤3 * 65536:=Nat.le_trans (Kh 65536 ss (fun s h=>(hs s h).2)) (Nat.mul_le_mul_right _ hn)
 refine WV (n:=ss.length) ss 0 0 m (by simp) (by omega) ⟨[],rfl,by rw [hg]; rfl⟩ (fun s h=>⟨(hs s h).1.1.len,(hs s h).2⟩) hn (by omega) _ ?_
 rw [Nat.zero_add,P207_1_eq]
 refine (qda _ m (by omega)).bind fun v1 m1 ⟨t1,b1,u1⟩=>?_
 simp -implicitDefEqProofs only [st0,qc,reduceIte,e1]
 exact WW hvb (n:=ss.length) ss 0 m1 v1 [] (by simp) (by omega) ⟨[],rfl,by rw [qA u1 hvb hg]; rfl⟩ (fun s h=>⟨(hs s h).1.qt u1,(hs s h).2,fun b hb=>((hs s h).1.2 b hb).2⟩) hn (by simp) t1 b1 u1
end Go.Fx.Tryz
