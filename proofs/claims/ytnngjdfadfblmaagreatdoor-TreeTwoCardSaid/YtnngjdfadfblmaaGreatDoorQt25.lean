/- Parts of a proof: TreeRf, TreeRg, TreeLa, TreeLb, TreeLc, TreeLo, TreeLp, TreeLt, TreeEnd. Conditions: none. -/
import Derived.Test.YtnngjdfadfblmaaGreatDoorQt24
set_option linter.unusedSimpArgs false
set_option linter.unusedVariables false
namespace Go.Fx.Tryz
open Go Go.Fx
theorem Ws (x y:UInt8) (a b:Bs):ltB (x::a) (y::b)=(decide (x<y)||(decide (x=y)&&ltB a b)):=by
 simp [ltB,List.cons_lt_cons_iff]
theorem qhn (x y:UInt8):decide ((x.toNat:Int)<(y.toNat:Int))=decide (x<y):=by
 have:(x<y)↔(x.toNat<y.toNat):=UInt8.lt_iff_toNat_lt
 simp [this]
theorem u8_eq (x y:UInt8):decide ((x.toNat:Int)=(y.toNat:Int))=decide (x=y):=by
 have:x=y↔x.toNat=y.toNat:=UInt8.toNat_inj.symm
 have h2:((x.toNat:Int)=(y.toNat:Int))↔x.toNat=y.toNat:=by omega
 simp only [this,h2]
theorem Hl (m:Mem):∀ (a c b:Bs),(c++a).length≤65536→W (qaq (str (c++a)) (str (c++b)) (.int .i64 (c.length:Int)) m) fun r m'=>r=.bool (ltB a b)∧m'=m:=by
 intro a
 induction a with
 | nil =>
  intro c b hl
  have e1:((c.length:Int)<((c++[]).length:Int))=False:=eq_false (by simp)
  have e2:decide (((c++([]:Bs)).length:Int)<((c++b).length:Int))=ltB [] b:=by
   cases b with
   | nil=>simp [ltB]
   | cons y b =>
    have:ltB [] (y::b)=true:=by simp [ltB]
    rw [this]; exact decide_eq_true (by simp; omega)
  rw [P54_0_eq]
  simp -implicitDefEqProofs only [st0,qc,reduceIte,zy,e1]
  rw [P54_1_eq]
  simp -implicitDefEqProofs only [st0,qc,reduceIte,zy,e2]
  exact ⟨trivial,trivial⟩
 | cons x a ih =>
  intro c b hl
  have e1:((c.length:Int)<((c++x::a).length:Int))=True:=eq_true (by simp; omega)
  cases b with
  | nil =>
   have e2:((c.length:Int)<((c++([]:Bs)).length:Int))=False:=eq_false (by simp)
   have e3:decide (((c++x::a).length:Int)<((c++([]:Bs)).length:Int))=ltB (x::a) []:=by
    have:ltB (x::a) []=false:=by simp [ltB]
    rw [this]; exact decide_eq_false (by simp; omega)
   rw [P54_0_eq]
   simp -implicitDefEqProofs only [st0,qc,reduceIte,zy,e1,e2]
   rw [P54_1_eq]
   simp -implicitDefEqProofs only [st0,qc,reduceIte,zy,e3]
   exact ⟨trivial,trivial⟩
  | cons y b =>
   have e2:((c.length:Int)<((c++y::b).length:Int))=True:=eq_true (by simp; omega)
   have i1:=ZI (l:=c++x::a) (i:=c.length) (b:=x) (by rw [List.getElem?_append_right (Nat.le_refl _),Nat.sub_self]; rfl)
   have i2:=ZI (l:=c++y::b) (i:=c.length) (b:=y) (by rw [List.getElem?_append_right (Nat.le_refl _),Nat.sub_self]; rfl)
   rw [P54_0_eq]
   by_cases hxy:x=y
   ·subst hxy
    have e3:decide ((x.toNat:Int)=(x.toNat:Int))=true:=decide_eq_true rfl
    simp -implicitDefEqProofs only [st0,qc,reduceIte,zy,e1,e2,i1,i2,e3,qE (i:=c.length) (show c.length<2 ^ 62 by simp at hl; omega)]
    have:=ih (c++[x]) b (by simpa using hl)
    simp only [List.append_assoc,List.singleton_append,List.length_append,List.length_cons,List.length_nil] at this
    have hc:ltB (x::a) (x::b)=ltB a b:=by rw [Ws]; simp
    rw [hc]; exact this
   ·have e3:decide ((x.toNat:Int)=(y.toNat:Int))=false:=by rw [u8_eq]; exact decide_eq_false hxy
    simp -implicitDefEqProofs only [st0,qc,reduceIte,zy,e1,e2,i1,i2,e3,qhn]
    refine ⟨?_,trivial⟩
    rw [Ws,decide_eq_false hxy]; simp
theorem Yb (a b:Bs) (ha:a.length≤65536) (m:Mem):Call S tab 54 [str a,str b] m=some (.bool (ltB a b),m):=by
 refine W_eq ?_
 rw [C54]
 exact Hl m a [] b (by simpa using ha)
theorem qdE {l:List Pr} {key:Bs} {i:Nat} (hr:qH (l.map (·.1))=true) (hp:∀ x∈l.take i,ltB x.1 key=true) (hi:i<l.length) (hn:ltB l[i].1 key=false):zb l key=i:=by
 have h1:∀ x∈l.drop i,ltB x.1 key=false:=fun x hx=>by
  have hr':=xK _ i hr
  rw [← List.map_drop,List.drop_eq_getElem_cons hi,List.map_cons] at hr'
  rw [List.drop_eq_getElem_cons hi] at hx
  rcases List.mem_cons.1 hx with rfl|hx
  ·exact hn
  ·exact xd (vK hn ((qL hr').2 x.1 (List.mem_map_of_mem hx)))
 have:=kV (a:=l.take i) (b:=[]) (c:=l.drop i) hp h1
 rw [List.nil_append,List.take_append_drop,List.length_take] at this
 have h0:zb [] key=0:=rfl
 rw [this,h0]; omega
abbrev plB (a:Value) (root:Nat) (v:Value):ABlk:=⟨.cells [a,.int .i64 (root:Int),v] 36,false,none⟩
theorem qgI {lo:Nat} {m:Mem} {v:Value} {l:List Pr} (h:RSl lo qJ m v l) {i:Nat} {p:Pr} (hi:l[i]? = some p):∃ b off,ql 2 v (.int .i64 (i:Int))=some (.pointer (some ⟨b,off,none⟩))∧∀ M,RSl lo qJ M v l→qb (.pointer (some ⟨b,off+0,none⟩)) M=some (str p.1)∧qb (.pointer (some ⟨b,off+1,none⟩)) M=some (str p.2)∧qm 2 (.pointer (some ⟨b,off,none⟩)) M=some (.agg #[str p.1,str p.2]):=by
 obtain ⟨b,off,h1,h2⟩:=h.1.at .i64 hi
 rw [qT] at h1 h2
 exact ⟨b,off,h1,fun M hM=>⟨(h2 M hM.1).2 0 _ rfl,(h2 M hM.1).2 1 _ rfl,(h2 M hM.1).1⟩⟩
section
variable {pb root:Nat} {a v:Value} {l:List Pr} {m:Mem}
theorem kr {M:Mem} (g:M.get pb=some (plB a root v)):qb (.pointer (some ⟨pb,0+2+0,none⟩)) M=some v:=qu g rfl
theorem YQ {key:Bs} (hr:rowP l) (hl:l.length≤100000) (g:m.get pb=some (plB a root v)) (hv:RSl 0 qJ m v l):∀ (n i:Nat),l.length - i=n→i≤l.length→(∀ x∈l.take i,ltB x.1 key=true) →
  W (qar (.pointer (some ⟨pb,0+2,none⟩)) (str key) (.int .i64 (i:Int)) m) fun r m'=>r=.tuple #[.int .i64 ((zb l key:Nat):Int),.bool (zo l key)]∧m'=m:=by
 intro n
 induction n with
 | zero =>
  intro i hd hi hp
  obtain rfl:i=l.length:=by omega
  rw [List.take_length] at hp
  have ha:zb l key=l.length:=by
   have:=kV (a:=l) (b:=[]) (c:=[]) hp (fun x hx=>by cases hx)
   rw [List.nil_append,List.append_nil] at this
   rw [this]; rfl
  have ht:zo l key=false:=by unfold zo; rw [ha,List.getElem?_eq_none (Nat.le_refl _)]
  rw [P52_0_eq]
  simp -implicitDefEqProofs only [st0,qc,reduceIte,nck,fa,kr g,qY hv,Int.lt_irrefl]
  rw [P52_1_eq]
  simp -implicitDefEqProofs only [st0,qc,reduceIte,nck,fa,kr g,qY hv,Int.lt_irrefl]
  rw [ha,ht]
  exact ⟨rfl,trivial⟩
 | succ n ih =>
  intro i hd hi hp
  have hlt:i<l.length:=by omega
  have e1:((i:Int)<(l.length:Int))=True:=eq_true (by omega)
  obtain ⟨b,off,y1,y2⟩:=qgI hv (ja hlt)
  have y2:=(y2 m hv).1
  have hkl:l[i].1.length≤65536:=by
   have:=(xn hr.1 i (by simpa using hlt)).2.1
   rw [List.getElem_map] at this; omega
  rw [P52_0_eq]
  cases hc:ltB l[i].1 key with
  | true =>
   have ha:=Yb l[i].1 key hkl m
   rw [hc] at ha
   simp -implicitDefEqProofs only [st0,qc,reduceIte,nck,fa,kr g,qY hv,e1,y1,y2,ha,qE (i:=i) (by omega)]
   refine ih (i+1) (by omega) hlt fun x hx=>?_
   rw [List.take_succ_eq_append_getElem hlt] at hx
   rcases List.mem_append.1 hx with hx|hx
   ·exact hp x hx
   ·simp at hx; subst hx; exact hc
  | false =>
   have ha:=Yb l[i].1 key hkl m
   rw [hc] at ha
   have hai:=qdE hr.1 hp hlt hc
   have ht:zo l key=decide (l[i].1=key):=by unfold zo; rw [hai,List.getElem?_eq_getElem hlt]
   simp -implicitDefEqProofs only [st0,qc,reduceIte,nck,fa,kr g,qY hv,e1,y1,y2,ha]
   rw [P52_1_eq]
   simp -implicitDefEqProofs only [st0,qc,reduceIte,nck,fa,kr g,qY hv,e1,y1,y2,wa]
   rw [hai,ht]
   exact ⟨rfl,trivial⟩
theorem Jp {key:Bs} (hr:rowP l) (hl:l.length≤100000) (g:m.get pb=some (plB a root v)) (hv:RSl 0 qJ m v l):Call S tab 52 [.pointer (some ⟨pb,0+2,none⟩),str key] m=some (.tuple #[.int .i64 ((zb l key:Nat):Int),.bool (zo l key)],m):=by
 refine W_eq ?_
 rw [C52]
 exact YQ hr hl g hv _ 0 rfl (Nat.zero_le _) (by simp)
theorem qcy (l:List Pr) (key val:Bs):xO l key val=l.take (zb l key)++[(key,val)]++l.drop (zb l key+(if zo l key then 1 else 0)):=by
 unfold xO xA
 cases ht:zo l key with
 | false=>simp
 | true =>
  have hlt:=jj ht
  simp only [if_true]
  rw [List.eraseIdx_eq_take_drop_succ,List.take_append_of_le_length (by rw [List.length_take]; omega),List.take_take,Nat.min_self,List.drop_append,List.length_take]
  rw [show zb l key - min (zb l key) l.length=0 by omega,List.drop_of_length_le (by rw [List.length_take]; omega)]
  simp
structure PL (pb:Nat) (a:Value) (root:Nat) (v:Value) (l:List Pr) (m:Mem):Prop where
 g:m.get pb=some (plB a root v)
 tv:TAp qJ 61 m v l
 lt:pb<m.next
 ne:pb∉qe v
theorem PL.rs (h:PL pb a root v l m):RSl 0 qJ m v l:=h.tv.rsl fun b _=>Nat.zero_le _
theorem qeW (k s:Bs):qy [.string ⟨#[]⟩,.string ⟨#[]⟩] [(0,1,str k),(1,1,str s)]=some [str k,str s]:=by kernel_rfl
set_option maxRecDepth 4000 in
theorem qeq {key val:Bs} (hr:rowP l) (hl:l.length≤100000) (h:PL pb a root v l m):W (Call S tab 44 [.pointer (some ⟨pb,0+2,none⟩),str key,str val] m) fun r m'=>r=.tuple #[]∧∃ v',PL pb a root v' (xO l key val) m'∧(∀ b∈qe v',b∈qe v∨m.next≤b)∧Upd [pb] m m':=by
 have hp:=Jp (key:=key) hr hl h.g h.rs
 have hale:=ym l key
 have hle:zb l key+(if zo l key then 1 else 0)≤l.length:=by
  split
  ·rename_i ht; have:=jj ht; omega
  ·omega
 have key1:∀ k:Nat,k=zb l key+(if zo l key then 1 else 0)→W (qas (.pointer (some ⟨pb,0+2,none⟩)) (str key) (str val) (.int .i64 ((zb l key:Nat):Int)) (.int .i64 (k:Int)) m) fun r m'=>r=.tuple #[]∧∃ v',PL pb a root v' (xO l key val) m'∧(∀ b∈qe v',b∈qe v∨m.next≤b)∧Upd [pb] m m':=fun k hk=>by
  rw [qcy,← hk]
  rw [← hk] at hle
  have ub:Upd [] m (m.zv 23):=Upd.zv _ _ _
  have nb:(m.zv 23).next=m.next+23:=rfl
  have gb:=qA ub h.lt h.g
  have hvb:=h.tv.qt ub
  obtain ⟨v1,s1,s2,s3⟩:=hvb.tsl.VH (k:=zb l key) hale
  rw [qT] at s1
  obtain ⟨v2,w1,w2,w3⟩:=hvb.from (k:=k) hle
  rw [qT] at w1
  have hlt:=h.lt
  have hne:=h.ne
  have hvlt:=h.tv.lt
  rw [P44_0_eq]
  simp -implicitDefEqProofs only [st0,qc,reduceIte,nck,fa,kr gb,s1]
  generalize hmb:m.zv 23=mb at ub nb gb hvb s2 w1 w2
  refine ki (E:=qJ) (l:=[]) (l.take (zb l key)) (by decide) (TAp.nil mb) s2.src (by simp; omega) fun v3 m3 q1 q2 q3=>?_
  rw [List.nil_append] at q1
  have q2:Upd [] mb m3:=q2
  have q3:∀ b∈qe v3,mb.next≤b:=fun b hb=>(q3 b hb).elim (fun h=>by simp [qe] at h) id
  have x3:=q2.next
  have g3:=qA q2 (by omega) gb
  simp -implicitDefEqProofs only [st0,qc,reduceIte,qeW,Hd (key,val)]
  have u4:Upd [m.next+11] m3 (m3.put (m.next+11) ⟨.cells (qJ.flat [(key,val)]) 61,false,none⟩):=Upd.put _ _ (by simp)
  have t4:TAp qJ 61 (m3.put (m.next+11) ⟨.cells (qJ.flat [(key,val)]) 61,false,none⟩) (.slice (some ⟨m.next+11,0,none⟩) 1 1) [(key,val)]:=.inr ⟨m.next+11,1,[],none,rfl,by show m.next+11<m3.next; omega,by rw [List.append_nil]; exact Mem.qj ..,.inl rfl,rfl,Nat.le_refl _⟩
  have q14:=q1.upd u4 fun b hb hm=>by have:=q3 b hb; simp at hm; omega
  have n4:(m3.put (m.next+11) ⟨.cells (qJ.flat [(key,val)]) 61,false,none⟩).next=m3.next:=rfl
  have g4:=(u4.same pb (by omega) (by simp; omega)).trans g3
  generalize (m3.put (m.next+11) ⟨.cells (qJ.flat [(key,val)]) 61,false,none⟩)=m4 at u4 t4 q14 n4 g4
  refine ki (E:=qJ) [(key,val)] (by decide) q14 t4.tsl.src (by simp; omega) fun v5 m5 r1 r2 r3=>?_
  have x5:=r2.next
  have g5:=(r2.same pb (by omega) (fun hm=>by have:=q3 _ hm; omega)).trans g4
  have r3:∀ b∈qe v5,mb.next≤b:=fun b hb=>(r3 b hb).elim (q3 b) (fun h=>by omega)
  have u35:Upd [m.next+11] mb m5:=(q2.nil'.trans u4).then' r2 fun b hb=>.inr (q3 b hb)
  have keepV:∀ b∈qe v,m5.get b=mb.get b:=fun b hb=>by have:=hvlt b hb; exact u35.same b (by omega) (by simp; omega)
  have w25:TSl qJ m5 v2 (l.drop k):=w2.mono fun b hb=>keepV b (by rw [← w3]; exact hb)
  simp -implicitDefEqProofs only [st0,qc,reduceIte,nck,fa,kr g5,w1 m5 keepV]
  refine ki (E:=qJ) (l.drop k) (by decide) r1 w25.src (by simp; omega) fun v6 m6 p1 p2 p3=>?_
  have x6:=p2.next
  have g6:=(p2.same pb (by omega) (fun hm=>by have:=r3 _ hm; omega)).trans g5
  have p3:∀ b∈qe v6,mb.next≤b:=fun b hb=>(p3 b hb).elim (r3 b) (fun h=>by omega)
  have st:qi 1 (.pointer (some ⟨pb,0+2+0,none⟩)) v6 m6=some (m6.put pb (plB a root v6)):=zr g6 (by simp) p1.one.1 p1.one.2
  simp -implicitDefEqProofs only [st0,qc,reduceIte,nck,fa,st]
  have hpb6:pb∉qe v6:=fun hm=>by have:=p3 _ hm; omega
  have up:Upd [pb] m6 (m6.put pb (plB a root v6)):=Upd.put _ _ (by simp)
  refine kz (fun r hr=>?_) (xI.2 ⟨rfl,v6,⟨Mem.qj ..,p1.upd up fun b hb hm=>by simp at hm; subst hm; exact hpb6 hb,by show pb<m6.next; omega,hpb6⟩,fun b hb=>.inr (by have:=p3 b hb; omega),?_⟩)
  ·have keepV3:∀ b∈qe v,m3.get b=mb.get b:=fun b hb=>by have:=hvlt b hb; exact q2.same b (by omega) (by simp)
   have keepV4:∀ b∈qe v,m4.get b=mb.get b:=fun b hb=>by have:=hvlt b hb; exact (u4.same b (by omega) (by simp; omega)).trans (keepV3 b hb)
   simp only [List.mem_cons,List.not_mem_nil,or_false] at hr
   rcases hr with rfl|rfl|rfl|rfl
   ·exact okR fun k _ hk=>by
     obtain rfl:k=0:=by omega
     exact ⟨_,rfl,kr gb⟩
   ·exact okR fun k _ hk=>by
     obtain rfl:k=0:=by omega
     exact ⟨_,rfl,s1 mb⟩
   ·exact okR fun k _ hk=>by
     have:k=0∨k=1∨k=2∨k=3:=by omega
     rcases this with rfl|rfl|rfl|rfl
     ·exact ⟨_,rfl,kr gb⟩
     ·exact ⟨_,rfl,kr g3⟩
     ·exact ⟨_,rfl,kr g4⟩
     ·exact ⟨_,rfl,kr g5⟩
   ·exact okR fun k _ hk=>by
     have:k=0∨k=1∨k=2∨k=3:=by omega
     rcases this with rfl|rfl|rfl|rfl
     ·exact ⟨_,rfl,w1 mb fun b hb=>rfl⟩
     ·exact ⟨_,rfl,w1 m3 keepV3⟩
     ·exact ⟨_,rfl,w1 m4 keepV4⟩
     ·exact ⟨_,rfl,w1 m5 keepV⟩
  ·exact (((ub.nil' (fp:=[pb])).then' u35 (fun b hb=>.inr (by simp at hb; omega))).then' p2 (fun b hb=>.inr (by have:=r3 b hb; omega))).trans up
 rw [C44]
 cases ht:zo l key with
 | true =>
  rw [ht] at hp
  simp -implicitDefEqProofs only [st0,qc,reduceIte,hp,xt0,xt1,qE (i:=zb l key) (by omega)]
  exact key1 _ (by rw [ht]; rfl)
 | false =>
  rw [ht] at hp
  simp -implicitDefEqProofs only [st0,qc,reduceIte,hp,xt0,xt1]
  exact key1 _ (by rw [ht]; rfl)
set_option maxRecDepth 4000 in
theorem Xx {key:Bs} (hr:rowP l) (hl:l.length≤100000) (h:PL pb a root v l m):W (Call S tab 42 [.pointer (some ⟨pb,0+2,none⟩),str key] m) fun r m'=>r=.bool (zo l key)∧∃ v',PL pb a root v' (xA l key) m'∧(∀ b∈qe v',b∈qe v∨m.next≤b)∧Upd [pb] m m':=by
 have hp:=Jp (key:=key) hr hl h.g h.rs
 rw [C42]
 cases ht:zo l key with
 | false =>
  rw [ht] at hp
  simp -implicitDefEqProofs only [st0,qc,reduceIte,hp,xt0,xt1]
  refine ⟨trivial,v,?_,fun b hb=>.inl hb,Upd.refl _ _⟩
  unfold xA; rw [ht,if_neg (by simp)]; exact h
 | true =>
  have hlt:=jj ht
  rw [ht] at hp
  have hcut:xA l key=l.take (zb l key)++l.drop (zb l key+1):=by
   unfold xA; rw [ht,if_pos rfl,List.eraseIdx_eq_take_drop_succ]
  obtain ⟨v1,s1,s2,s3⟩:=h.tv.tsl.VH (k:=zb l key) (by omega)
  rw [qT] at s1
  obtain ⟨v2,w1,w2,w3⟩:=h.tv.from (k:=zb l key+1) hlt
  rw [qT] at w1
  have hvlt:=h.tv.lt
  have hplt:=h.lt
  simp -implicitDefEqProofs only [st0,qc,reduceIte,hp,xt0,xt1,nck,fa,kr h.g,s1]
  refine ki (E:=qJ) (l:=[]) (l.take (zb l key)) (by decide) (TAp.nil m) s2.src (by simp; omega) fun v3 m3 q1 q2 q3=>?_
  rw [List.nil_append] at q1
  have q2:Upd [] m m3:=q2
  have q3:∀ b∈qe v3,m.next≤b:=fun b hb=>(q3 b hb).elim (fun h=>by simp [qe] at h) id
  have g3:=qA q2 h.lt h.g
  have x3:=q2.next
  have keepV:∀ b∈qe v,m3.get b=m.get b:=fun b hb=>q2.same b (hvlt b hb) (by simp)
  have w23:TSl qJ m3 v2 (l.drop (zb l key+1)):=w2.mono fun b hb=>keepV b (by rw [← w3]; exact hb)
  simp -implicitDefEqProofs only [st0,qc,reduceIte,nck,fa,kr g3,qE (i:=zb l key) (by omega),w1 m3 keepV]
  refine ki (E:=qJ) (l.drop (zb l key+1)) (by decide) q1 w23.src (by simp; omega) fun v4 m4 r1 r2 r3=>?_
  have x4:=r2.next
  have g4:=(r2.same pb (by omega) (fun hm=>by have:=q3 _ hm; omega)).trans g3
  have r3:∀ b∈qe v4,m.next≤b:=fun b hb=>(r3 b hb).elim (q3 b) (fun h=>by omega)
  have st:qi 1 (.pointer (some ⟨pb,0+2+0,none⟩)) v4 m4=some (m4.put pb (plB a root v4)):=zr g4 (by simp) r1.one.1 r1.one.2
  simp -implicitDefEqProofs only [st0,qc,reduceIte,nck,fa,st]
  have hpb4:pb∉qe v4:=fun hm=>by have:=r3 _ hm; omega
  have up:Upd [pb] m4 (m4.put pb (plB a root v4)):=Upd.put _ _ (by simp)
  rw [hcut]
  refine kz (fun r hr=>?_) (xI.2 ⟨rfl,v4,⟨Mem.qj ..,r1.upd up fun b hb hm=>by simp at hm; subst hm; exact hpb4 hb,by show pb<m4.next; omega,hpb4⟩,fun b hb=>.inr (r3 b hb),?_⟩)
  ·simp only [List.mem_cons,List.not_mem_nil,or_false] at hr
   rcases hr with rfl|rfl|rfl|rfl
   ·exact okR fun k _ hk=>by
     obtain rfl:k=0:=by omega
     exact ⟨_,rfl,kr h.g⟩
   ·exact okR fun k _ hk=>by
     obtain rfl:k=0:=by omega
     exact ⟨_,rfl,s1 m⟩
   ·exact okR fun k _ hk=>by
     have:k=0∨k=1:=by omega
     rcases this with rfl|rfl
     ·exact ⟨_,rfl,kr h.g⟩
     ·exact ⟨_,rfl,kr g3⟩
   ·exact okR fun k _ hk=>by
     have:k=0∨k=1:=by omega
     rcases this with rfl|rfl
     ·exact ⟨_,rfl,w1 m fun b hb=>rfl⟩
     ·exact ⟨_,rfl,w1 m3 keepV⟩
  ·exact ((q2.nil' (fp:=[pb])).then' r2 (fun b hb=>.inr (q3 b hb))).trans up
end
end Go.Fx.Tryz
namespace Go.Fx.Tryz
open Go Go.Fx
section
variable {pb root:Nat} {a v:Value} {l:List Pr} {m:Mem}
abbrev qiU:EqD:=.st [(0,(1,(false,(.sc .string)))),(1,(1,(false,(.sc .string))))]
theorem qen (p:Pr):Xr true qiU (.agg #[str p.1,str p.2]) (.agg #[str p.1,str p.2])=some (.bool false):=by
 have h:∀ s:Bs,((⟨s.toArray⟩:ByteArray) == ⟨s.toArray⟩)=true:=fun s=>by
  have:((⟨s.toArray⟩:ByteArray) == ⟨s.toArray⟩)=(s.toArray == s.toArray):=rfl
  rw [this]; simp
 simp only [Xr,ZA,yz,partOf,str,Bool.false_eq_true,if_false,List.getElem?_toArray,List.getElem?_cons_zero,List.getElem?_cons_succ,qbW,h]
 rfl
theorem qaZ {lo:Nat} {x y:Value} (hl:l.length≤200000) (hx:RSl lo qJ m x l) (hy:RSl lo qJ m y l):∀ (n i:Nat),l.length - i=n→i≤l.length→W (qaD x y (.int .i64 (i:Int)) m) fun r m'=>r=.bool true∧m'=m:=by
 intro n
 induction n with
 | zero =>
  intro i hd hi
  obtain rfl:i=l.length:=by omega
  rw [P22_0_eq]
  simp -implicitDefEqProofs only [st0,qc,reduceIte,qY hx,Int.lt_irrefl]
  exact ⟨trivial,trivial⟩
 | succ n ih =>
  intro i hd hi
  have hlt:i<l.length:=by omega
  have e1:((i:Int)<(l.length:Int))=True:=eq_true (by omega)
  obtain ⟨b,off,y1,y2⟩:=qgI hx (ja hlt)
  obtain ⟨b',off',y1',y2'⟩:=qgI hy (ja hlt)
  rw [P22_0_eq]
  simp -implicitDefEqProofs only [st0,qc,reduceIte,qY hx,e1,y1,(y2 m hx).2.2,y1',(y2' m hy).2.2,qen,qE (i:=i) (by omega)]
  exact ih (i+1) (by omega) hlt
theorem HK {lo:Nat} {x y:Value} (hl:l.length≤200000) (hx:RSl lo qJ m x l) (hy:RSl lo qJ m y l):Call S tab 22 [x,y] m=some (.bool true,m):=by
 refine W_eq ?_
 have d:decide ((l.length:Int)=(l.length:Int))=true:=decide_eq_true rfl
 rw [C22]
 simp -implicitDefEqProofs only [st0,qc,reduceIte,qY hx,qY hy,d]
 exact qaZ hl hx hy _ 0 rfl (Nat.zero_le _)
instance (key val:Bs):Decidable (Kv key val):=inferInstanceAs (Decidable (_∧_))
theorem yE (key val:Bs) (m:Mem):Call S tab 43 [str key,str val] m=some (.bool (decide (Kv key val)),m):=by
 refine W_eq ?_
 rw [C43]
 by_cases c1:key=[]
 ·have e1:((1:Int)≤(key.length:Int))=False:=eq_false (by rw [c1]; simp)
  have hk:decide (Kv key val)=false:=decide_eq_false fun h=>h.1.1 c1
  simp -implicitDefEqProofs only [st0,qc,reduceIte,zy,e1,hk]
  exact ⟨trivial,trivial⟩
 ·have e1:((1:Int)≤(key.length:Int))=True:=eq_true (by have:=List.length_pos_iff.2 c1; omega)
  by_cases c2:key.length≤32
  ·have e2:((key.length:Int)≤32)=True:=eq_true (by omega)
   by_cases c3:val.length≤40
   ·have e3:((val.length:Int)≤40)=True:=eq_true (by omega)
    have hk:decide (Kv key val)=true:=decide_eq_true ⟨⟨c1,c2⟩,c3⟩
    simp -implicitDefEqProofs only [st0,qc,reduceIte,zy,e1,e2,e3,hk]
    exact ⟨trivial,trivial⟩
   ·have e3:((val.length:Int)≤40)=False:=eq_false (by omega)
    have hk:decide (Kv key val)=false:=decide_eq_false fun h=>c3 h.2
    simp -implicitDefEqProofs only [st0,qc,reduceIte,zy,e1,e2,e3,hk]
    exact ⟨trivial,trivial⟩
  ·have e2:((key.length:Int)≤32)=False:=eq_false (by omega)
   have hk:decide (Kv key val)=false:=decide_eq_false fun h=>c2 h.1.2
   simp -implicitDefEqProofs only [st0,qc,reduceIte,zy,e1,e2,hk]
   exact ⟨trivial,trivial⟩
end
structure PQ (pb:Nat) (o:Wo) (ns:List St) (root:Nat) (v:Value) (l:List Pr) (U:List Nat) (m:Mem):Prop where
 wi:WI o ns m
 pl:PL pb (.pointer (some ⟨o.w,0,none⟩)) root v l m
 tr:TrR o.s root l U
 nd:U.Nodup
 pn:pb∉o.xY∧pb≠o.c∧pb≠o.p
 vn:∀ b∈qe v,b∉o.xY
theorem TrR.row {s:Nat→Option Bs} {root:Nat} {l:List Pr} {U:List Nat} (h:TrR s root l U):rowP l:=by
 rcases h with ⟨_,rfl,_⟩|⟨g,h⟩
 ·exact ⟨rfl,by simp⟩
 ·exact qdG s g root [] none l U h
theorem TrR.few {o:Wo} (hP:o.P≤160) {root:Nat} {l:List Pr} {U:List Nat} (h:TrR o.s root l U) (hnd:U.Nodup):l.length≤100000:=by
 rcases h with ⟨_,rfl,_⟩|⟨g,h⟩
 ·simp
 ·have:=Vh o.s g root [] none l U h
  have:=(yQ hP h hnd).2
  omega
theorem TrR.zF {s s':Nat→Option Bs} {root:Nat} {l:List Pr} {U:List Nat} (h:TrR s root l U) (hs:∀ q∈U,s' q=s q):TrR s' root l U:=by
 rcases h with h|⟨g,h⟩
 ·exact .inl h
 ·exact .inr ⟨g,xB g root [] none l U hs h⟩
theorem TrR.used {s:Nat→Option Bs} {root:Nat} {l:List Pr} {U:List Nat} (h:TrR s root l U):∀ q∈U,s q≠none:=by
 rcases h with ⟨_,_,rfl⟩|⟨g,h⟩
 ·intro q hq; cases hq
 ·exact vy s g root [] none l U h
structure Gs (pb:Nat) (o o':Wo) (m m':Mem):Prop where
 w:o'.w=o.w
 c:o'.c=o.c
 p:o'.p=o.p
 P:o'.P=o.P
 upd:Upd (pb::o.xY) m m'
 grow:∀ b∈o'.xY,b∈o.xY∨m.next≤b
theorem Gs.of {pb:Nat} {o o':Wo} {m m':Mem} (h:Nx o o' m m'):Gs pb o o' m m':=⟨h.w,h.c,h.p,h.P,h.upd.mono fun b hb _=>List.mem_cons.2 (.inr hb),h.grow⟩
theorem Gs.trans {pb:Nat} {o o' o'':Wo} {m m' m'':Mem} (h:Gs pb o o' m m') (k:Gs pb o' o'' m' m''):Gs pb o o'' m m'' :=
 ⟨k.w.trans h.w,k.c.trans h.c,k.p.trans h.p,k.P.trans h.P,h.upd.then' k.upd fun b hb=>(List.mem_cons.1 hb).elim (fun e=>.inl (by simp [e])) fun hb=>(h.grow b hb).imp (fun h=>List.mem_cons.2 (.inr h)) id,fun b hb=>(k.grow b hb).elim (h.grow b) fun hb=>.inr (Nat.le_trans h.upd.next hb)⟩
theorem Gs.put {pb:Nat} {o:Wo} {m m':Mem} (h:Upd [pb] m m'):Gs pb o o m m':=⟨rfl,rfl,rfl,rfl,h.mono fun b hb _=>by simp at hb; simp [hb],fun b hb=>.inl hb⟩
abbrev opV (key val:Bs) (gone:Bool):Value:=.agg #[str key,str val,.bool gone]
theorem PL.zF {pb root:Nat} {a v:Value} {l:List Pr} {m m':Mem} {fp:List Nat} (h:PL pb a root v l m) (hu:Upd fp m m') (h1:pb∉fp) (h2:∀ b∈qe v,b∉fp):PL pb a root v l m' :=
 ⟨(hu.same pb h.lt h1).trans h.g,h.tv.upd hu h2,Nat.lt_of_lt_of_le h.lt hu.next,h.ne⟩
theorem PL.root {pb root root':Nat} {a v:Value} {l:List Pr} {m:Mem} (h:PL pb a root v l m):qi 1 (.pointer (some ⟨pb,0+1,none⟩)) (.int .i64 (root':Int)) m=some (m.put pb (plB a root' v))∧PL pb a root' v l (m.put pb (plB a root' v))∧Upd [pb] m (m.put pb (plB a root' v)) :=
 ⟨zr h.g (by simp) rfl rfl,⟨Mem.qj ..,h.tv.upd (Upd.put (fp:=[pb]) _ _ (by simp)) fun b hb hm=>by simp at hm; subst hm; exact h.ne hb,h.lt,h.ne⟩,Upd.put _ _ (by simp)⟩
def StQ (pb:Nat) (o:Wo) (ns:List St) (v:Value) (U:List Nat) (m:Mem) (r:Value) (m':Mem):Prop :=
 r=.bool true∧∃ o' ns' root' v' l' U',PQ pb o' ns' root' v' l' U' m'∧ns'.length≤ns.length+1∧Gs pb o o' m m'∧Stp o.s o'.s U U'∧∀ b∈qe v',b∈qe v∨m.next≤b
set_option maxRecDepth 4000 in
theorem step_ok {pb:Nat} {o:Wo} {ns:List St} {root:Nat} {v:Value} {l:List Pr} {U:List Nat} {m:Mem} (h:PQ pb o ns root v l U m) (hns:ns.length≤80000) (key val:Bs) (gone:Bool) :
  W (Call S tab 17 [.pointer (some ⟨pb,0,none⟩),opV key val gone] m) (StQ pb o ns v U m):=by
 have hrow:=h.tr.row
 have hfew:=h.tr.few h.wi.wr.hP h.nd
 rw [C17]
 have u1:Upd [] m (m.add ⟨.cells [str key,str val,.bool gone] 42,false,none⟩):=Upd.add _ _ _
 have g1:(m.add ⟨.cells [str key,str val,.bool gone] 42,false,none⟩).get m.next=some ⟨.cells [str key,str val,.bool gone] 42,false,none⟩:=Mem.qk ..
 have n1:(m.add ⟨.cells [str key,str val,.bool gone] 42,false,none⟩).next=m.next+1:=rfl
 simp -implicitDefEqProofs only [st0,qc,reduceIte,qQ]
 generalize (m.add ⟨.cells [str key,str val,.bool gone] 42,false,none⟩)=m1 at u1 g1 n1
 have wi1:=h.wi.qt u1
 have pl1:=h.pl.zF u1 (by simp) (fun _ _=>by simp)
 have ldk:∀ {M:Mem},M.get m.next=some ⟨.cells [str key,str val,.bool gone] 42,false,none⟩→qb (.pointer (some ⟨m.next,0+0,none⟩)) M=some (str key):=fun g=>qu g rfl
 have ldv:∀ {M:Mem},M.get m.next=some ⟨.cells [str key,str val,.bool gone] 42,false,none⟩→qb (.pointer (some ⟨m.next,0+1,none⟩)) M=some (str val):=fun g=>qu g rfl
 have ldg:qb (.pointer (some ⟨m.next,0+2,none⟩)) m1=some (.bool gone):=qu g1 rfl
 have lw:∀ {M:Mem} {a v:Value} {r:Nat},M.get pb=some (plB a r v)→qb (.pointer (some ⟨pb,0+0,none⟩)) M=some a:=fun g=>qu g rfl
 have lr:∀ {M:Mem} {a v:Value} {r:Nat},M.get pb=some (plB a r v)→qb (.pointer (some ⟨pb,0+1,none⟩)) M=some (.int .i64 (r:Int)):=fun g=>qu g rfl
 have d00:decide ((0:Int)=0)=true:=rfl
 have d08:decide ((0:Int)=8)=false:=rfl
 have d88:decide ((8:Int)=8)=true:=rfl
 have d11:decide ((1:Int)=1)=true:=rfl
 have dr:∀ k:Nat,decide ((k:Int)=(k:Int))=true:=fun k=>decide_eq_true rfl
 have eb:∀ b:Bool,kQ false (.bool b) (.bool b)=some (.bool true):=fun b=>by cases b<;>rfl
 have hplt:=h.pl.lt
 have hvlt:=h.pl.tv.lt
 have after:∀ {o':Wo} {m2:Mem},Nx o o' m1 m2→m2.get m.next=some ⟨.cells [str key,str val,.bool gone] 42,false,none⟩∧PL pb (.pointer (some ⟨o.w,0,none⟩)) root v l m2∧(pb∉o'.xY∧pb≠o'.c∧pb≠o'.p)∧(∀ b∈qe v,b∉o'.xY)∧Gs pb o o' m m2:=fun {o' m2} hx=>by
  have hn:=hx.upd.next
  refine ⟨(hx.upd.same _ (by omega) (Wo.KW h.wi (Nat.le_refl _))).trans g1,pl1.zF hx.upd h.pn.1 h.vn,⟨fun hm=>(hx.grow _ hm).elim h.pn.1 (fun h=>by omega),by rw [hx.c]; exact h.pn.2.1,by rw [hx.p]; exact h.pn.2.2⟩,fun b hb hm=>(hx.grow _ hm).elim (h.vn b hb) (fun h=>by have:=hvlt b hb; omega),(Gs.of (Nx.of0 u1)).trans (Gs.of hx)⟩
 cases gone with
 | true =>
  simp -implicitDefEqProofs only [st0,qc,reduceIte,fa,ldg,nck,lw pl1.g,lr pl1.g,ldk g1]
  refine qo.2 ((ZU wi1 (by omega) h.tr h.nd key).mono fun r2 m2 ⟨o',ns',wi2,nx,hl2,hc⟩=>?_)
  obtain ⟨g2,pl2,pn2,vn2,gs2⟩:=after nx
  rcases hc with ⟨c1,rfl,rfl⟩|⟨c1,c2,rfl,c4⟩|⟨c1,root',U',rfl,c2,c3,c4⟩
  ·obtain ⟨s1,pl3,u3⟩:=pl2.root (root':=root)
   have g3:=(u3.same m.next (by have:=nx.upd.next; omega) (by simp; omega)).trans g2
   simp -implicitDefEqProofs only [st0,qc,reduceIte,(ex3 _ _ _).1,(ex3 _ _ _).2.1,(ex3 _ _ _).2.2,d08,nck,fa,s1,d00,ldk g3]
   refine qo.2 (qo.2 ((Xx (key:=key) hrow hfew pl3).mono fun r4 m4 ⟨r4e,v',pl4,vb,u4⟩=>?_))
   subst r4e
   rw [c1]
   simp -implicitDefEqProofs only [st0,qc,reduceIte,eb]
   have hcut:xA l key=l:=by unfold xA; rw [c1,if_neg (by simp)]
   rw [hcut] at pl4
   have uu:=u3.trans u4
   exact ⟨rfl,o',ns',root,v',l,U,⟨wi2.upd uu fun b hb=>by simp at hb; subst hb; exact pn2,pl4,h.tr,h.nd,pn2,fun b hb hm=>(vb b hb).elim (fun h=>vn2 b h hm) fun h=>by have:=wi2.lt b hm; have:=u3.next; omega⟩,by omega,gs2.trans (Gs.put uu),Stp.refl _ _,fun b hb=>(vb b hb).imp id fun h=>by have:=gs2.upd.next; have:=u3.next; omega⟩
  ·simp -implicitDefEqProofs only [st0,qc,reduceIte,(ex3 _ _ _).1,(ex3 _ _ _).2.1,(ex3 _ _ _).2.2,d88,nck,fa,lr pl2.g,dr]
   refine ⟨rfl,o',ns',root,v,l,U,⟨wi2,by rw [nx.w]; exact pl2,by rw [c4]; exact h.tr,h.nd,pn2,vn2⟩,by omega,gs2,by rw [c4]; exact Stp.refl _ _,fun b hb=>.inl hb⟩
  ·obtain ⟨s1,pl3,u3⟩:=pl2.root (root':=root')
   have g3:=(u3.same m.next (by have:=nx.upd.next; omega) (by simp; omega)).trans g2
   simp -implicitDefEqProofs only [st0,qc,reduceIte,(ex3 _ _ _).1,(ex3 _ _ _).2.1,(ex3 _ _ _).2.2,d08,nck,fa,s1,d00,ldk g3]
   refine qo.2 (qo.2 ((Xx (key:=key) hrow hfew pl3).mono fun r4 m4 ⟨r4e,v',pl4,vb,u4⟩=>?_))
   subst r4e
   rw [c1]
   simp -implicitDefEqProofs only [st0,qc,reduceIte,eb]
   have uu:=u3.trans u4
   exact ⟨rfl,o',ns',root',v',xA l key,U',⟨wi2.upd uu fun b hb=>by simp at hb; subst hb; exact pn2,by rw [nx.w]; exact pl4,c2,c4,pn2,fun b hb hm=>(vb b hb).elim (fun h=>vn2 b h hm) fun h=>by have:=wi2.lt b hm; have:=u3.next; omega⟩,by omega,gs2.trans (Gs.put uu),c3,fun b hb=>(vb b hb).imp id fun h=>by have:=gs2.upd.next; have:=u3.next; omega⟩
 | false =>
  simp -implicitDefEqProofs only [st0,qc,reduceIte,fa,ldg,nck,lw pl1.g,lr pl1.g,ldk g1,ldv g1]
  refine qo.2 ((Kf wi1 (by omega) h.tr h.nd key val).mono fun r2 m2 ⟨o',ns',wi2,nx,hl2,hc⟩=>?_)
  obtain ⟨g2,pl2,pn2,vn2,gs2⟩:=after nx
  rcases hc with ⟨c1,rfl,rfl⟩|⟨c1,c2,rfl,c4⟩|⟨c1,root',U',rfl,c2,c3,c4⟩
  ·have hk:=yE key val m2
   rw [decide_eq_false c1] at hk
   simp -implicitDefEqProofs only [st0,qc,reduceIte,xt0,xt1,ldk g2,ldv g2,hk,d11,nck,fa,lr pl2.g,dr]
   exact ⟨rfl,o',ns',root,v,l,U,⟨wi2,pl2,h.tr,h.nd,pn2,vn2⟩,by omega,gs2,Stp.refl _ _,fun b hb=>.inl hb⟩
  ·have hk:=yE key val m2
   rw [decide_eq_true c1] at hk
   simp -implicitDefEqProofs only [st0,qc,reduceIte,xt0,xt1,ldk g2,ldv g2,hk,d88,nck,fa,lr pl2.g,dr]
   exact ⟨rfl,o',ns',root,v,l,U,⟨wi2,by rw [nx.w]; exact pl2,by rw [c4]; exact h.tr,h.nd,pn2,vn2⟩,by omega,gs2,by rw [c4]; exact Stp.refl _ _,fun b hb=>.inl hb⟩
  ·have hk:=yE key val m2
   rw [decide_eq_true c1] at hk
   obtain ⟨s1,pl3,u3⟩:=pl2.root (root':=root')
   have g3:=(u3.same m.next (by have:=nx.upd.next; omega) (by simp; omega)).trans g2
   simp -implicitDefEqProofs only [st0,qc,reduceIte,xt0,xt1,ldk g2,ldv g2,hk,d08,nck,fa,s1,ldk g3,ldv g3]
   refine qo.2 ((qeq (key:=key) (val:=val) hrow hfew pl3).mono fun r4 m4 ⟨r4e,v',pl4,vb,u4⟩=>?_)
   simp -implicitDefEqProofs only [st0,qc,reduceIte,d00]
   have uu:=u3.trans u4
   exact ⟨rfl,o',ns',root',v',xO l key val,U',⟨wi2.upd uu fun b hb=>by simp at hb; subst hb; exact pn2,by rw [nx.w]; exact pl4,c2,c4,pn2,fun b hb hm=>(vb b hb).elim (fun h=>vn2 b h hm) fun h=>by have:=wi2.lt b hm; have:=u3.next; omega⟩,by omega,gs2.trans (Gs.put uu),c3,fun b hb=>(vb b hb).imp id fun h=>by have:=gs2.upd.next; have:=u3.next; omega⟩
end Go.Fx.Tryz
namespace Go.Fx.Tryz
open Go Go.Fx
theorem qdi (w:Nat):qy [.pointer none,.int .i64 0,.slice none 0 0] [(0,1,.pointer (some ⟨w,0,none⟩))]=some [.pointer (some ⟨w,0,none⟩),.int .i64 0,.slice none 0 0]:=by kernel_rfl
theorem qiD (k:Nat):xQ (qq 20) k=false:=by
 unfold xQ
 rw [List.getD_eq_getElem?_getD,qq,List.getElem?_replicate]
 split<;>simp
set_option maxRecDepth 4000 in
theorem qcM (m:Mem):W (Call S tab 11 [] m) fun r m'=>r=.bool true∧Upd [] m m':=by
 have d0:decide ((0:Int)=0)=true:=rfl
 rw [C11]
 refine qo.2 ((Wy (n:=4) (by omega) (by omega) m).mono fun r1 m1 ⟨w,pm,c,p,r1e,wi1,hfr,u1⟩=>?_)
 subst r1e
 have s97:(Value.string ⟨#[97]⟩)=str [97]:=rfl
 have s98:(Value.string ⟨#[98]⟩)=str [98]:=rfl
 have s49:(Value.string ⟨#[49]⟩)=str [49]:=rfl
 have s50:(Value.string ⟨#[50]⟩)=str [50]:=rfl
 simp -implicitDefEqProofs only [st0,qc,reduceIte,Qd,s97,s98,s49,s50]
 have nf:∀ {b:Nat},b∈(kO w pm c p 4).xY→m.next≤b:=fun hb=>by
  simp only [Wo.xY,List.mem_cons,qe,List.not_mem_nil,or_false] at hb
  rcases hb with rfl|rfl
  ·exact hfr.1
  ·exact hfr.2.1
 have k1:Kv [97] [49]:=by decide
 have k2:Kv [98] [50]:=by decide
 refine qo.2 ((Kf wi1 (by simp) (root:=0) (.inl ⟨rfl,rfl,rfl⟩) List.nodup_nil [97] [49]).mono fun r2 m2 ⟨o2,ns2,wi2,nx2,hl2,hc⟩=>?_)
 rcases hc with ⟨h1,_⟩|⟨_,h2,_⟩|⟨_,root2,U2,rfl,t2,st2,nd2⟩
 ·exact absurd k1 h1
 ·rcases h2 with ⟨_,h2⟩|⟨h2,_⟩
  ·have:=h2 1 (by omega) (by show 1<4; omega)
   rw [show (kO w pm c p 4).u=qq 20 from rfl,qiD] at this; cases this
  ·exact absurd rfl h2
 have e2:xO [] [97] [49]=[([97],[49])]:=rfl
 rw [e2] at t2
 have ew2:o2.w=w:=nx2.w
 simp -implicitDefEqProofs only [st0,qc,reduceIte,xt0,xt1]
 have q3:=Kf wi2 (by simp at hl2; omega) t2 nd2 [98] [50]
 rw [ew2] at q3
 refine qo.2 (q3.mono fun r3 m3 ⟨o3,ns3,wi3,nx3,hl3,hc⟩=>?_)
 have e3:xO [([97],[49])] [98] [50]=[([97],[49]),([98],[50])]:=by kernel_rfl
 rw [e3] at hc
 have hr2:root2≠0:=by
  rcases t2 with ⟨_,h,_⟩|⟨g,h⟩
  ·cases h
  ·have:=wz h; omega
 rcases hc with ⟨h1,_⟩|⟨_,h2,_⟩|⟨_,root3,U3,rfl,t3,st3,nd3⟩
 ·exact absurd k2 h1
 ·rcases h2 with ⟨h2,_⟩|⟨_,h2⟩
  ·exact absurd h2 hr2
  ·simp at h2
 have ew3:o3.w=w:=nx3.w.trans ew2
 simp -implicitDefEqProofs only [st0,qc,reduceIte,xt0,xt1]
 have q4:=ZU wi3 (by simp at hl2; omega) t3 nd3 [97]
 rw [ew3] at q4
 refine qo.2 (q4.mono fun r4 m4 ⟨o4,ns4,wi4,nx4,hl4,hc⟩=>?_)
 have e4:zo [([97],[49]),([98],[50])] [97]=true:=by kernel_rfl
 have e4':xA [([97],[49]),([98],[50])] [97]=[([98],[50])]:=by kernel_rfl
 rw [e4,e4'] at hc
 rcases hc with ⟨h1,_⟩|⟨_,h2,_⟩|⟨_,root4,U4,rfl,t4,st4,nd4⟩
 ·cases h1
 ·simp at h2
 have ew4:o4.w=w:=nx4.w.trans ew3
 simp -implicitDefEqProofs only [st0,qc,reduceIte,(ex3 _ _ _).1,(ex3 _ _ _).2.1,(ex3 _ _ _).2.2]
 have q5:=qdc wi4.wr t4 nd4 [98]
 rw [ew4] at q5
 have e5:zo [([98],[50])] [98]=true:=by kernel_rfl
 have e5':VG [([98],[50])] [98]=[50]:=by kernel_rfl
 rw [e5,e5'] at q5
 refine qo.2 (q5.mono fun r5 m5 ⟨r5e,u5⟩=>?_)
 subst r5e
 simp -implicitDefEqProofs only [st0,qc,reduceIte,(ex3 _ _ _).1,(ex3 _ _ _).2.1,(ex3 _ _ _).2.2]
 have q6:=Xd (wi4.qt u5).wr t4 nd4
 rw [ew4] at q6
 refine qo.2 (q6.mono fun r6 m6 ⟨dep,r6e,u6,hdep⟩=>?_)
 subst r6e
 have hdu:dep=1∧U4.length=1:=by
  rcases hdep with ⟨_,h,_⟩|⟨h1,h2,h3,h4,h5⟩
  ·cases h
  ·simp at h3 h4
   refine ⟨?_,by omega⟩
   rcases Nat.lt_or_ge dep 2 with h|h
   ·omega
   ·have:2 ^ 1≤2 ^ (dep - 1):=Nat.pow_le_pow_right (by omega) (by omega)
    omega
 obtain ⟨rfl,hU⟩:=hdu
 rw [hU]
 have es:arith .eql (str [50]) (str [50])=some (.bool true):=(wa [50] [50]).trans (by simp)
 have d1:decide ((((1:Nat):Int))=1)=true:=rfl
 simp -implicitDefEqProofs only [st0,qc,reduceIte,(ex3 _ _ _).1,(ex3 _ _ _).2.1,(ex3 _ _ _).2.2,d0,d1,es]
 have nx:=(nx2.trans nx3).trans nx4
 exact ⟨trivial,((u1.then' nx.upd fun b hb=>.inr (nf hb)).qD u5).qD u6⟩
structure Opp where
 key:Bs
 val:Bs
 gone:Bool
def yM:Enc Opp:=⟨3,fun o=>[str o.key,str o.val,.bool o.gone],fun _=>rfl,fun _=>rfl⟩
theorem qbN:yM.size=3:=rfl
theorem YT (n:Int) (m:Mem):∃ P:Nat,1≤P∧P≤160∧Call S tab 13 [.int .i64 n] m=some (.int .i64 (P:Int),m):=by
 have h0:0≤n % (2 ^ 64:Int)∧n % (2 ^ 64:Int)<2 ^ 64:=⟨Int.emod_nonneg _ (by decide),Int.emod_lt_of_pos _ (by decide)⟩
 have e1:zs .u64 (.int .i64 n)=some (.int .u64 (n % (2 ^ 64:Int))):=rfl
 generalize n % (2 ^ 64:Int)=x at h0 e1
 have e2:arith .rem (.int .u64 x) (.int .u64 160)=some (.int .u64 (x % 160)):=by
  have h:x.tmod 160=x % 160:=by rw [Int.tmod_eq_emod_of_nonneg h0.1]
  have z:¬ ((160:Int)=0):=by omega
  simp only [arith,iop,if_true,if_neg z,h]
 have e3:zs .i64 (.int .u64 (x % 160))=some (.int .i64 (x % 160)):=Qv .u64 (by omega) (by omega)
 have e4:arith .add (.int .i64 1) (.int .i64 (x % 160))=some (.int .i64 (1+x % 160)):=KU (by omega) (by omega)
 refine ⟨1+(x % 160).toNat,by omega,by omega,W_eq ?_⟩
 rw [C13]
 have e5:((1+(x % 160).toNat:Nat):Int)=1+x % 160:=by omega
 simp -implicitDefEqProofs only [st0,qc,reduceIte,e1,e2,e3,e4,e5]
 exact ⟨trivial,trivial⟩
theorem WK {m0:Mem} {s:Value} {ops:List Opp} (h:TSl yM m0 s ops):∃ s',(∀ m,Call S tab 14 [s] m=some (s',m))∧TSl yM m0 s' (ops.take 250)∧qe s'=qe s:=by
 by_cases hc:(250:Int)<(ops.length:Int)
 ·obtain ⟨s',h1,h2,h3⟩:=h.VH (k:=250) (by omega)
  refine ⟨s',fun m=>W_eq ?_,h2,h3⟩
  rw [C14]
  have hl:=h.len
  have h1:qz 3 s none (some (.int .i64 250)) m=some s':=h1 m
  have e1:((250:Int)<(ops.length:Int))=True:=eq_true hc
  simp -implicitDefEqProofs only [st0,qc,reduceIte,hl,e1,h1]
  exact ⟨trivial,trivial⟩
 ·obtain ⟨s',h1,h2,h3⟩:=h.VH (k:=ops.length) (Nat.le_refl _)
  rw [List.take_of_length_le (Nat.le_refl _)] at h2
  refine ⟨s',fun m=>W_eq ?_,by rw [List.take_of_length_le (by omega)]; exact h2,h3⟩
  rw [C14]
  have hl:=h.len
  have h1:qz 3 s none (some (.int .i64 (ops.length:Int))) m=some s':=h1 m
  have e1:((250:Int)<(ops.length:Int))=False:=eq_false hc
  simp -implicitDefEqProofs only [st0,qc,reduceIte,hl,e1,h1]
  exact ⟨trivial,trivial⟩
def Own (o:Wo) (U:List Nat):Prop:=∀ k,o.s k≠none→k∈U
theorem Own.step {o o':Wo} {U U':List Nat} (h:Own o U) (hs:Stp o.s o'.s U U'):Own o' U':=fun k hk=>by
 by_cases h1:k∈U'
 ·exact h1
 ·by_cases h2:k∈U
  ·exact absurd (hs.gone k h2 h1) hk
  ·rw [hs.out k h2 h1] at hk; exact absurd (h k hk) h2
theorem Own.used {o:Wo} {U:List Nat} (h:Own o U) (hf:Fu o) (hnd:U.Nodup) (hu:∀ q∈U,o.s q≠none):o.used=1+U.length :=
 qeg hnd fun k=>⟨fun hk=>h k (by
  have:=hf k
  rw [hk] at this
  intro e; rw [e] at this; cases this),fun hk=>Fu.some (hu k hk)⟩
structure Lw (m0:Mem) (pb:Nat) (o:Wo) (ns:List St) (root:Nat) (v:Value) (l:List Pr) (U:List Nat) (m:Mem):Prop where
 q:PQ pb o ns root v l U m
 pb0:m0.next≤pb
 ft:∀ b∈o.xY,m0.next≤b
 v0:∀ b∈qe v,m0.next≤b
 up:Upd [] m0 m
theorem Lw.fresh {m0 m1:Mem} {w pm c p P:Nat} (wi:WI (kO w pm c p P) [] m1) (hfr:m0.next≤w∧m0.next≤pm∧m0.next≤c∧m0.next≤p) (u1:Upd [] m0 m1):Lw m0 m1.next (kO w pm c p P) [] 0 (.slice none 0 0) [] [] (m1.add (plB (.pointer (some ⟨w,0,none⟩)) 0 (.slice none 0 0))):=by
 have u2:Upd [] m1 (m1.add (plB (.pointer (some ⟨w,0,none⟩)) 0 (.slice none 0 0))):=Upd.add _ _ _
 have lc:=wi.wr.lc; have lp:=wi.wr.lp
 have lc:c<m1.next:=lc
 have lp:p<m1.next:=lp
 refine ⟨⟨wi.qt u2,⟨Mem.qk ..,TAp.nil _,by show m1.next<m1.next+1; omega,by simp [qe]⟩,.inl ⟨rfl,rfl,rfl⟩,List.nodup_nil,⟨fun hm=>by have:=wi.lt _ hm; omega,by show m1.next≠c; omega,by show m1.next≠p; omega⟩,fun b hb=>by simp [qe] at hb⟩,u1.next,fun b hb=>?_,fun b hb=>by simp [qe] at hb,u1.qD u2⟩
 simp only [Wo.xY,List.mem_cons,qe,List.not_mem_nil,or_false] at hb
 rcases hb with rfl|rfl
 ·exact hfr.1
 ·exact hfr.2.1
theorem qiS (w pm c p P:Nat):Own (kO w pm c p P) []:=fun k hk=>by
 apply absurd _ hk
 unfold Wo.s Wo.has
 simp [qiD]
theorem qgF {m:Mem} {s:Value} {ops:List Opp} (h:TSl yM m s ops) {i:Nat} (hi:i<ops.length):∃ p,ql 3 s (.int .i64 (i:Int))=some p∧∀ M,TSl yM M s ops→qm 3 p M=some (opV ops[i].key ops[i].val ops[i].gone):=by
 obtain ⟨b,off,h1,h2⟩:=h.at .i64 (ja hi)
 rw [qbN] at h1 h2
 exact ⟨_,h1,fun M hM=>(h2 M hM).1⟩
end Go.Fx.Tryz
namespace Go.Fx.Tryz
open Go Go.Fx
theorem qhp:(Value.string ⟨#[]⟩)=str []:=rfl
theorem wY {pb root:Nat} {a v:Value} {M:Mem} (g:M.get pb=some (plB a root v)):qb (.pointer (some ⟨pb,0+0,none⟩)) M=some a∧qb (.pointer (some ⟨pb,0+1,none⟩)) M=some (.int .i64 (root:Int))∧qb (.pointer (some ⟨pb,0+2+0,none⟩)) M=some v:=⟨qu g rfl,qu g rfl,qu g rfl⟩
theorem Jv (l:List Pr):xo l [] []=l:=by
 unfold xo
 refine filter_all fun x hx=>?_
 have:ltB x.1 []=false:=(XF x.1).1
 simp [inF,this]
theorem PL.qt {pb root:Nat} {a v:Value} {l:List Pr} {m m':Mem} (h:PL pb a root v l m) (hu:Upd [] m m'):PL pb a root v l m':=h.zF hu (by simp) (fun _ _=>by simp)
theorem TSl.up {α:Type} {E:Enc α} {m m':Mem} {v:Value} {l:List α} (h:TSl E m v l) (hu:Upd [] m m') (hb:∀ b∈qe v,b<m.next):TSl E m' v l:=h.upd hu fun b hb'=>⟨hb b hb',by simp⟩
end Go.Fx.Tryz
namespace Go.Fx.Tryz
open Go Go.Fx
end Go.Fx.Tryz
namespace Go.Fx.Tryz
open Go Go.Fx
set_option maxRecDepth 100000 in
theorem qhu {B:Nat} {m:Mem} {cs:List Value} (h:WTB Proofs.Tryz.prog B m 3 42 cs):∃ o:Opp,cs=yM.cells o∧True:=by
 obtain ⟨p1,r1,rfl,h1,p2,r2,rfl,h2,p3,r3,rfl,h3,rfl⟩:=WT.qel (ts:=[9,9,4]) (by kernel_rfl) h
 obtain ⟨s1,rfl,_⟩:=WT.string (by kernel_rfl) h1
 obtain ⟨s2,rfl,_⟩:=WT.string (by kernel_rfl) h2
 obtain ⟨b,rfl⟩:=WT.bool (by kernel_rfl) h3
 exact ⟨⟨s1.data.toList,s2.data.toList,b⟩,by rw [str_eta s1,str_eta s2]; rfl,trivial⟩
set_option maxRecDepth 100000 in
theorem ops_of {B:Nat} {m:Mem} {v:Value} (h:WTB Proofs.Tryz.prog B m 4 22 v.cells.toList) (hna:aggT Proofs.Tryz.prog 22=some false→∀ xs,v≠.agg xs) :
  ∃ L:List Opp,TSl yM m v L∧(∀ b∈qe v,b<m.next):=by
 obtain ⟨l,h1,h2,h3,h4⟩:=WT.qgB yM (e:=42) (p:=fun _=>True) (by kernel_rfl) (by kernel_rfl) (by decide) (by kernel_rfl) (fun cs h=>qhu h) h (hna (by kernel_rfl))
 exact ⟨l,h1,h3⟩
end Go.Fx.Tryz
namespace Go.Fx.Tryz
open Go
end Go.Fx.Tryz
namespace Go.Fx.Tryz
open Go Go.Fx
theorem PQ.qt {pb:Nat} {o:Wo} {ns:List St} {root:Nat} {v:Value} {l:List Pr} {U:List Nat} {m m':Mem} (h:PQ pb o ns root v l U m) (u:Upd [] m m'):PQ pb o ns root v l U m':=⟨h.wi.qt u,h.pl.qt u,h.tr,h.nd,h.pn,h.vn⟩
theorem PQ.other {pb pb':Nat} {o o2:Wo} {ns ns2:List St} {root root' root2:Nat} {v v' v2:Value} {l l' l2:List Pr} {U U' U2:List Nat} {m m2:Mem} (h:PQ pb o ns root v l U m) (k:PQ pb' o ns root' v' l' U' m) (hd:∀ q∈U',q∉U) (hne:pb'≠pb) (hv:pb∉qe v')
  (h2:PQ pb o2 ns2 root2 v2 l2 U2 m2) (g:Gs pb o o2 m m2) (st:Stp o.s o2.s U U2):PQ pb' o2 ns2 root' v' l' U' m2∧(∀ q∈U',q∉U2):=by
 have kp:∀ q∈U',o2.s q=o.s q∧q∉U2:=fun q hq=>st.zF (hd q hq) (k.tr.used q hq)
 have hlt:pb'<m.next:=k.pl.lt
 refine ⟨⟨h2.wi,?_,k.tr.zF fun q hq=>(kp q hq).1,k.nd,⟨fun hm=>(g.grow _ hm).elim k.pn.1 (fun h=>by omega),by rw [g.c]; exact k.pn.2.1,by rw [g.p]; exact k.pn.2.2⟩,fun b hb hm=>(g.grow b hm).elim (k.vn b hb) (fun h=>by have:=k.pl.tv.lt b hb; omega)⟩,fun q hq=>(kp q hq).2⟩
 rw [g.w]
 exact k.pl.zF g.upd (by simp only [List.mem_cons,not_or]; exact ⟨hne,k.pn.1⟩) (fun b hb hm=>(List.mem_cons.1 hm).elim (fun e=>hv (e ▸ hb)) (k.vn b hb))
structure Two (m0:Mem) (pb pb':Nat) (o:Wo) (ns:List St) (root:Nat) (v:Value) (l:List Pr) (U:List Nat) (root':Nat) (v':Value) (l':List Pr) (U':List Nat) (m:Mem):Prop where
 x:PQ pb o ns root v l U m
 y:PQ pb' o ns root' v' l' U' m
 dj:∀ q∈U',q∉U
 ne:pb'≠pb
 xv:pb'∉qe v
 yv:pb∉qe v'
 own:Own o (U++U')
 hP:1≤o.P
 b0:m0.next≤pb
 b0':m0.next≤pb'
 ft:∀ b∈o.xY,m0.next≤b
 up:Upd [] m0 m
section
variable {m0:Mem} {pb pb':Nat} {o:Wo} {ns:List St} {root:Nat} {v:Value} {l:List Pr} {U:List Nat} {root':Nat} {v':Value} {l':List Pr} {U':List Nat} {m:Mem}
theorem Two.swap (t:Two m0 pb pb' o ns root v l U root' v' l' U' m):Two m0 pb' pb o ns root' v' l' U' root v l U m :=
 ⟨t.y,t.x,fun q hq hq'=>t.dj q hq' hq,t.ne.symm,t.yv,t.xv,fun k hk=>(List.mem_append.1 (t.own k hk)).elim (fun h=>List.mem_append.2 (.inr h)) (fun h=>List.mem_append.2 (.inl h)),t.hP,t.b0',t.b0,t.ft,t.up⟩
theorem Two.qt (t:Two m0 pb pb' o ns root v l U root' v' l' U' m) {m':Mem} (u:Upd [] m m'):Two m0 pb pb' o ns root v l U root' v' l' U' m' :=
 ⟨t.x.qt u,t.y.qt u,t.dj,t.ne,t.xv,t.yv,t.own,t.hP,t.b0,t.b0',t.ft,t.up.qD u⟩
theorem Two.step (t:Two m0 pb pb' o ns root v l U root' v' l' U' m) {r:Value} {m':Mem} (hq:StQ pb o ns v U m r m') :
  r=.bool true∧∃ o2 ns2 root2 v2 l2 U2,Two m0 pb pb' o2 ns2 root2 v2 l2 U2 root' v' l' U' m'∧ns2.length≤ns.length+1:=by
 obtain ⟨e,o2,ns2,root2,v2,l2,U2,a1,a2,a3,a4,a5⟩:=hq
 obtain ⟨b1,b2⟩:=PQ.other t.x t.y t.dj t.ne t.yv a1 a3 a4
 have hn:=t.up.next
 refine ⟨e,o2,ns2,root2,v2,l2,U2,⟨a1,b1,b2,t.ne,fun hm=>(a5 _ hm).elim t.xv (fun h=>by have:=t.y.pl.lt; omega),t.yv,t.own.step (a4.ctx (T:=U') (fun q=>List.mem_append) (fun q=>List.mem_append)),by rw [a3.P]; exact t.hP,t.b0,t.b0',fun b hb=>(a3.grow b hb).elim (t.ft b) (fun h=>by omega),t.up.then' a3.upd fun b hb=>.inr ?_⟩,a2⟩
 rcases List.mem_cons.1 hb with rfl|hb
 ·exact t.b0
 ·exact t.ft b hb
theorem PQ.low (h:PQ pb o ns root v l U m):U.length≤200:=by
 rcases h.tr with ⟨_,_,h'⟩|⟨g,h'⟩
 ·rw [h']; simp
 ·have:=(yQ h.wi.wr.hP h' h.nd).2; omega
theorem HE (t:Two m0 pb pb' o ns root v l U root' v' l' U' m):W (qhh (.pointer (some ⟨pb,0,none⟩)) (.pointer (some ⟨pb',0,none⟩)) m) fun r _=>r=.bool true:=by
 have d0:decide ((0:Int)=0)=true:=rfl
 have hx:=t.x.tr.few t.x.wi.wr.hP t.x.nd
 have hy:=t.y.tr.few t.y.wi.wr.hP t.y.nd
 obtain ⟨l0,l1,l2⟩:=wY t.x.pl.g
 rw [P7_1_eq]
 simp -implicitDefEqProofs only [st0,qc,reduceIte,nck,fa,l0,l1,qhp]
 refine qo.2 ((HJ t.x.wi.wr t.x.tr t.x.nd [] []).mono fun r1 m1 ⟨w,r1e,tw,wb,u1⟩=>?_)
 subst r1e
 rw [Jv] at tw
 have t1:=t.qt u1
 obtain ⟨l0,l1,l2⟩:=wY t1.y.pl.g
 simp -implicitDefEqProofs only [st0,qc,reduceIte,xt0,xt1,nck,fa,l0,l1,qhp]
 refine qo.2 ((HJ t1.y.wi.wr t1.y.tr t1.y.nd [] []).mono fun r2 m2 ⟨w',r2e,tw',wb',u2⟩=>?_)
 subst r2e
 rw [Jv] at tw'
 have t2:=t1.qt u2
 obtain ⟨l0,l1,l2⟩:=wY t2.x.pl.g
 simp -implicitDefEqProofs only [st0,qc,reduceIte,xt0,xt1,nck,fa,l0,l1]
 refine qo.2 ((Xd t2.x.wi.wr t2.x.tr t2.x.nd).mono fun r3 m3 ⟨dep,r3e,u3,_⟩=>?_)
 subst r3e
 have t3:=t2.qt u3
 obtain ⟨l0,l1,l2⟩:=wY t3.y.pl.g
 simp -implicitDefEqProofs only [st0,qc,reduceIte,(ex3 _ _ _).1,(ex3 _ _ _).2.1,(ex3 _ _ _).2.2,nck,fa,l0,l1]
 refine qo.2 ((Xd t3.y.wi.wr t3.y.tr t3.y.nd).mono fun r4 m4 ⟨dep',r4e,u4,_⟩=>?_)
 subst r4e
 have t4:=t3.qt u4
 have tw4:=((tw.upd u2 (fun _ _=>by simp)).upd u3 (fun _ _=>by simp)).upd u4 (fun _ _=>by simp)
 have tw4':=(tw'.upd u3 (fun _ _=>by simp)).upd u4 (fun _ _=>by simp)
 obtain ⟨j0,j1,j2⟩:=wY t4.x.pl.g
 obtain ⟨k0,k1,k2⟩:=wY t4.y.pl.g
 have same1:=HK (lo:=0) (by omega) (tw4.rsl fun b _=>Nat.zero_le _) t4.x.pl.rs
 have same2:=HK (lo:=0) (by omega) (tw4'.rsl fun b _=>Nat.zero_le _) t4.y.pl.rs
 have hused:=qef t4.x.wi.wr t.hP
 have hnd:(U++U').Nodup:=List.nodup_append.2 ⟨t.x.nd,t.y.nd,fun a ha b hb e=>t.dj b hb (e ▸ ha)⟩
 rw [t.own.used t.x.wi.fu hnd (fun q hq=>(List.mem_append.1 hq).elim (t.x.tr.used q) (t.y.tr.used q)),List.length_append] at hused
 have hlx:=t.x.low
 have hly:=t.y.low
 have e2:arith .add (.int .i64 1) (.int .i64 (U.length:Int))=some (.int .i64 ((1+U.length:Nat):Int)):=addN (i:=1) (by omega)
 have e3:arith .add (.int .i64 ((1+U.length:Nat):Int)) (.int .i64 (U'.length:Int))=some (.int .i64 ((1+(U.length+U'.length):Nat):Int)):=by rw [← Nat.add_assoc]; exact addN (by omega)
 have e4:decide (((1+(U.length+U'.length):Nat):Int)=((1+(U.length+U'.length):Nat):Int))=true:=decide_eq_true rfl
 simp -implicitDefEqProofs only [st0,qc,reduceIte,(ex3 _ _ _).1,(ex3 _ _ _).2.1,(ex3 _ _ _).2.2,d0,nck,fa,j2,same1,k2,same2,j0,hused,e2,e3,e4]
end
set_option maxRecDepth 4000 in
theorem qcn {m0:Mem} {s s':Value} {a b:List Opp} (ha:TSl yM m0 s a) (hsa:∀ c∈qe s,c<m0.next) (hb:TSl yM m0 s' b) (hsb:∀ c∈qe s',c<m0.next) (hla:a.length≤250) (hlb:b.length≤250) {pb pb':Nat} :
  ∀ (n i:Nat) (o:Wo) (ns:List St) (root:Nat) (v:Value) (l:List Pr) (U:List Nat) (root':Nat) (v':Value) (l':List Pr) (U':List Nat) (m:Mem),a.length - i≤n→b.length - i≤n→i≤250→Two m0 pb pb' o ns root v l U root' v' l' U' m→ns.length≤2 * i →
  W (qfj s s' (.pointer (some ⟨pb,0,none⟩)) (.pointer (some ⟨pb',0,none⟩)) (.int .i64 (i:Int)) m) fun r _=>r=.bool true:=by
 have lea:=ha.len
 have leb:=hb.len
 intro n
 induction n with
 | zero =>
  intro i o ns root v l U root' v' l' U' m h1 h2 hi t hns
  have e1:((i:Int)<(a.length:Int))=False:=eq_false (by omega)
  have e2:((i:Int)<(b.length:Int))=False:=eq_false (by omega)
  rw [P7_0_eq]
  simp -implicitDefEqProofs only [st0,qc,reduceIte,lea,leb,e1,e2]
  exact HE t
 | succ n ih =>
  intro i o ns root v l U root' v' l' U' m h1 h2 hi t hns
  have hsm:TSl yM m s a:=ha.upd t.up fun b hb=>⟨hsa b hb,by simp⟩
  have hsn:TSl yM m s' b:=hb.upd t.up fun b hb=>⟨hsb b hb,by simp⟩
  rw [P7_0_eq]
  by_cases c1:i<a.length
  ·have e1:((i:Int)<(a.length:Int))=True:=eq_true (by omega)
   obtain ⟨p,y1,y2⟩:=qgF hsm c1
   simp -implicitDefEqProofs only [st0,qc,reduceIte,lea,e1,y1,y2 m hsm]
   refine qo.2 (qo.2 ((step_ok t.x (by omega) a[i].key a[i].val a[i].gone).mono fun r m' hst=>?_))
   obtain ⟨rfl,o2,ns2,root2,v2,l2,U2,t2,hns2⟩:=t.step hst
   by_cases c2:i<b.length
   ·have e2:((i:Int)<(b.length:Int))=True:=eq_true (by omega)
    have hsn2:TSl yM m' s' b:=hb.upd t2.up fun b hb=>⟨hsb b hb,by simp⟩
    obtain ⟨q,z1,z2⟩:=qgF hsn2 c2
    simp -implicitDefEqProofs only [st0,qc,reduceIte,leb,e2,z1,z2 m' hsn2]
    refine qo.2 (qo.2 ((step_ok t2.y (by omega) b[i].key b[i].val b[i].gone).mono fun r3 m3 hst3=>?_))
    obtain ⟨rfl,o3,ns3,root3,v3,l3,U3,t3,hns3⟩:=t2.swap.step hst3
    simp -implicitDefEqProofs only [st0,qc,reduceIte,qE (i:=i) (by omega)]
    exact ih (i+1) _ _ _ _ _ _ _ _ _ _ m3 (by omega) (by omega) (by omega) t3.swap (by omega)
   ·have e2:((i:Int)<(b.length:Int))=False:=eq_false (by omega)
    simp -implicitDefEqProofs only [st0,qc,reduceIte,leb,e2,qE (i:=i) (by omega)]
    exact ih (i+1) _ _ _ _ _ _ _ _ _ _ m' (by omega) (by omega) (by omega) t2 (by omega)
  ·have e1:((i:Int)<(a.length:Int))=False:=eq_false (by omega)
   by_cases c2:i<b.length
   ·have e2:((i:Int)<(b.length:Int))=True:=eq_true (by omega)
    obtain ⟨q,z1,z2⟩:=qgF hsn c2
    simp -implicitDefEqProofs only [st0,qc,reduceIte,lea,e1,leb,e2,z1,z2 m hsn]
    refine qo.2 (qo.2 ((step_ok t.y (by omega) b[i].key b[i].val b[i].gone).mono fun r3 m3 hst3=>?_))
    obtain ⟨rfl,o3,ns3,root3,v3,l3,U3,t3,hns3⟩:=t.swap.step hst3
    simp -implicitDefEqProofs only [st0,qc,reduceIte,qE (i:=i) (by omega)]
    exact ih (i+1) _ _ _ _ _ _ _ _ _ _ m3 (by omega) (by omega) (by omega) t3.swap (by omega)
   ·have e2:((i:Int)<(b.length:Int))=False:=eq_false (by omega)
    simp -implicitDefEqProofs only [st0,qc,reduceIte,lea,leb,e1,e2]
    exact HE t
theorem twoLaw {m:Mem} {s s2:Value} {a b:List Opp} (n:Int) (h:TSl yM m s a) (hs:∀ b∈qe s,b<m.next) (k:TSl yM m s2 b) (hk:∀ b∈qe s2,b<m.next):W (Call S tab 7 [.int .i64 n,s,s2] m) fun r _=>r=.bool true:=by
 rw [C7]
 refine qo.2 ((qcM m).mono fun r1 m1 ⟨r1e,u1⟩=>?_)
 subst r1e
 obtain ⟨P,hP1,hP2,hpg⟩:=YT n m1
 have h1:=TSl.up h u1 hs
 have k1:=TSl.up k u1 hk
 obtain ⟨s',he1,he2,he3⟩:=WK h1
 obtain ⟨s2',ke1,ke2,ke3⟩:=WK k1
 have hs1:∀ b∈qe s',b<m1.next:=fun b hb=>by have:=hs b (by rw [← he3]; exact hb); have:=u1.next; omega
 have hk1:∀ b∈qe s2',b<m1.next:=fun b hb=>by have:=hk b (by rw [← ke3]; exact hb); have:=u1.next; omega
 simp -implicitDefEqProofs only [st0,qc,reduceIte,hpg,he1,ke1]
 refine qo.2 ((Wy hP1 hP2 m1).mono fun r2 m2 ⟨w,pm,c,p,r2e,wi2,hfr,u2⟩=>?_)
 subst r2e
 have hw:=Lw.fresh wi2 hfr u2
 have eblk:(⟨.cells [.pointer (some ⟨w,0,none⟩),.int .i64 0,.slice none 0 0] 36,false,none⟩:ABlk)=plB (.pointer (some ⟨w,0,none⟩)) 0 (.slice none 0 0):=rfl
 have lw:qb (.pointer (some ⟨m2.next,0+0,none⟩)) (m2.add (plB (.pointer (some ⟨w,0,none⟩)) 0 (.slice none 0 0)))=some (.pointer (some ⟨w,0,none⟩)):=qu hw.q.pl.g rfl
 simp -implicitDefEqProofs only [st0,qc,reduceIte,qdi,qQ,nck,fa]
 rw [eblk]
 simp -implicitDefEqProofs only [st0,qc,reduceIte,lw,qdi,qQ]
 rw [eblk]
 have n3:(m2.add (plB (.pointer (some ⟨w,0,none⟩)) 0 (.slice none 0 0))).next=m2.next+1:=rfl
 generalize (m2.add (plB (.pointer (some ⟨w,0,none⟩)) 0 (.slice none 0 0)))=m3 at hw lw n3
 have u3:Upd [] m3 (m3.add (plB (.pointer (some ⟨w,0,none⟩)) 0 (.slice none 0 0))):=Upd.add _ _ _
 have lc:=hw.q.wi.wr.lc; have lp:=hw.q.wi.wr.lp
 have lc:c<m3.next:=lc
 have lp:p<m3.next:=lp
 have wl:∀ b∈(kO w pm c p P).xY,b<m3.next:=hw.q.wi.lt
 have hn:=hw.up.next
 refine qcn he2 hs1 ke2 hk1 (by rw [List.length_take]; omega) (by rw [List.length_take]; omega) 250 0 (kO w pm c p P) [] 0 (.slice none 0 0) [] [] 0 (.slice none 0 0) [] [] (m3.add (plB (.pointer (some ⟨w,0,none⟩)) 0 (.slice none 0 0))) (by rw [List.length_take]; omega) (by rw [List.length_take]; omega) (by omega)
  ⟨hw.q.qt u3,⟨hw.q.wi.qt u3,⟨Mem.qk ..,TAp.nil _,by show m3.next<m3.next+1; omega,by simp [qe]⟩,.inl ⟨rfl,rfl,rfl⟩,List.nodup_nil,⟨fun hm=>by have:=wl _ hm; omega,by show m3.next≠c; omega,by show m3.next≠p; omega⟩,fun b hb=>by simp [qe] at hb⟩,(fun q hq=>by cases hq),by omega,by simp [qe],by simp [qe],qiS w pm c p P,hP1,hw.pb0,by omega,hw.ft,hw.up.qD u3⟩ (by simp)
end Go.Fx.Tryz
