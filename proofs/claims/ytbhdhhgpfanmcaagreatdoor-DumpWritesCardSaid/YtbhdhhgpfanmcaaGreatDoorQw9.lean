/- Parts of a proof: FxDen, FxLib, FxTyp, FxDr, FxLive. Conditions: none. -/
import Derived.Test.YtbhdhhgpfanmcaaGreatDoorQw8
set_option linter.unusedSimpArgs false
set_option linter.unusedVariables false
namespace Go.Fx
open Go
def LeC (c d:zj):Prop:=∀ f a m r,c f a m=some r->d f a m=some r
theorem kN {c d:zj} (h:LeC c d) {ts:List Value} {m:Mem} {o:AOp} {r:Value × Mem} (e:zA c ts m o=some r):zA d ts m o=some r:=by
 cases o<;>try exact e
 ·simp only [zA,bsI] at e ⊢;obtain ⟨l,hl,e⟩:=e;exact ⟨l,hl,h _ _ _ _ e⟩
 ·simp only [zA,bsI] at e ⊢;obtain ⟨v,hv,p,hp,l,hl,e⟩:=e;exact ⟨v,hv,p,hp,l,hl,h _ _ _ _ e⟩
theorem jP {c d:zj} (h:LeC c d):∀ {ops:List AOper} {ts:List Value} {m:Mem} {r:List Value × Mem},xc c ops ts m=some r->xc d ops ts m=some r
 | [],_,_,_,e=>e
 | o::ops,ts,m,r,e=>by
  simp only [xc] at e ⊢;split
  ·rename_i hw;rw [if_pos hw] at e;simp only [bsI] at e ⊢;obtain ⟨p,hp,e⟩:=e;exact ⟨p,kN h hp,jP h e⟩
  ·rename_i hw;rw [if_neg hw] at e;exact jP h e
theorem jj {c d:zj} (h:LeC c d):∀ {ops:List AOper} {lh:List (Nat × Nat)} {ts:List Value} {m:Mem} {r:Tr},xQ c ops lh ts m=some r->xQ d ops lh ts m=some r
 | [],_,_,_,_,e=>e
 | o::ops,lh,ts,m,r,e=>by
  simp only [xQ] at e ⊢;split
  ·rename_i hw;rw [if_pos hw] at e;split
   ·rename_i hc;rw [hc] at e;simp only [bsI,msI] at e ⊢;obtain ⟨p,hp,x,hx,rfl⟩:=e;exact ⟨p,kN h hp,x,jj h hx,rfl⟩
   ·rename_i hc;rw [hc] at e;simp only [bsI,msI] at e ⊢;obtain ⟨q,hq,v,hv,x,hx,rfl⟩:=e;exact ⟨q,hq,v,hv,x,jj h hx,rfl⟩
   ·rename_i hc;rw [hc] at e;simp only [bsI] at e ⊢;obtain ⟨p,hp,e⟩:=e;exact ⟨p,hp,jj h e⟩
  ·rename_i hw;rw [if_neg hw] at e;split
   ·rename_i hc;rw [hc] at e;simp only [msI] at e ⊢;obtain ⟨x,hx,rfl⟩:=e;exact ⟨x,jj h hx,rfl⟩
   ·rename_i hc;split at e
    ·rename_i hc'; exact absurd hc' hc
    ·exact jj h e
theorem yC {c d:zj} (h:LeC c d) {ops:List AOper} {lh:List (Nat × Nat)} {ts:List Value} {m:Mem} {r:List Value × Mem} (e:kQ c ops lh ts m=some r):kQ d ops lh ts m=some r:=by
 simp only [kQ,bsI] at e ⊢;obtain ⟨x,hx,e⟩:=e;exact ⟨x,jj h hx,e⟩
theorem wL {f g:List Value->Mem->Option Out} (h:∀ ts m r,f ts m=some r->g ts m=some r):∀ {n k:Nat} {ts:List Value} {m:Mem} {r:Out},n<=k->kU f n ts m=some r->kU g k ts m=some r
 | 0,_,_,_,_,_,e=>by simp [kU] at e
 | n+1,k,ts,m,r,hk,e=>by
  obtain ⟨j,rfl⟩:∃ j,k=j+1:=⟨k - 1,by omega⟩;simp only [kU,bsI] at e ⊢;obtain ⟨⟨e1,ts1,m1⟩,h1,e⟩:=e;refine ⟨_,h _ _ _ h1,?_⟩;cases e1 with
  | normal=>exact wL h (by omega) e
  | exit _=>exact e
  | ret=>exact e
theorem jS {c d:zj} (h:LeC c d) {n k:Nat} (hk:n<=k):∀ {a:ACode} {ts:List Value} {m:Mem} {r:Out},exec c n a ts m=some r->exec d k a ts m=some r:=by
 intro a
 induction a with
 | skip=>intro ts m r e; exact e
 | exit id=>intro ts m r e; exact e
 | ret=>intro ts m r e; exact e
 | stop=>intro ts m r e; exact e
 | region ops =>
  intro ts m r e;simp only [exec,msI] at e ⊢;obtain ⟨x,hx,rfl⟩:=e;exact ⟨x,jP h hx,rfl⟩
 | draw ops lh =>
  intro ts m r e;simp only [exec,msI] at e ⊢;obtain ⟨x,hx,rfl⟩:=e;exact ⟨x,yC h hx,rfl⟩
 | drawF ops lh =>
  intro ts m r e;simp only [exec,msI] at e ⊢;obtain ⟨x,hx,rfl⟩:=e;exact ⟨x,yC h hx,rfl⟩
 | seq x y ihx ihy =>
  intro ts m r e;simp only [exec,bsI] at e ⊢;obtain ⟨⟨e1,ts1,m1⟩,h1,e⟩:=e;refine ⟨_,ihx h1,?_⟩;cases e1 with
  | normal=>exact ihy e
  | exit _=>exact e
  | ret=>exact e
 | cond x p q ihp ihq =>
  intro ts m r e;simp only [exec,bsI] at e ⊢;obtain ⟨v,hv,t,ht,e⟩:=e;refine ⟨v,hv,t,ht,?_⟩;cases t
  ·exact ihq e
  ·exact ihp e
 | block id x ih =>
  intro ts m r e;simp only [exec,msI] at e ⊢;obtain ⟨x,hx,rfl⟩:=e;exact ⟨x,ih hx,rfl⟩
 | loop x ih =>
  intro ts m r e;simp only [exec] at e ⊢;exact wL (λ_ _ _ hh=>ih hh) hk e
theorem qkg {S:zj} {tab:Tab} {f:FuncId} {a:List Value} {m:Mem} {r:Value × Mem} (h:S f a m=some r):∀ n,call S tab n f a m=some r
 | 0=>h
 | n+1=>by simp only [call,h]
theorem jx (S:zj) (tab:Tab):∀ {n k:Nat},n<=k->LeC (call S tab n) (call S tab k)
 | 0,k,_,f,a,m,r,e=>qkg e k
 | n+1,k,hk,f,a,m,r,e=>by
  obtain ⟨j,rfl⟩:∃ j,k=j+1:=⟨k - 1,by omega⟩;simp only [call] at e ⊢;split
  ·rename_i hs; rw [hs] at e; exact e
  ·rename_i hs;rw [hs] at e;simp only [body,bsI] at e ⊢;obtain ⟨fn,hf,o,ho,e⟩:=e;exact ⟨fn,hf,o,jS (jx S tab (by omega)) (by omega) ho,e⟩
open Classical in
noncomputable def lim {α:Type} (p:Nat->Option α):Option α:=if h:∃ r n,p n=some r then some (Classical.choose h) else none
theorem qck {α:Type} {p:Nat->Option α} (hp:∀ n k r,n<=k->p n=some r->p k=some r) (r:α):lim p=some r↔∃ n,p n=some r:=by
 unfold lim;constructor
 ·intro h;split at h
  ·rename_i hex;cases h
   exact Classical.choose_spec hex
  ·cases h
 ·rintro ⟨n,hn⟩
  have hex:∃ r n,p n=some r:=⟨r,n,hn⟩;rw [dif_pos hex];obtain ⟨k,hk⟩:=Classical.choose_spec hex;have h1:=hp n (max n k) r (Nat.le_max_left ..) hn;have h2:=hp k (max n k) _ (Nat.le_max_right ..) hk;rw [h1] at h2;exact h2.symm
noncomputable def Call (S:zj) (tab:Tab):zj:=λf a m=>lim λn=>call S tab n f a m
noncomputable def jX (S:zj) (tab:Tab) (c:ACode) (ts:List Value) (m:Mem):Option Out:=lim λn=>exec (call S tab n) n c ts m
section
variable {S:zj} {tab:Tab}
theorem vH {f:FuncId} {a:List Value} {m:Mem} {r:Value × Mem}:Call S tab f a m=some r↔∃ n,call S tab n f a m=some r :=
 qck (λ_ _ _ hk h=>jx S tab hk _ _ _ _ h) r
theorem zr {c:ACode} {ts:List Value} {m:Mem} {r:Out}:jX S tab c ts m=some r↔∃ n,exec (call S tab n) n c ts m=some r :=
 qck (λ_ _ _ hk h=>jS (jx S tab hk) hk h) r
theorem vv (n:Nat):LeC (call S tab n) (Call S tab):=λ_ _ _ _ h=>vH.2 ⟨n,h⟩
theorem Jk {ts:List Value} {m:Mem} {o:AOp} {r:Value × Mem}:zA (Call S tab) ts m o=some r↔∃ n,zA (call S tab n) ts m o=some r:=by
 constructor
 ·intro h;cases o<;>try exact ⟨0,h⟩
  ·simp only [zA,bsI] at h ⊢;obtain ⟨l,hl,h⟩:=h;obtain ⟨n,hn⟩:=vH.1 h;exact ⟨n,l,hl,hn⟩
  ·simp only [zA,bsI] at h ⊢;obtain ⟨v,hv,p,hp,l,hl,h⟩:=h;obtain ⟨n,hn⟩:=vH.1 h;exact ⟨n,v,hv,p,hp,l,hl,hn⟩
 ·rintro ⟨n,h⟩
  exact kN (vv n) h
theorem Qf:∀ {ops:List AOper} {ts:List Value} {m:Mem} {r:List Value × Mem},xc (Call S tab) ops ts m=some r↔∃ n,xc (call S tab n) ops ts m=some r
 | [],ts,m,r=>⟨λh=>⟨0,h⟩,λ⟨_,h⟩=>h⟩
 | o::ops,ts,m,r=>by
  constructor
  ·intro h;simp only [xc] at h ⊢;split at h
   ·rename_i hw;simp only [hw,if_true];simp only [bsI] at h ⊢;obtain ⟨p,hp,h⟩:=h;obtain ⟨n,hn⟩:=Jk.1 hp;obtain ⟨k,hk⟩:=Qf.1 h;exact ⟨max n k,p,kN (jx S tab (Nat.le_max_left ..)) hn,jP (jx S tab (Nat.le_max_right ..)) hk⟩
   ·rename_i hw;simp only [hw];obtain ⟨k,hk⟩:=Qf.1 h;exact ⟨k,hk⟩
  ·rintro ⟨n,h⟩
   exact jP (vv n) h
theorem ku:∀ {ops:List AOper} {lh:List (Nat × Nat)} {ts:List Value} {m:Mem} {r:Tr},xQ (Call S tab) ops lh ts m=some r↔∃ n,xQ (call S tab n) ops lh ts m=some r
 | [],lh,ts,m,r=>⟨λh=>⟨0,h⟩,λ⟨_,h⟩=>h⟩
 | o::ops,lh,ts,m,r=>by
  constructor
  ·intro h;simp only [xQ] at h ⊢;split at h
   ·rename_i hw;simp only [hw,if_true];split at h
    ·simp only [bsI,msI] at h ⊢;obtain ⟨p,hp,x,hx,rfl⟩:=h;obtain ⟨n,hn⟩:=Jk.1 hp;obtain ⟨k,hk⟩:=ku.1 hx;exact ⟨max n k,p,kN (jx S tab (Nat.le_max_left ..)) hn,x,jj (jx S tab (Nat.le_max_right ..)) hk,rfl⟩
    ·simp only [bsI,msI] at h ⊢;obtain ⟨q,hq,v,hv,x,hx,rfl⟩:=h;obtain ⟨k,hk⟩:=ku.1 hx;exact ⟨k,q,hq,v,hv,x,hk,rfl⟩
    ·simp only [bsI] at h ⊢;obtain ⟨p,hp,h⟩:=h;obtain ⟨k,hk⟩:=ku.1 h;exact ⟨k,p,hp,hk⟩
   ·rename_i hw;simp only [hw];split at h
    ·simp only [msI] at h;obtain ⟨x,hx,rfl⟩:=h;obtain ⟨k,hk⟩:=ku.1 hx;exact ⟨k,by rw [if_neg (by simp)]; exact msI.2 ⟨x,hk,rfl⟩⟩
    ·rename_i hc;obtain ⟨k,hk⟩:=ku.1 h;refine ⟨k,?_⟩;rw [if_neg (by simp)];exact hk
  ·rintro ⟨n,h⟩
   exact jj (vv n) h
theorem VK {ts:List Value} {m:Mem}:jX S tab .skip ts m=some (.normal,ts,m):=zr.2 ⟨0,rfl⟩
theorem qek {id:Nat} {ts:List Value} {m:Mem}:jX S tab (.exit id) ts m=some (.exit id,ts,m):=zr.2 ⟨0,rfl⟩
theorem qhb {ts:List Value} {m:Mem}:jX S tab .ret ts m=some (.ret,ts,m):=zr.2 ⟨0,rfl⟩
theorem qai {ops:List AOper} {ts:List Value} {m:Mem}:jX S tab (.region ops) ts m=(xc (Call S tab) ops ts m).map λr=>(.normal,r.1,r.2):=by
 apply Option.ext;intro r;rw [zr];simp only [exec,msI];constructor
 ·rintro ⟨n,x,hx,rfl⟩
  exact ⟨x,jP (vv n) hx,rfl⟩
 ·rintro ⟨x,hx,rfl⟩
  obtain ⟨n,hn⟩:=Qf.1 hx;exact ⟨n,x,hn,rfl⟩
theorem qel {ops:List AOper} {lh:List (Nat × Nat)} {ts:List Value} {m:Mem}:jX S tab (.draw ops lh) ts m=(kQ (Call S tab) ops lh ts m).map λr=>(.normal,r.1,r.2):=by
 apply Option.ext;intro r;rw [zr];simp only [exec,msI];constructor
 ·rintro ⟨n,x,hx,rfl⟩
  exact ⟨x,yC (vv n) hx,rfl⟩
 ·rintro ⟨x,hx,rfl⟩
  simp only [kQ,bsI] at hx ⊢;obtain ⟨y,hy,hx⟩:=hx;obtain ⟨n,hn⟩:=ku.1 hy;exact ⟨n,x,⟨y,hn,hx⟩,rfl⟩
theorem qbH {ops:List AOper} {lh:List (Nat × Nat)} {ts:List Value} {m:Mem}:jX S tab (.drawF ops lh) ts m=(kQ (Call S tab) (ops.map (jA m.next)) lh ts (m.zu ops.length)).map λr=>(.normal,r.1,r.2):=by
 apply Option.ext;intro r;rw [zr];simp only [exec,msI];constructor
 ·rintro ⟨n,x,hx,rfl⟩
  exact ⟨x,yC (vv n) hx,rfl⟩
 ·rintro ⟨x,hx,rfl⟩
  simp only [kQ,bsI] at hx ⊢;obtain ⟨y,hy,hx⟩:=hx;obtain ⟨n,hn⟩:=ku.1 hy;exact ⟨n,x,⟨y,hn,hx⟩,rfl⟩
def andThen (o:Option Out) (k:List Value->Mem->Option Out):Option Out:=o.bind λr=>match r with
 | (.normal,ts,m)=>k ts m
 | r=>some r
theorem qha {a b:ACode} {ts:List Value} {m:Mem}:jX S tab (.seq a b) ts m=andThen (jX S tab a ts m) λts' m'=>jX S tab b ts' m':=by
 apply Option.ext;intro r;rw [zr];simp only [exec,andThen,bsI];constructor
 ·rintro ⟨n,⟨e1,ts1,m1⟩,h1,h⟩
  refine ⟨_,zr.2 ⟨n,h1⟩,?_⟩;cases e1 with
  | normal=>exact zr.2 ⟨n,h⟩
  | exit _=>exact h
  | ret=>exact h
 ·rintro ⟨⟨e1,ts1,m1⟩,h1,h⟩
  obtain ⟨n,hn⟩:=zr.1 h1;cases e1 with
  | normal =>
   obtain ⟨k,hk⟩:=zr.1 h;exact ⟨max n k,_,jS (jx S tab (Nat.le_max_left ..)) (Nat.le_max_left ..) hn,jS (jx S tab (Nat.le_max_right ..)) (Nat.le_max_right ..) hk⟩
  | exit _=>exact ⟨n,_,hn,h⟩
  | ret=>exact ⟨n,_,hn,h⟩
theorem qem {c:Operand} {a b:ACode} {ts:List Value} {m:Mem}:jX S tab (.cond c a b) ts m=(zc ts c).bind λv=>(asB v).bind λt=>if t then jX S tab a ts m else jX S tab b ts m:=by
 apply Option.ext;intro r;rw [zr];simp only [exec,bsI];constructor
 ·rintro ⟨n,v,hv,t,ht,h⟩
  refine ⟨v,hv,t,ht,?_⟩;cases t<;>exact zr.2 ⟨n,h⟩
 ·rintro ⟨v,hv,t,ht,h⟩
  cases t
  ·obtain ⟨n,hn⟩:=zr.1 h;exact ⟨n,v,hv,false,ht,hn⟩
  ·obtain ⟨n,hn⟩:=zr.1 h;exact ⟨n,v,hv,true,ht,hn⟩
def qbM (id:Nat):Out->Out
 | (.exit j,ts,m)=>if j=id then (.normal,ts,m) else (.exit j,ts,m)
 | r=>r
theorem qbI {id:Nat} {a:ACode} {ts:List Value} {m:Mem}:jX S tab (.block id a) ts m=(jX S tab a ts m).map (qbM id):=by
 apply Option.ext;intro r;rw [zr];simp only [exec,msI];constructor
 ·rintro ⟨n,x,hx,h⟩
  refine ⟨x,zr.2 ⟨n,hx⟩,?_⟩;obtain ⟨e,ts1,m1⟩:=x;cases e<;>exact h
 ·rintro ⟨x,hx,h⟩
  obtain ⟨n,hn⟩:=zr.1 hx;refine ⟨n,x,hn,?_⟩;obtain ⟨e,ts1,m1⟩:=x;cases e<;>exact h
theorem qej {a:ACode} {ts:List Value} {m:Mem}:jX S tab (.loop a) ts m=andThen (jX S tab a ts m) λts' m'=>jX S tab (.loop a) ts' m':=by
 apply Option.ext;intro r;rw [zr];simp only [andThen,bsI];constructor
 ·rintro ⟨n,h⟩
  simp only [exec] at h;cases n with
  | zero=>simp [kU] at h
  | succ n =>
   simp only [kU,bsI] at h;obtain ⟨⟨e1,ts1,m1⟩,h1,h⟩:=h;refine ⟨_,zr.2 ⟨n+1,h1⟩,?_⟩;cases e1 with
   | normal=>exact zr.2 ⟨n+1,wL (λ_ _ _ hh=>hh) (by omega) h⟩
   | exit _=>exact h
   | ret=>exact h
 ·rintro ⟨⟨e1,ts1,m1⟩,h1,h⟩
  obtain ⟨n,hn⟩:=zr.1 h1;cases e1 with
  | normal =>
   obtain ⟨k,hk⟩:=zr.1 h;refine ⟨max n k+1,?_⟩;have g1:n<=max n k+1:=by have:=Nat.le_max_left n k; omega
   have g2:k<=max n k:=Nat.le_max_right n k;simp only [exec,kU,bsI];refine ⟨_,jS (jx S tab g1) g1 hn,?_⟩;simp only [exec] at hk;exact wL (λ_ _ _ hh=>jS (jx S tab (by omega)) (by omega) hh) g2 hk
  | exit _ =>
   refine ⟨n+1,?_⟩;simp only [exec,kU,bsI];exact ⟨_,jS (jx S tab (Nat.le_succ n)) (Nat.le_succ n) hn,h⟩
  | ret =>
   refine ⟨n+1,?_⟩;simp only [exec,kU,bsI];exact ⟨_,jS (jx S tab (Nat.le_succ n)) (Nat.le_succ n) hn,h⟩
def leave (rs:List ARes) (o:Option Out):Option (Value × Mem):=o.bind λr=>match r with
 | (.exit _,_,_)=>none
 | (_,ts,m)=>(jZ ts m rs).map λl=>(oneOf l,m)
theorem Call_eq {f:FuncId} {fn:AFunc} (hf:tab f=some fn) (args:List Value) (m:Mem) (hS:S f args m=none):Call S tab f args m=leave fn.results (jX S tab fn.body (args++List.replicate (fn.ntmps - args.length) undef) m):=by
 apply Option.ext;intro r;rw [vH];simp only [leave,bsI];constructor
 ·rintro ⟨n,h⟩
  cases n with
  | zero=>simp only [call,hS] at h; cases h
  | succ n =>
   simp only [call,hS,hf,bmI,body,bsI] at h;obtain ⟨x,hx,h⟩:=h;refine ⟨x,zr.2 ⟨n,hx⟩,?_⟩;obtain ⟨e,ts1,m1⟩:=x;cases e<;>exact h
 ·rintro ⟨x,hx,h⟩
  obtain ⟨n,hn⟩:=zr.1 hx;refine ⟨n+1,?_⟩;simp only [call,hS,hf,bmI,body,bsI];refine ⟨x,hn,?_⟩;obtain ⟨e,ts1,m1⟩:=x;cases e<;>exact h
theorem Qx {f:FuncId} {args:List Value} {m:Mem} {r:Value × Mem} (h:S f args m=some r):Call S tab f args m=some r:=vH.2 ⟨0,h⟩
end
section
variable {H:Type} {enc:TypeId × Value->H} {P:Program} {W:World}
theorem okWide_not_agg {r:Reach} {base:Nat} {t:TypeId} {v:Value} {W:World} (h:Value.okWide P W r base t v) (ht:aggT P t=some false):∀ xs,v≠.agg xs:=by
 rintro xs rfl
 unfold aggT at ht;unfold Value.okWide at h;cases hd:P.underlying t with
 | none=>rw [hd] at ht; cases ht
 | some d =>
  rw [hd] at ht h;cases d<;>simp at ht<;>simp [Cell.okWide,Cell.ok,hd] at h
theorem sized_each {ts us:List TypeId} {ds gs:List (DataW H)} (h:(DataW.weightsEach P (ts++us) (ds++gs)).all (·<=reachBytes)=true):∀ (j:Nat) t d,ts[j]? = some t->ds[j]? = some d->∀ z∈d.weights P t,z<=reachBytes:=by
 intro j t d ht hd z hz;have lt:∀ {α:Type} {l:List α} {j:Nat} {a:α},l[j]? = some a->j<l.length:=λ{α l j a} h=>by
  rcases Nat.lt_or_ge j l.length with h'|h'
  ·exact h'
  ·rw [List.getElem?_eq_none h'] at h; cases h
 have:=List.all_eq_true.1 h z (DataW.weights_mem_each (j:=j) (by rw [List.getElem?_append_left (lt ht)]; exact ht) (by rw [List.getElem?_append_left (lt hd)]; exact hd) z hz);simpa using this
theorem law_calls {f:FuncId} (hf:f<yBase:=by decide) {S:zj} {tab:Tab} (hSok:CallOk P S) (hS:∀ f args m r,f<yBase->S f args m=some r->zX P f=true) (hm:P.follows .mixedOrders=true) (htab:qad P tab) (hgood:∀ f x,tab f=some x->zX P f=true) {n:Nat} {ts:List TypeId} {vs:List Value} {ds:List (DataW H)} {ps:List MemPlace}
  (h:DataW.TrodAll enc P W 0 (λ_=>true) true ts vs ds ps) (hsz:∀ (j:Nat) t d,ts[j]? = some t->ds[j]? = some d->∀ z∈d.weights P t,z<=reachBytes) (hok:∀ t∈ts,okT P n t=true) (hform:∀ (i:Nat) t v,ts[i]? = some t->vs[i]? = some v->aggT P t=some false->∀ xs,v≠.agg xs)
  (hlaw:∀ (m:Mem) (args:List Value),AllRo m->args.length=ts.length->(∀ (i:Nat) t (a:Value),ts[i]? = some t->args[i]? = some a->WT P m n t a.cells.toList/\(aggT P t=some false->∀ xs,a≠.agg xs))->∃ m',Call S tab f args m=some (.bool true,m')) :
  Calls P f vs.toArray W λe w'=>e=.returned (.bool true)/\Go.RowKit.Below W.heap.size W w':=by
 obtain ⟨φ,m,args,hi,hr,_,_,hv,hl,hw⟩:=HX (P:=P) (n:=n) h hsz hok _ _ (Inv.empty W) HZ;obtain ⟨m',hcall'⟩:=hlaw m args hr hl (λi t a ht ha=>⟨hw i t a ht ha,λhag xs hx=>by
  obtain ⟨V,hV,hR⟩:=hv.get ha;subst hx;cases hR with
  | agg _ ys _ _=>exact hform i t _ ht hV hag ys rfl⟩)
 obtain ⟨N,hcall⟩:=vH.1 hcall';refine ((Js hm hSok hS htab hgood N).fn f args m (.bool true) m' hf hcall φ W vs.toArray hi (by simpa using hv)).mono ?_
 rintro e w' ⟨V,φ',rfl,hV,_,hf⟩
 cases hV
 exact ⟨rfl,hf.below hr⟩
end
end Go.Fx
namespace Go.Fx
open Go
structure Upd (fp:List Nat) (m m':Mem):Prop where
 next:m.next<=m'.next
 same:∀ b,b<m.next->b∉fp->m'.get b=m.get b
theorem Upd.refl (fp:List Nat) (m:Mem):Upd fp m m:=⟨Nat.le_refl _,λ_ _ _=>rfl⟩
theorem Upd.trans {fp:List Nat} {m m' m'':Mem} (h:Upd fp m m') (h':Upd fp m' m''):Upd fp m m'' :=
 ⟨Nat.le_trans h.next h'.next,λb hb hn=>(h'.same b (Nat.lt_of_lt_of_le hb h.next) hn).trans (h.same b hb hn)⟩
theorem Upd.mono {fp gp:List Nat} {m m':Mem} (h:Upd fp m m') (hs:∀ b,b∈fp->b<m.next->b∈gp):Upd gp m m' :=
 ⟨h.next,λb hb hn=>h.same b hb (λhf=>hn (hs b hf hb))⟩
theorem Upd.Zx {fp gp:List Nat} {m m' m'':Mem} (h:Upd fp m m') (h':Upd gp m' m'') (hs:∀ b∈gp,b∈fp∨m.next<=b):Upd fp m m'' :=
 ⟨Nat.le_trans h.next h'.next,λb hb hn=>(h'.same b (Nat.lt_of_lt_of_le hb h.next) (λhg=>(hs b hg).elim hn (λhge=>by omega))).trans (h.same b hb hn)⟩
theorem Upd.add (fp:List Nat) (m:Mem) (x:ABlk):Upd fp m (m.add x) :=
 ⟨by simp,λb hb _=>by rw [Mem.zw,if_neg (by omega)]⟩
theorem Upd.put {fp:List Nat} (m:Mem) {b:Nat} (x:ABlk) (h:b∈fp):Upd fp m (m.put b x) :=
 ⟨Nat.le_refl _,λc _ hn=>by rw [Mem.zi,if_neg (by rintro rfl; exact hn h)]⟩
theorem Upd.kill {fp:List Nat} (m:Mem) {b:Nat} (h:b∈fp):Upd fp m (m.kill b) :=
 ⟨Nat.le_refl _,λc _ hn=>by rw [Mem.xW,if_neg (by rintro rfl; exact hn h)]⟩
theorem zS {m:Mem} {b:Nat} {c:List Value} {e:TypeId} {ro:Bool} {lo:Option Nat} (h:m.get b=some ⟨.cells c e,ro,lo⟩):m.xp b=some c:=by simp [Mem.xp,h]
theorem KQ {m m':Mem} {b:Nat} (h:m'.get b=m.get b):m'.xp b=m.xp b:=by simp [Mem.xp,h]
def qc:Value->List Nat
 | .slice (some a) _ _=>[a.block]
 | _=>[]
def Sl (size:Nat) (m:Mem) (v:Value) (n:Nat) (cells:List Value):Prop :=
 cells.length=n * size/\((v=.slice none 0 0/\n=0)∨∃ b off cap,v=.slice (some ⟨b,off,none⟩) n cap/\n<=cap /\
  (n=0∨∃ c,m.xp b=some c/\off+n * size<=c.length/\cells=(c.drop off).take (n * size)))
theorem Sl.mono {size:Nat} {m m':Mem} {v:Value} {n:Nat} {cells:List Value} (h:Sl size m v n cells) (hk:∀ b∈qc v,m'.get b=m.get b):Sl size m' v n cells:=by
 obtain ⟨h1,h2⟩:=h;refine ⟨h1,h2.imp id ?_⟩
 rintro ⟨b,off,cap,rfl,hc,h3⟩
 refine ⟨b,off,cap,rfl,hc,h3.imp id ?_⟩
 rintro ⟨c,h4,h5⟩
 exact ⟨c,by rw [KQ (hk b (by simp [qc]))]; exact h4,h5⟩
theorem Sl.len {size:Nat} {m:Mem} {v:Value} {n:Nat} {cells:List Value} (h:Sl size m v n cells):qd v=some (.int .i64 n):=by
 obtain ⟨h1,⟨rfl,rfl⟩|⟨b,off,cap,rfl,_⟩⟩:=h<;>rfl
theorem Sl.src {size:Nat} {m:Mem} {v:Value} {n:Nat} {cells:List Value} (h:Sl size m v n cells):qM size v m=some (n,cells):=by
 obtain ⟨h1,⟨rfl,rfl⟩|⟨b,off,cap,rfl,hc,h3⟩⟩:=h
 ·have:cells=[]:=by simpa using h1
  subst this; rfl
 ·by_cases h0:n=0
  ·subst h0;have:cells=[]:=by simpa using h1
   subst this; simp [qM]
  ·rcases h3 with h3|⟨c,h4,h5,h6⟩
   ·exact absurd h3 h0
   ·simp [qM,h0,h4,h5,h6]
theorem Sl.index {size:Nat} {m:Mem} {v:Value} {n:Nat} {cells:List Value} (h:Sl size m v n cells) (k:IntKind) (i:Nat) (hi:i<n) :
  ∃ p,qi size v (.int k i)=some p/\ql size p m=some (.agg ((cells.drop (i * size)).take size).toArray)/\(size=1->qa p m=cells[i]?):=by
 obtain ⟨h1,⟨rfl,rfl⟩|⟨b,off,cap,rfl,hc,h3⟩⟩:=h
 ·omega
 ·rcases h3 with h3|⟨c,h4,h5,h6⟩
  ·omega
  ·have hmul:(i+1) * size<=n * size:=Nat.mul_le_mul_right _ hi;rw [Nat.add_mul,Nat.one_mul] at hmul;refine ⟨.pointer (some ⟨b,off+i * size,none⟩),?_,?_,?_⟩
   ·have:(0:Int)<=(i:Int)/\(i:Int)<(n:Int):=by omega
    simp [qi,this]
   ·have hle:off+i * size+size<=c.length:=by omega
    simp only [ql,jV,bmI,h4,if_pos hle];congr 2;rw [h6,List.drop_take,List.take_take,List.drop_drop];congr 1;congr 1;omega
   ·intro hs;subst hs;simp only [qa,jV,bmI,h4,h6];rw [List.getElem?_take_of_lt (by omega),List.getElem?_drop];simp
def Own (size:Nat) (e:TypeId) (m:Mem) (v:Value) (n:Nat) (cells:List Value):Prop :=
 cells.length=n * size/\((v=.slice none 0 0/\n=0)∨∃ b,v=.slice (some ⟨b,0,none⟩) n n/\b<m.next/\m.get b=some ⟨.cells cells e,false,some size⟩)
theorem Own.nil (size:Nat) (e:TypeId) (m:Mem):Own size e m (.slice none 0 0) 0 []:=⟨by simp,.inl ⟨rfl,rfl⟩⟩
theorem Own.sl {size:Nat} {e:TypeId} {m:Mem} {v:Value} {n:Nat} {cells:List Value} (h:Own size e m v n cells):Sl size m v n cells:=by
 obtain ⟨h1,⟨rfl,rfl⟩|⟨b,rfl,hb,hg⟩⟩:=h
 ·exact ⟨h1,.inl ⟨rfl,rfl⟩⟩
 ·refine ⟨h1,.inr ⟨b,0,n,rfl,Nat.le_refl _,.inr ⟨cells,zS hg,by omega,?_⟩⟩⟩;rw [List.drop_zero,<- h1,List.take_length]
theorem qS (l:List Value):(Value.agg l.toArray).cells.toList=l:=by simp [Value.cells]
theorem VD (k:IntKind) (n:Int):(Value.int k n).cells.toList=[.int k n]:=by simp [Value.cells]
theorem VC (s:ByteArray):(Value.string s).cells.toList=[.string s]:=by simp [Value.cells]
theorem QF:∀ (vs c:List Value),c.length=vs.length->qQ c 0 vs=vs:=by
 intro vs c h;apply List.ext_getElem?;intro j;rw [vP vs c 0 j (by omega)];by_cases hj:j<vs.length
 ·rw [if_pos (by omega)]; simp
 ·rw [if_neg (by omega),List.getElem?_eq_none (by omega),List.getElem?_eq_none (by omega)]
theorem jg {m:Mem} {b:Nat} {c:List Value} {e:TypeId} {lo:Option Nat} {v:Value} {n:Nat} (hb:m.get b=some ⟨.cells c e,false,lo⟩) (hc:c.length=n) (hv:v.cells.size=n) (h1:v.cells.toList.all (·.oneCell')=true) :
  qj n (.pointer (some ⟨b,0,none⟩)) v m=some (m.put b ⟨.cells v.cells.toList e,false,lo⟩):=by
 have:m.jF b=some (c,e,lo):=by simp [Mem.jF,hb]
 simp only [qj,jV,bmI,this];rw [if_pos ⟨hv,by omega,h1⟩,QF _ _ (by simp [hc,hv])]
theorem zG {m:Mem} {b:Nat} {c:List Value} {e:TypeId} {ro:Bool} {lo:Option Nat} {n:Nat} (hb:m.get b=some ⟨.cells c e,ro,lo⟩) (hc:c.length=n):ql n (.pointer (some ⟨b,0,none⟩)) m=some (.agg c.toArray):=by
 simp only [ql,jV,bmI,zS hb];rw [if_pos (by omega),List.drop_zero,<- hc,List.take_length]
theorem qm {m:Mem} {b:Nat} {c:List Value} {e:TypeId} {ro:Bool} {lo:Option Nat} {o:Nat} {v:Value} (hb:m.get b=some ⟨.cells c e,ro,lo⟩) (hv:c[o]? = some v):qa (.pointer (some ⟨b,o,none⟩)) m=some v:=by
 simp only [qa,jV,bmI,zS hb,hv]
theorem zF {m:Mem} {b:Nat} {c:List Value} {e:TypeId} {lo:Option Nat} {o:Nat} {v:Value} (hb:m.get b=some ⟨.cells c e,false,lo⟩) (ho:o<c.length) (hv:v.cells=#[v]) (h1:v.oneCell'=true) :
  qj 1 (.pointer (some ⟨b,o,none⟩)) v m=some (m.put b ⟨.cells (c.set o v) e,false,lo⟩):=by
 have:m.jF b=some (c,e,lo):=by simp [Mem.jF,hb]
 simp only [qj,jV,bmI,this,hv];rw [if_pos ⟨rfl,by omega,by simp [h1]⟩];simp [zY,xm]
theorem Mem.qf (m:Mem) (x:ABlk):(m.add x).get m.next=some x:=by rw [Mem.zw,if_pos rfl]
theorem Mem.zO (m:Mem) (x:ABlk) {b:Nat} (h:b<m.next):(m.add x).get b=m.get b:=by rw [Mem.zw,if_neg (by omega)]
theorem Mem.qe (m:Mem) (b:Nat) (x:ABlk):(m.put b x).get b=some x:=by rw [Mem.zi,if_pos rfl]
theorem Mem.qs (m:Mem) {b c:Nat} (x:ABlk) (h:c≠b):(m.put b x).get c=m.get c:=by rw [Mem.zi,if_neg h]
theorem qec (m:Mem) (e:TypeId) {c vs:List Value} {n:Nat} (hz:c.length=n) (hv:vs.length=n) (h1:vs.all (·.oneCell')=true) :
  qj n (.pointer (some ⟨m.next,0,none⟩)) (.agg vs.toArray) (m.add ⟨.cells c e,false,none⟩)=some ((m.add ⟨.cells c e,false,none⟩).put m.next ⟨.cells vs e,false,none⟩):=by
 have:=jg (m:=m.add ⟨.cells c e,false,none⟩) (v:=.agg vs.toArray) (n:=n) (m.qf _) hz (by simpa [Value.cells] using hv) (by simpa [Value.cells] using h1);simpa [Value.cells] using this
theorem Ql {p:Value->Bool} {s:Nat} (hs:0<s):∀ (k:Nat) (l:List Value),l.length=k * s->(∀ i,i<k->((l.drop (i * s)).take s).all p=true)->l.all p=true
 | 0,l,h,_=>by simp at h; simp [h]
 | k+1,l,h,hall=>by
  rw [<- List.take_append_drop s l,List.all_append,baI];refine ⟨by simpa using hall 0 (by omega),Ql hs k (l.drop s) (by rw [ldI,h,Nat.add_mul]; omega) (λi hi=>?_)⟩;have:=hall (i+1) (by omega);rw [List.drop_drop];rw [show s+i * s=(i+1) * s by rw [Nat.add_mul]; omega];exact this
theorem WT.one {P:Program} {B:Nat} {m:Mem}:∀ {n:Nat} {t:TypeId} {cs:List Value},okT P n t=true->WTB P B m n t cs->cs.all (·.oneCell')=true
 | 0,_,_,h,_=>by simp [okT] at h
 | n+1,t,cs,hok,h=>by
  unfold okT at hok;unfold WTB at h;cases hd:P.underlying t with
  | none=>rw [hd] at hok; cases hok
  | some d =>
   rw [hd] at hok h;cases d<;>simp only [Bool.false_eq_true] at hok h
   ·obtain ⟨b,rfl⟩:=h; rfl
   ·obtain ⟨b,rfl,_⟩:=h; rfl
   ·obtain ⟨b,rfl,_⟩:=h; rfl
   ·rcases h with rfl|⟨b,off,rfl,_⟩|⟨b,len,cap,c,e',rfl,_⟩<;>rfl
   ·rename_i k e;simp only [baI,beq_iff_eq] at hok;obtain ⟨hl,hall⟩:=h;rcases Nat.eq_zero_or_pos (P.cellsOf e) with h0|h0
    ·rw [h0,Nat.mul_zero] at hl;have:cs=[]:=by simpa using hl
     subst this; rfl
    ·exact Ql h0 k cs hl (λi hi=>WT.one hok.2 (hall i hi))
   ·rename_i fs;simp only [baI,List.all_eq_true] at hok;obtain ⟨hl,hall⟩:=h;have:=vh (P:=P) fs.toList 0 _ cs hok.1 hl;rw [List.drop_zero] at this;rw [<- this,List.all_eq_true];intro v hv;simp only [List.mem_flatten,List.mem_map] at hv;obtain ⟨l,⟨f,hf,rfl⟩,hv⟩:=hv;exact List.all_eq_true.1 (WT.one (hok.2 f hf) (hall f hf)) v hv
theorem WT.slice {P:Program} {B:Nat} {m:Mem} {n:Nat} {t e:TypeId} {v:Value} {s:Nat} (hd:P.underlying t=some (.slice e)) (hs:P.cellsOf e=s) (hs0:0<s) (hok:okT P n e=true) (h:WTB P B m (n+1) t v.cells.toList) (hna:∀ xs,v≠.agg xs) :
  ∃ k cells,Sl s m v k cells/\(k<=maxLen/\k * P.bytesOf e<=B)/\(∀ b∈qc v,b<m.next)/\cells.all (·.oneCell')=true/\∀ i,i<k->WTB P B m n e ((cells.drop (i * s)).take s):=by
 unfold WTB at h;rw [hd] at h;simp only at h;have hv:∀ u,v.cells.toList=[u]->v=u:=by
  intro u hu;cases v with
  | agg xs=>exact absurd rfl (hna xs)
  | _=>simpa [Value.cells] using hu
 rcases h with h|⟨b,off,h,hb⟩|⟨b,len,cap,c,e',h,hb,h2,h3,h4,h5,h6⟩
 ·have:=hv _ h;subst this;exact ⟨0,[],⟨by simp,.inl ⟨rfl,rfl⟩⟩,⟨by omega,by omega⟩,λb hb=>by simp [qc] at hb,rfl,λi hi=>by omega⟩
 ·have:=hv _ h;subst this;exact ⟨0,[],⟨by simp,.inr ⟨b,off,0,rfl,Nat.le_refl _,.inl rfl⟩⟩,⟨by omega,by omega⟩,λc hc=>by simp [qc] at hc; omega,rfl,λi hi=>by omega⟩
 ·have:=hv _ h;subst this;rw [hs] at h5 h6;have hmul:len * s<=cap * s:=Nat.mul_le_mul_right _ h2;have hlen:(c.take (len * s)).length=len * s:=by rw [ltI,h5]; omega
  have hpc:∀ i,i<len->(((c.take (len * s)).drop (i * s)).take s)=((c.drop (i * s)).take s):=by
   intro i hi;have:(i+1) * s<=len * s:=Nat.mul_le_mul_right _ hi;rw [Nat.add_mul,Nat.one_mul] at this;rw [List.drop_take,List.take_take];congr 1;omega
  have hlb:len * P.bytesOf e<=cap * P.bytesOf e:=Nat.mul_le_mul_right _ h2;refine ⟨len,c.take (len * s),⟨hlen,.inr ⟨b,0,cap,rfl,h2,.inr ⟨c,zS h4,by omega,by rw [List.drop_zero]⟩⟩⟩,⟨by omega,by omega⟩,λx hx=>by simp [qc] at hx; omega,?_,λi hi=>?_⟩
  ·exact Ql hs0 len _ hlen (λi hi=>by rw [hpc i hi]; exact WT.one hok (h6 i (by omega)))
  ·rw [hpc i hi]; exact h6 i (by omega)
theorem qhf {x:Int} (h0:-9223372036854775808<=x) (h1:x<=9223372036854775807):IntKind.i64.wrap x=x:=by
 have hb:(2 ^ IntKind.i64.bits:Int)=18446744073709551616:=by decide
 have hb2:(2 ^ (IntKind.i64.bits - 1):Int)=9223372036854775808:=by decide
 unfold IntKind.wrap;simp only [hb,hb2,IntKind.signed,Bool.true_and,decide_eq_true_eq,ge_iff_le];split<;>omega
end Go.Fx
namespace Go.Fx
open Go
structure Enc (α:Type) where
 size:Nat
 cells:α->List Value
 len:∀ a,(cells a).length=size
 one:∀ a,(cells a).all (·.oneCell')=true
section
variable {α:Type} (E:Enc α)
def Enc.flat (l:List α):List Value:=(l.map E.cells).flatten
theorem Enc.jw (a:α) (l:List α):E.flat (a::l)=E.cells a++E.flat l:=rfl
theorem Enc.xr (l k:List α):E.flat (l++k)=E.flat l++E.flat k:=by simp [Enc.flat]
theorem Enc.qgb (a:α):E.flat [a]=E.cells a:=by simp [Enc.flat]
theorem Enc.zd:∀ l:List α,(E.flat l).length=l.length * E.size
 | []=>by simp [Enc.flat]
 | a::l=>by rw [E.jw,laI,E.len,zd l,lnI,Nat.add_mul]; omega
theorem Enc.wu:∀ l:List α,(E.flat l).all (·.oneCell')=true
 | []=>rfl
 | a::l=>by rw [E.jw,List.all_append,E.one,wu l]; rfl
theorem Enc.wq:∀ (l:List α) (i:Nat),(E.flat l).drop (i * E.size)=E.flat (l.drop i)
 | l,0=>by simp
 | [],i+1=>by simp [Enc.flat]
 | a::l,i+1=>by
  rw [E.jw,List.drop_succ_cons,<- wq l i,show (i+1) * E.size=(E.cells a).length+i * E.size by rw [E.len,Nat.add_mul]; omega,List.drop_append];simp
theorem Enc.ZS:∀ (l:List α) (i:Nat),(E.flat l).take (i * E.size)=E.flat (l.take i)
 | l,0=>by simp [Enc.flat]
 | [],i+1=>by simp [Enc.flat]
 | a::l,i+1=>by
  rw [E.jw,List.take_succ_cons,E.jw,<- ZS l i,show (i+1) * E.size=(E.cells a).length+i * E.size by rw [E.len,Nat.add_mul]; omega,List.take_append,List.take_of_length_le (by omega)];simp
theorem Enc.Qo {l:List α} {i:Nat} {a:α} (h:l[i]? = some a):((E.flat l).drop (i * E.size)).take E.size=E.cells a:=by
 have hd:l.drop i=a::l.drop (i+1):=by
  obtain ⟨hi,rfl⟩:=List.getElem?_eq_some_iff.1 h;exact List.drop_eq_getElem_cons hi
 rw [E.wq,hd,E.jw,<- E.len a,List.take_left'];rfl
def TSl (m:Mem) (v:Value) (l:List α):Prop:=Sl E.size m v l.length (E.flat l)
def qgL (e:TypeId) (m:Mem) (v:Value) (l:List α):Prop:=Own E.size e m v l.length (E.flat l)
variable {E}
theorem qgL.tsl {e:TypeId} {m:Mem} {v:Value} {l:List α} (h:qgL E e m v l):TSl E m v l:=Own.sl h
theorem qgL.nil (e:TypeId) (m:Mem):qgL E e m (.slice none 0 0) []:=Own.nil E.size e m
theorem TSl.nil (m:Mem):TSl E m (.slice none 0 0) []:=(qgL.nil 0 m).tsl
theorem TSl.mono {m m':Mem} {v:Value} {l:List α} (h:TSl E m v l) (hk:∀ b∈qc v,m'.get b=m.get b):TSl E m' v l:=Sl.mono h hk
theorem TSl.upd {fp:List Nat} {m m':Mem} {v:Value} {l:List α} (h:TSl E m v l) (hu:Upd fp m m') (hk:∀ b∈qc v,b<m.next/\b∉fp):TSl E m' v l :=
 h.mono (λb hb=>hu.same b (hk b hb).1 (hk b hb).2)
theorem TSl.len {m:Mem} {v:Value} {l:List α} (h:TSl E m v l):qd v=some (.int .i64 l.length):=Sl.len h
theorem TSl.src {m:Mem} {v:Value} {l:List α} (h:TSl E m v l):qM E.size v m=some (l.length,E.flat l):=Sl.src h
theorem TSl.index {m:Mem} {v:Value} {l:List α} (h:TSl E m v l) (k:IntKind) {i:Nat} {a:α} (ha:l[i]? = some a) :
  ∃ p,qi E.size v (.int k i)=some p/\ql E.size p m=some (.agg (E.cells a).toArray)/\(∀ x,E.cells a=[x]->qa p m=some x):=by
 have hi:i<l.length:=by
  rcases Nat.lt_or_ge i l.length with h|h
  ·exact h
  ·rw [List.getElem?_eq_none h] at ha; cases ha
 obtain ⟨p,h1,h2,h3⟩:=Sl.index h k i hi;refine ⟨p,h1,by rw [h2,E.Qo ha],λx hx=>?_⟩;have hs:E.size=1:=by rw [<- E.len a,hx]; rfl
 have hp:=E.Qo ha;rw [h3 hs];rw [hx,hs,Nat.mul_one] at hp;have:=congrArg (·[0]?) hp;simpa using this
theorem TSl.field {m:Mem} {v:Value} {l:List α} (h:TSl E m v l) (k:IntKind) {i:Nat} {a:α} (ha:l[i]? = some a) {o:Nat} {x:Value} (hx:(E.cells a)[o]? = some x) :
  ∃ b off,qi E.size v (.int k i)=some (.pointer (some ⟨b,off,none⟩))/\ql E.size (.pointer (some ⟨b,off,none⟩)) m=some (.agg (E.cells a).toArray)/\qa (.pointer (some ⟨b,off+o,none⟩)) m=some x:=by
 have hi:i<l.length:=by
  rcases Nat.lt_or_ge i l.length with h|h
  ·exact h
  ·rw [List.getElem?_eq_none h] at ha; cases ha
 obtain ⟨p,h1,h2,_⟩:=Sl.index h k i hi;rw [E.Qo ha] at h2;have hp:∃ b off,p=.pointer (some ⟨b,off,none⟩):=by
  unfold qi at h1;split at h1
  ·split at h1
   ·cases h1; exact ⟨_,_,rfl⟩
   ·cases h1
  ·cases h1
 obtain ⟨b,off,rfl⟩:=hp;refine ⟨b,off,h1,h2,?_⟩;simp only [ql,jV,bmI] at h2;simp only [qa,jV,bmI];cases hc:m.xp b with
 | none=>rw [hc] at h2; cases h2
 | some c =>
  rw [hc] at h2;simp only [bmI] at h2 ⊢;split at h2
  ·simp only [sjI,Value.agg.injEq] at h2;have h3:(c.drop off).take E.size=E.cells a:=by
    have:=congrArg Array.toList h2;simpa using this
   rw [<- h3,List.getElem?_take] at hx;split at hx
   ·rw [List.getElem?_drop] at hx; exact hx
   ·cases hx
  ·cases h2
theorem TSl.at {m:Mem} {v:Value} {l:List α} (h:TSl E m v l) (k:IntKind) {i:Nat} {a:α} (ha:l[i]? = some a) :
  ∃ b off,qi E.size v (.int k i)=some (.pointer (some ⟨b,off,none⟩))/\∀ m',TSl E m' v l->ql E.size (.pointer (some ⟨b,off,none⟩)) m'=some (.agg (E.cells a).toArray)/\∀ (o:Nat) x,(E.cells a)[o]? = some x->qa (.pointer (some ⟨b,off+o,none⟩)) m'=some x:=by
 have hp:∃ b off,qi E.size v (.int k i)=some (.pointer (some ⟨b,off,none⟩)):=by
  obtain ⟨p,h1,h2,_⟩:=h.index k ha;have h1':=h1;unfold qi at h1';split at h1'
  ·split at h1'
   ·cases h1'; exact ⟨_,_,h1⟩
   ·cases h1'
  ·cases h1'
 obtain ⟨b,off,h1⟩:=hp;refine ⟨b,off,h1,λm' h'=>?_⟩;obtain ⟨p',g1,g2,_⟩:=h'.index k ha;rw [h1] at g1;cases g1
 refine ⟨g2,λo x hx=>?_⟩;obtain ⟨b',off',k1,_,k3⟩:=h'.field k ha hx;rw [h1] at k1;cases k1
 exact k3
theorem TSl.YG {m:Mem} {v:Value} {l:List α} (h:TSl E m v l) {k:Nat} (hk:k<=l.length) :
  ∃ v',qx E.size v none (some (.int .i64 k)) m=some v'/\TSl E m v' (l.take k)/\qc v'=qc v:=by
 obtain ⟨h1,h2⟩:=h;rcases h2 with ⟨rfl,h0⟩|⟨b,off,cap,rfl,hc,h3⟩
 ·have:l=[]:=by simpa using h0
  subst this;have:k=0:=by simpa using hk
  subst this;exact ⟨.slice none 0 0,by simp [qx,zz,xB],TSl.nil m,rfl⟩
 ·refine ⟨.slice (some ⟨b,off,none⟩) k cap,?_,⟨E.zd _,.inr ⟨b,off,cap,by rw [ltI,Nat.min_eq_left hk],by rw [ltI]; omega,?_⟩⟩,rfl⟩
  ·have hb:zz l.length cap none (some (.int .i64 (k:Int)))=some (0,k):=by
    have:(0:Int)<=(k:Int)/\(k:Int)<=(cap:Int):=by omega
    simp only [zz,xB,if_pos this,bmI,Option.map_some];simp
   simp only [qx,hb,bmI,true_or,if_true];simp
  ·rw [ltI,Nat.min_eq_left hk];rcases h3 with h3|⟨c,h4,h5,h6⟩
   ·exact .inl (by omega)
   ·have:k * E.size<=l.length * E.size:=Nat.mul_le_mul_right _ hk;refine .inr ⟨c,h4,by omega,?_⟩;rw [<- E.ZS,h6,List.take_take];congr 1;omega
end
section
variable {α:Type} {E:Enc α} {e:TypeId}
end
theorem xj (a b c vs:List Value) (h:b.length=vs.length):qQ (a++(b++c)) a.length vs=a++(vs++c):=by
 apply List.ext_getElem?;intro j;rw [vP vs _ _ j (by simp [h])];by_cases h1:j<a.length
 ·rw [if_neg (by omega),List.getElem?_append_left h1,List.getElem?_append_left h1]
 ·by_cases h2:j<a.length+vs.length
  ·rw [if_pos ⟨by omega,h2⟩,List.getElem?_append_right (by omega),List.getElem?_append_left (by omega)]
  ·rw [if_neg (by omega),List.getElem?_append_right (by omega),List.getElem?_append_right (by omega),List.getElem?_append_right (by omega),List.getElem?_append_right (by omega),h]
section
variable {α:Type} {E:Enc α} {e:TypeId}
end
theorem WT.int {P:Program} {B:Nat} {m:Mem} {n:Nat} {t:TypeId} {k:IntKind} {cs:List Value} (hd:P.underlying t=some (.int k)) (h:WTB P B m (n+1) t cs):∃ x,cs=[.int k x]/\(Lit.int k x).wf=true:=by
 unfold WTB at h; rw [hd] at h; exact h
theorem WT.bool {P:Program} {B:Nat} {m:Mem} {n:Nat} {t:TypeId} {cs:List Value} (hd:P.underlying t=some .bool) (h:WTB P B m (n+1) t cs):∃ b,cs=[.bool b]:=by
 unfold WTB at h; rw [hd] at h; exact h
theorem WT.string {P:Program} {B:Nat} {m:Mem} {n:Nat} {t:TypeId} {cs:List Value} (hd:P.underlying t=some .string) (h:WTB P B m (n+1) t cs):∃ s:ByteArray,cs=[.string s]/\s.size<=B:=by
 unfold WTB at h; rw [hd] at h; exact h
def Kr (P:Program) (B:Nat) (m:Mem) (n:Nat):List TypeId->List Value->Prop
 | [],cs=>cs=[]
 | t::ts,cs=>∃ p r,cs=p++r/\WTB P B m n t p/\Kr P B m n ts r
theorem Ve {P:Program} {B:Nat} {m:Mem} {n:Nat}:∀ (ts:List TypeId) (cs:List Value) (ps:List (List Value)),ps.flatten=cs->ps.length=ts.length->(∀ (i:Nat) t p,ts[i]? = some t->ps[i]? = some p->WTB P B m n t p)->Kr P B m n ts cs
 | [],cs,ps,h,hl,_=>by
  have:ps=[]:=by simpa using hl
  subst this;exact h.symm
 | t::ts,cs,[],h,hl,_=>by simp at hl
 | t::ts,cs,p::ps,h,hl,hw=>⟨p,ps.flatten,by rw [<- h]; rfl,hw 0 t p rfl rfl,Ve ts _ ps rfl (by simpa using hl) (λi t p ht hp=>hw (i+1) t p (by simpa using ht) (by simpa using hp))⟩
theorem WT.struct {P:Program} {B:Nat} {m:Mem} {n:Nat} {t:TypeId} {fs:Array Field} {cs:List Value} (hd:P.underlying t=some (.struct fs)) (ht:vx P fs.toList 0 (P.cellsOf t)=true) (h:WTB P B m (n+1) t cs):Kr P B m n (fs.toList.map (·.type)) cs:=by
 unfold WTB at h;rw [hd] at h;obtain ⟨hl,hall⟩:=h;have:=vh (P:=P) fs.toList 0 _ cs ht hl;rw [List.drop_zero] at this;refine Ve _ _ _ this (by simp) (λi t p ht hp=>?_);simp only [List.getElem?_map,msI] at ht hp;obtain ⟨f,hf,rfl⟩:=ht;obtain ⟨g,hg,rfl⟩:=hp;rw [hf] at hg; cases hg
 exact hall f (List.mem_of_getElem? hf)
theorem one_of {v u:Value} (hna:∀ xs,v≠.agg xs) (h:v.cells.toList=[u]):v=u:=by
 cases v with
 | agg xs=>exact absurd rfl (hna xs)
 | _=>simpa [Value.cells] using h
def YI (P:Program) (t:TypeId):Option (List TypeId):=match P.underlying t with
 | some (.struct fs)=>if vx P fs.toList 0 (P.cellsOf t)=true then some (fs.toList.map (·.type)) else none
 | _=>none
theorem WT.qhx {P:Program} {B:Nat} {m:Mem} {n:Nat} {t:TypeId} {ts:List TypeId} {cs:List Value} (hd:YI P t=some ts) (h:WTB P B m (n+1) t cs):Kr P B m n ts cs:=by
 unfold YI at hd;split at hd
 ·rename_i fs hf;split at hd
  ·rename_i ht;cases hd
   exact WT.struct hf ht h
  ·cases hd
 ·cases hd
theorem typed {α:Type} (E:Enc α) {q:List Value->Prop} {p:α->Prop} (hq:∀ cs,q cs->∃ a,cs=E.cells a/\p a):∀ (k:Nat) (cells:List Value),cells.length=k * E.size->(∀ i,i<k->q ((cells.drop (i * E.size)).take E.size)) ->
  ∃ l:List α,cells=E.flat l/\l.length=k/\∀ a∈l,p a
 | 0,cells,h,_=>⟨[],by simpa [Enc.flat] using h,rfl,λa ha=>by cases ha⟩
 | k+1,cells,h,hall=>by
  obtain ⟨a,ha,hpa⟩:=hq _ (by simpa using hall 0 (by omega));obtain ⟨l,hl,hk,hp⟩:=typed E hq k (cells.drop E.size) (by rw [ldI,h,Nat.add_mul]; omega) (λi hi=>by
   have:=hall (i+1) (by omega);rw [List.drop_drop];rw [show E.size+i * E.size=(i+1) * E.size by rw [Nat.add_mul]; omega];exact this)
  refine ⟨a::l,?_,by simp [hk],λb hb=>?_⟩
  ·rw [E.jw,<- ha,<- hl,List.take_append_drop]
  ·rcases lcI.1 hb with rfl|hb
   ·exact hpa
   ·exact hp b hb
theorem WT.qjm {P:Program} {B:Nat} {α:Type} (E:Enc α) {p:α->Prop} {m:Mem} {n:Nat} {t e:TypeId} {v:Value} (hd:P.underlying t=some (.slice e)) (hs:P.cellsOf e=E.size) (hs0:0<E.size) (hok:okT P n e=true)
  (hq:∀ cs,WTB P B m n e cs->∃ a,cs=E.cells a/\p a) (h:WTB P B m (n+1) t v.cells.toList) (hna:∀ xs,v≠.agg xs) :
  ∃ l:List α,TSl E m v l/\(l.length<=maxLen/\l.length * P.bytesOf e<=B)/\(∀ b∈qc v,b<m.next)/\∀ a∈l,p a:=by
 obtain ⟨k,cells,h1,h2,h3,_,h5⟩:=WT.slice hd hs hs0 hok h hna;obtain ⟨l,rfl,rfl,h6⟩:=typed E hq k cells h1.1 h5;exact ⟨l,h1,h2,h3,h6⟩
end Go.Fx
namespace Go.Fx
open Go
abbrev Rq:=Req × Value × Nat × Nat
end Go.Fx
namespace Go.Fx
open Go
def qcy (t:Nat):Nat:=1 <<< t
def lks:List Nat->Nat->Nat
 | [],L=>L
 | t::l,L=>lks l L ||| qcy t
def clr (L:Nat):Option Nat->Nat
 | none=>L
 | some t=>if L.testBit t then L ^^^ qcy t else L
theorem VF (t j:Nat):(qcy t).testBit j=decide (t=j):=by
 unfold qcy; rw [Nat.one_shiftLeft]; exact Nat.testBit_two_pow
theorem WA (j:Nat):∀ (l:List Nat) (L:Nat),(lks l L).testBit j=true↔j∈l∨L.testBit j=true
 | [],L=>by simp [lks]
 | t::l,L=>by
  simp only [lks,Nat.testBit_or,Bool.or_eq_true,WA j l L,VF,decide_eq_true_eq,lcI];constructor
  ·rintro ((h|h)|h)
   ·exact .inl (.inr h)
   ·exact .inr h
   ·exact .inl (.inl h.symm)
  ·rintro ((h|h)|h)
   ·exact .inr h.symm
   ·exact .inl (.inl h)
   ·exact .inl (.inr h)
theorem qil {L:Nat} {d:Option Nat} {j:Nat} (h:L.testBit j=true) (hd:d≠some j):(clr L d).testBit j=true:=by
 cases d with
 | none=>exact h
 | some t =>
  have ht:t≠j:=λe=>hd (by rw [e])
  simp only [clr];split
  ·simp [Nat.testBit_xor,h,VF,ht]
  ·exact h
def AgM (L:Nat) (ts us:List Value):Prop:=∀ t,L.testBit t=true->ts[t]? = us[t]?
theorem AgM.mono {L K:Nat} {ts us:List Value} (h:AgM L ts us) (hk:∀ t,K.testBit t=true->L.testBit t=true):AgM K ts us:=λt ht=>h t (hk t ht)
theorem AgM.symm {L:Nat} {ts us:List Value} (h:AgM L ts us):AgM L us ts:=λt ht=>(h t ht).symm
theorem AgM.agree {l:List Nat} {L:Nat} {ts us:List Value} (h:AgM (lks l L) ts us):jW l ts us:=λt ht=>h t ((WA t l L).2 (.inl ht))
theorem AgM.rest {l:List Nat} {L:Nat} {ts us:List Value} (h:AgM (lks l L) ts us):AgM L ts us:=h.mono λt ht=>(WA t l L).2 (.inr ht)
theorem AgM.qfn {L K:Nat} {ts us:List Value} (h:AgM (L ||| K) ts us):AgM L ts us:=h.mono λt ht=>by simp [Nat.testBit_or,ht]
theorem AgM.qdB {L K:Nat} {ts us:List Value} (h:AgM (L ||| K) ts us):AgM K ts us:=h.mono λt ht=>by simp [Nat.testBit_or,ht]
theorem AgM.put {L:Nat} {d:Option Nat} {ts us:List Value} (h:AgM (clr L d) ts us) (hl:ts.length=us.length) (v:Value):AgM L (ja ts d v) (ja us d v):=by
 intro t ht;rw [jE,jE,hl];by_cases e:d=some t/\t<us.length
 ·rw [if_pos e,if_pos e]
 ·rw [if_neg e,if_neg e];by_cases hd:d=some t
  ·have:¬ t<us.length:=λhlt=>e ⟨hd,hlt⟩
   rw [List.getElem?_eq_none (by omega),List.getElem?_eq_none (by omega)]
  ·exact h t (qil ht hd)
def jv:List AOper->Nat->Nat
 | [],L=>L
 | o::r,L=>lks o.looks (clr (jv r L) o.dst)
theorem Qz {o:AOper} {ts us:List Value} (h:jW o.looks ts us):zh ts o.guard=zh us o.guard:=by
 unfold AOper.looks at h;have h2:=h.right;cases hg:o.guard with
 | none=>rfl
 | some p =>
  obtain ⟨t,w⟩:=p;rw [hg] at h2;simp only [zh];rw [h2 t (by simp)]
def qli (L:Nat):Option (List Value × Mem)->Option (List Value × Mem)->Prop
 | none,none=>True
 | some (ts,m),some (us,m')=>m=m'/\ts.length=us.length/\AgM L ts us
 | _,_=>False
theorem yd (call:zj) (L:Nat):∀ (ops:List AOper) (ts us:List Value) (m:Mem),ts.length=us.length->AgM (jv ops L) ts us->qli L (xc call ops ts m) (xc call ops us m)
 | [],ts,us,m,hl,h=>⟨rfl,hl,h⟩
 | o::r,ts,us,m,hl,h=>by
  simp only [jv] at h;have ha:=h.agree;simp only [xc,Qz ha];have hs:zA call ts m o.op=zA call us m o.op:=jr call m ha.left;rw [hs];split
  ·cases zA call us m o.op with
   | none=>exact trivial
   | some p=>exact yd call L r _ _ _ (by simp [jk,hl]) (h.rest.put hl _)
  ·exact yd call L r _ _ _ (by simp [jk,hl]) (h.rest.put hl _)
def RTr (L:Nat):Option Tr->Option Tr->Prop
 | none,none=>True
 | some (ts,m,x),some (us,m',y)=>m=m'/\x=y/\ts.length=us.length/\AgM L ts us
 | _,_=>False
theorem RTr.map {L:Nat} {a b:Option Tr} (h:RTr L a b) (f:List Mem × List (Req × Value × Nat × Nat)->List Mem × List (Req × Value × Nat × Nat)) :
  RTr L (a.map λx=>(x.1,x.2.1,f x.2.2)) (b.map λx=>(x.1,x.2.1,f x.2.2)):=by
 cases a with
 | none=>cases b with
  | none=>exact trivial
  | some _=>exact h.elim
 | some x=>cases b with
  | none=>exact h.elim
  | some y =>
   obtain ⟨h1,h2,h3,h4⟩:=h;exact ⟨h1,congrArg f h2,h3,h4⟩
theorem kt (call:zj) (L:Nat):∀ (ops:List AOper) (lh:List (Nat × Nat)) (ts us:List Value) (m:Mem),ts.length=us.length->AgM (jv ops L) ts us->RTr L (xQ call ops lh ts m) (xQ call ops lh us m)
 | [],lh,ts,us,m,hl,h=>⟨rfl,rfl,hl,h⟩
 | o::r,lh,ts,us,m,hl,h=>by
  simp only [jv] at h;have ha:=h.agree;simp only [xQ,Qz ha];have hs:zA call ts m o.op=zA call us m o.op:=jr call m ha.left;have hq:o.op.req ts=o.op.req us:=yD ha.left;have hp:∀ v,AgM (jv r L) (ja ts o.dst v) (ja us o.dst v):=λv=>h.rest.put hl v
  have hll:∀ v,(ja ts o.dst v).length=(ja us o.dst v).length:=λv=>by simp [jk,hl]
  split
  ·split
   ·rw [hs];cases zA call us m o.op with
    | none=>exact trivial
    | some p=>exact (kt call L r lh.tail _ _ p.2 (hll _) (hp _)).map λx=>(m::x.1,x.2)
   ·rw [hq];cases o.op.req us with
    | none=>exact trivial
    | some q =>
     simp only [bmI];cases q.run m with
     | none=>exact trivial
     | some v=>exact (kt call L r lh.tail _ _ m (hll _) (hp _)).map λx=>(x.1,(q,v,lh.headD (0,0))::x.2)
   ·rename_i hc;have hs':o.op.run ts m=o.op.run us m:=by
     have hn:o.op.vC=false:=by cases he:o.op<;>first|rfl|(rw [he] at hc; cases hc)
     rw [zJ call ts m hn,zJ call us m hn] at hs;exact hs
    rw [hs'];cases o.op.run us m with
    | none=>exact trivial
    | some p=>exact kt call L r lh.tail _ _ m (hll _) (hp _)
  ·split
   ·exact (kt call L r lh.tail _ _ m (hll _) (hp _)).map λx=>(m::x.1,x.2)
   ·exact kt call L r lh.tail _ _ m (hll _) (hp _)
theorem KV (call:zj) (L:Nat) (ops:List AOper) (lh:List (Nat × Nat)) (ts us:List Value) (m:Mem) (hl:ts.length=us.length) (h:AgM (jv ops L) ts us):qli L (kQ call ops lh ts m) (kQ call ops lh us m):=by
 have:=kt call L ops lh ts us m hl h;simp only [kQ];cases ha:xQ call ops lh ts m with
 | none=>rw [ha] at this; cases hb:xQ call ops lh us m with
  | none=>exact trivial
  | some _=>rw [hb] at this; exact this.elim
 | some x=>rw [ha] at this; cases hb:xQ call ops lh us m with
  | none=>rw [hb] at this; exact this.elim
  | some y =>
   rw [hb] at this;obtain ⟨h1,h2,h3,h4⟩:=this;simp only [bmI,h2];split
   ·exact ⟨h1,h3,h4⟩
   ·exact trivial
theorem QW (b L:Nat):∀ ops:List AOper,jv (ops.map (jA b)) L=jv ops L
 | []=>rfl
 | o::r=>by simp only [List.map_cons,jv,Jw,QH,QW b L r]
abbrev Env:=List (Nat × Nat)
def lkp:Env->Nat->Nat
 | [],_=>0
 | (i,L)::r,j=>if j=i then L else lkp r j
def qgc (f:Nat->Option Nat):Nat->Nat->Option Nat
 | 0,_=>none
 | n+1,L=>(f L).bind λK=>if K ||| L=L then some L else qgc f n (K ||| L)
theorem qcs {f:Nat->Option Nat}:∀ {n L X:Nat},qgc f n L=some X->∃ K,f X=some K/\∀ t,K.testBit t=true->X.testBit t=true
 | 0,_,_,h=>by simp [qgc] at h
 | n+1,L,X,h=>by
  simp only [qgc,bsI] at h;obtain ⟨K,hK,h⟩:=h;split at h
  ·rename_i he;cases h
   refine ⟨K,hK,λt ht=>?_⟩;rw [<- he,Nat.testBit_or,ht]; rfl
  ·exact qcs h
def vO:ACode->Nat->Env->Nat->Option Nat
 | .skip,N,_,_=>some N
 | .region ops,N,_,_=>some (jv ops N)
 | .draw ops _,N,_,_=>some (jv ops N)
 | .drawF ops _,N,_,_=>some (jv ops N)
 | .seq a b,N,E,R=>(vO b N E R).bind λK=>vO a K E R
 | .cond c a b,N,E,R=>(vO a N E R).bind λA=>(vO b N E R).map λB=>lks (opT c) (A ||| B)
 | .block id a,N,E,R=>vO a N ((id,N)::E) R
 | .loop a,_,E,R=>qgc (λK=>vO a K E R) 20 0
 | .exit id,_,E,_=>some (lkp E id)
 | .ret,_,_,R=>some R
 | .stop,_,_,_=>some 0
def wm (N:Nat) (E:Env) (R:Nat):AEx->Nat
 | .normal=>N
 | .exit id=>lkp E id
 | .ret=>R
def RO (N:Nat) (E:Env) (R:Nat):Option Out->Option Out->Prop
 | none,none=>True
 | some (e,ts,m),some (e',us,m')=>e=e'/\m=m'/\ts.length=us.length/\AgM (wm N E R e) ts us
 | _,_=>False
theorem JR {f:List Value->Mem->Option Out} {L N:Nat} {E:Env} {R:Nat} (h:∀ ts us m,ts.length=us.length->AgM L ts us->RO L E R (f ts m) (f us m)) :
  ∀ (n:Nat) (ts us:List Value) (m:Mem),ts.length=us.length->AgM L ts us->RO N E R (kU f n ts m) (kU f n us m)
 | 0,_,_,_,_,_=>trivial
 | n+1,ts,us,m,hl,ha=>by
  have:=h ts us m hl ha;simp only [kU];cases hx:f ts m with
  | none=>rw [hx] at this; cases hy:f us m with
   | none=>exact trivial
   | some _=>rw [hy] at this; exact this.elim
  | some x=>rw [hx] at this; cases hy:f us m with
   | none=>rw [hy] at this; exact this.elim
   | some y =>
    rw [hy] at this;obtain ⟨e,ts',m1⟩:=x;obtain ⟨e',us',m2⟩:=y;obtain ⟨rfl,rfl,h3,h4⟩:=this;simp only [bmI];cases e with
    | normal=>exact JR h n _ _ _ h3 h4
    | exit id=>exact ⟨rfl,rfl,h3,h4⟩
    | ret=>exact ⟨rfl,rfl,h3,h4⟩
theorem qdR (call:zj) (n:Nat):∀ (a:ACode) (N:Nat) (E:Env) (R L:Nat),vO a N E R=some L->∀ (ts us:List Value) (m:Mem),ts.length=us.length->AgM L ts us->RO N E R (exec call n a ts m) (exec call n a us m):=by
 intro a
 induction a with
 | skip=>intro N E R L h ts us m hl ha; cases h; exact ⟨rfl,rfl,hl,ha⟩
 | exit id=>intro N E R L h ts us m hl ha; cases h; exact ⟨rfl,rfl,hl,ha⟩
 | ret=>intro N E R L h ts us m hl ha; cases h; exact ⟨rfl,rfl,hl,ha⟩
 | stop=>intro N E R L h ts us m hl ha; exact trivial
 | region ops =>
  intro N E R L h ts us m hl ha;cases h
  have:=yd call N ops ts us m hl ha;simp only [exec];cases hx:xc call ops ts m with
  | none=>rw [hx] at this; cases hy:xc call ops us m with
   | none=>exact trivial
   | some _=>rw [hy] at this; exact this.elim
  | some x=>rw [hx] at this; cases hy:xc call ops us m with
   | none=>rw [hy] at this; exact this.elim
   | some y=>rw [hy] at this; exact ⟨rfl,this.1,this.2.1,this.2.2⟩
 | draw ops lh =>
  intro N E R L h ts us m hl ha;cases h
  have:=KV call N ops lh ts us m hl ha;simp only [exec];cases hx:kQ call ops lh ts m with
  | none=>rw [hx] at this; cases hy:kQ call ops lh us m with
   | none=>exact trivial
   | some _=>rw [hy] at this; exact this.elim
  | some x=>rw [hx] at this; cases hy:kQ call ops lh us m with
   | none=>rw [hy] at this; exact this.elim
   | some y=>rw [hy] at this; exact ⟨rfl,this.1,this.2.1,this.2.2⟩
 | drawF ops lh =>
  intro N E R L h ts us m hl ha;cases h
  have:=KV call N (ops.map (jA m.next)) lh ts us (m.zu ops.length) hl (by rw [QW]; exact ha);simp only [exec];cases hx:kQ call (ops.map (jA m.next)) lh ts (m.zu ops.length) with
  | none=>rw [hx] at this; cases hy:kQ call (ops.map (jA m.next)) lh us (m.zu ops.length) with
   | none=>exact trivial
   | some _=>rw [hy] at this; exact this.elim
  | some x=>rw [hx] at this; cases hy:kQ call (ops.map (jA m.next)) lh us (m.zu ops.length) with
   | none=>rw [hy] at this; exact this.elim
   | some y=>rw [hy] at this; exact ⟨rfl,this.1,this.2.1,this.2.2⟩
 | seq x y ihx ihy =>
  intro N E R L h ts us m hl ha;simp only [vO,bsI] at h;obtain ⟨K,hK,h⟩:=h;have:=ihx K E R L h ts us m hl ha;simp only [exec];cases hx:exec call n x ts m with
  | none=>rw [hx] at this; cases hy:exec call n x us m with
   | none=>exact trivial
   | some _=>rw [hy] at this; exact this.elim
  | some p=>rw [hx] at this; cases hy:exec call n x us m with
   | none=>rw [hy] at this; exact this.elim
   | some q =>
    rw [hy] at this;obtain ⟨e,ts',m1⟩:=p;obtain ⟨e',us',m2⟩:=q;obtain ⟨rfl,rfl,h3,h4⟩:=this;simp only [bmI];cases e with
    | normal=>exact ihy N E R K hK _ _ _ h3 h4
    | exit id=>exact ⟨rfl,rfl,h3,h4⟩
    | ret=>exact ⟨rfl,rfl,h3,h4⟩
 | cond c x y ihx ihy =>
  intro N E R L h ts us m hl ha;simp only [vO,bsI,msI] at h;obtain ⟨A,hA,B,hB,rfl⟩:=h;simp only [exec];rw [qY ha.agree];cases zc us c with
  | none=>exact trivial
  | some v =>
   simp only [bmI];cases asB v with
   | none=>exact trivial
   | some t =>
    cases t
    ·exact ihy N E R B hB _ _ _ hl ha.rest.qdB
    ·exact ihx N E R A hA _ _ _ hl ha.rest.qfn
 | block id x ih =>
  intro N E R L h ts us m hl ha;simp only [vO] at h;have:=ih N ((id,N)::E) R L h ts us m hl ha;simp only [exec];cases hx:exec call n x ts m with
  | none=>rw [hx] at this; cases hy:exec call n x us m with
   | none=>exact trivial
   | some _=>rw [hy] at this; exact this.elim
  | some p=>rw [hx] at this; cases hy:exec call n x us m with
   | none=>rw [hy] at this; exact this.elim
   | some q =>
    rw [hy] at this;obtain ⟨e,ts',m1⟩:=p;obtain ⟨e',us',m2⟩:=q;obtain ⟨rfl,rfl,h3,h4⟩:=this;simp only [Option.map_some];cases e with
    | normal=>exact ⟨rfl,rfl,h3,h4⟩
    | exit j =>
     simp only;split
     ·rename_i hj;simp only [wm,lkp,if_pos hj] at h4;exact ⟨rfl,rfl,h3,h4⟩
     ·rename_i hj;simp only [wm,lkp,if_neg hj] at h4;exact ⟨rfl,rfl,h3,h4⟩
    | ret=>exact ⟨rfl,rfl,h3,h4⟩
 | loop x ih =>
  intro N E R L h ts us m hl ha;simp only [vO] at h;obtain ⟨K,hK,hs⟩:=qcs h;simp only [exec];refine JR (L:=L) (λts us m hl ha=>?_) n ts us m hl ha;exact ih L E R K hK ts us m hl (ha.mono hs)
theorem VM {S:zj} {tab:Tab} {a:ACode} {N:Nat} {E:Env} {R L:Nat} (h:vO a N E R=some L) {ts us:List Value} {m:Mem} (hl:ts.length=us.length) (ha:AgM L ts us):RO N E R (jX S tab a ts m) (jX S tab a us m):=by
 have key:∀ {ts us:List Value} {r:Out},ts.length=us.length->AgM L ts us->jX S tab a ts m=some r->∃ r',jX S tab a us m=some r'/\RO N E R (some r) (some r'):=by
  intro ts us r hl ha hx;obtain ⟨n,hn⟩:=zr.1 hx;have:=qdR (call S tab n) n a N E R L h ts us m hl ha;rw [hn] at this;cases hy:exec (call S tab n) n a us m with
  | none=>rw [hy] at this; exact this.elim
  | some r'=>rw [hy] at this; exact ⟨r',zr.2 ⟨n,hy⟩,this⟩
 cases hx:jX S tab a ts m with
 | some r =>
  obtain ⟨r',h1,h2⟩:=key hl ha hx;rw [h1]; exact h2
 | none =>
  cases hy:jX S tab a us m with
  | none=>exact trivial
  | some r =>
   obtain ⟨r',h1,_⟩:=key hl.symm ha.symm hy;rw [hx] at h1; cases h1
end Go.Fx
