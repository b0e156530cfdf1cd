/- Parts of a proof: FxDen, FxLib, FxTyp, FxDr. Conditions: none. -/
import Derived.Test.YtnngjdfadfblmaaGreatDoorQd9
namespace Go.Fx
open Go
set_option linter.unusedSimpArgs false
set_option linter.unusedVariables false
def LeC (c d:CallF):Prop:=∀ f a m r,c f a m=some r→d f a m=some r
theorem stepOp_mono {c d:CallF} (h:LeC c d) {ts:List Value} {m:Mem} {o:AOp} {r:Value × Mem} (e:stepOp c ts m o=some r):stepOp d ts m o=some r:=by
 cases o<;>try exact e
 ·simp only [stepOp,Option.bind_eq_some_iff] at e ⊢
  obtain ⟨l,hl,e⟩:=e
  exact ⟨l,hl,h _ _ _ _ e⟩
 ·simp only [stepOp,Option.bind_eq_some_iff] at e ⊢
  obtain ⟨v,hv,p,hp,l,hl,e⟩:=e
  exact ⟨v,hv,p,hp,l,hl,h _ _ _ _ e⟩
theorem runOps_mono {c d:CallF} (h:LeC c d):∀ {ops:List AOper} {ts:List Value} {m:Mem} {r:List Value × Mem},runOps c ops ts m=some r→runOps d ops ts m=some r
 | [],_,_,_,e=>e
 | o::ops,ts,m,r,e=>by
  simp only [runOps] at e ⊢
  split
  ·rename_i hw
   rw [if_pos hw] at e
   simp only [Option.bind_eq_some_iff] at e ⊢
   obtain ⟨p,hp,e⟩:=e
   exact ⟨p,stepOp_mono h hp,runOps_mono h e⟩
  ·rename_i hw
   rw [if_neg hw] at e
   exact runOps_mono h e
theorem runTr_mono {c d:CallF} (h:LeC c d):∀ {ops:List AOper} {lh:List (Nat × Nat)} {ts:List Value} {m:Mem} {r:Tr},runTr c ops lh ts m=some r→runTr d ops lh ts m=some r
 | [],_,_,_,_,e=>e
 | o::ops,lh,ts,m,r,e=>by
  simp only [runTr] at e ⊢
  split
  ·rename_i hw
   rw [if_pos hw] at e
   split
   ·rename_i hc
    rw [hc] at e
    simp only [Option.bind_eq_some_iff,Option.map_eq_some_iff] at e ⊢
    obtain ⟨p,hp,x,hx,rfl⟩:=e
    exact ⟨p,stepOp_mono h hp,x,runTr_mono h hx,rfl⟩
   ·rename_i hc
    rw [hc] at e
    simp only [Option.bind_eq_some_iff,Option.map_eq_some_iff] at e ⊢
    obtain ⟨q,hq,v,hv,x,hx,rfl⟩:=e
    exact ⟨q,hq,v,hv,x,runTr_mono h hx,rfl⟩
   ·rename_i hc
    rw [hc] at e
    simp only [Option.bind_eq_some_iff] at e ⊢
    obtain ⟨p,hp,e⟩:=e
    exact ⟨p,hp,runTr_mono h e⟩
  ·rename_i hw
   rw [if_neg hw] at e
   split
   ·rename_i hc
    rw [hc] at e
    simp only [Option.map_eq_some_iff] at e ⊢
    obtain ⟨x,hx,rfl⟩:=e
    exact ⟨x,runTr_mono h hx,rfl⟩
   ·rename_i hc
    split at e
    ·rename_i hc'; exact absurd hc' hc
    ·exact runTr_mono h e
theorem runD_mono {c d:CallF} (h:LeC c d) {ops:List AOper} {lh:List (Nat × Nat)} {ts:List Value} {m:Mem} {r:List Value × Mem} (e:runD c ops lh ts m=some r):runD d ops lh ts m=some r:=by
 simp only [runD,Option.bind_eq_some_iff] at e ⊢
 obtain ⟨x,hx,e⟩:=e
 exact ⟨x,runTr_mono h hx,e⟩
theorem loopN_mono {f g:List Value→Mem→Option Out} (h:∀ ts m r,f ts m=some r→g ts m=some r):∀ {n k:Nat} {ts:List Value} {m:Mem} {r:Out},n≤k→loopN f n ts m=some r→loopN g k ts m=some r
 | 0,_,_,_,_,_,e=>by simp [loopN] at e
 | n+1,k,ts,m,r,hk,e=>by
  obtain ⟨j,rfl⟩:∃ j,k=j+1:=⟨k - 1,by omega⟩
  simp only [loopN,Option.bind_eq_some_iff] at e ⊢
  obtain ⟨⟨e1,ts1,m1⟩,h1,e⟩:=e
  refine ⟨_,h _ _ _ h1,?_⟩
  cases e1 with
  | normal=>exact loopN_mono h (by omega) e
  | exit _=>exact e
  | ret=>exact e
theorem exec_mono {c d:CallF} (h:LeC c d) {n k:Nat} (hk:n≤k):∀ {a:ACode} {ts:List Value} {m:Mem} {r:Out},exec c n a ts m=some r→exec d k a ts m=some r:=by
 intro a
 induction a with
 | skip=>intro ts m r e; exact e
 | exit id=>intro ts m r e; exact e
 | ret=>intro ts m r e; exact e
 | stop=>intro ts m r e; exact e
 | region ops =>
  intro ts m r e
  simp only [exec,Option.map_eq_some_iff] at e ⊢
  obtain ⟨x,hx,rfl⟩:=e
  exact ⟨x,runOps_mono h hx,rfl⟩
 | draw ops lh =>
  intro ts m r e
  simp only [exec,Option.map_eq_some_iff] at e ⊢
  obtain ⟨x,hx,rfl⟩:=e
  exact ⟨x,runD_mono h hx,rfl⟩
 | drawF ops lh =>
  intro ts m r e
  simp only [exec,Option.map_eq_some_iff] at e ⊢
  obtain ⟨x,hx,rfl⟩:=e
  exact ⟨x,runD_mono h hx,rfl⟩
 | seq x y ihx ihy =>
  intro ts m r e
  simp only [exec,Option.bind_eq_some_iff] at e ⊢
  obtain ⟨⟨e1,ts1,m1⟩,h1,e⟩:=e
  refine ⟨_,ihx h1,?_⟩
  cases e1 with
  | normal=>exact ihy e
  | exit _=>exact e
  | ret=>exact e
 | cond x p q ihp ihq =>
  intro ts m r e
  simp only [exec,Option.bind_eq_some_iff] at e ⊢
  obtain ⟨v,hv,t,ht,e⟩:=e
  refine ⟨v,hv,t,ht,?_⟩
  cases t
  ·exact ihq e
  ·exact ihp e
 | block id x ih =>
  intro ts m r e
  simp only [exec,Option.map_eq_some_iff] at e ⊢
  obtain ⟨x,hx,rfl⟩:=e
  exact ⟨x,ih hx,rfl⟩
 | loop x ih =>
  intro ts m r e
  simp only [exec] at e ⊢
  exact loopN_mono (fun _ _ _ hh=>ih hh) hk e
theorem call_S {S:CallF} {tab:Tab} {f:FuncId} {a:List Value} {m:Mem} {r:Value × Mem} (h:S f a m=some r):∀ n,call S tab n f a m=some r
 | 0=>h
 | n+1=>by simp only [call,h]
theorem call_le (S:CallF) (tab:Tab):∀ {n k:Nat},n≤k→LeC (call S tab n) (call S tab k)
 | 0,k,_,f,a,m,r,e=>call_S e k
 | n+1,k,hk,f,a,m,r,e=>by
  obtain ⟨j,rfl⟩:∃ j,k=j+1:=⟨k - 1,by omega⟩
  simp only [call] at e ⊢
  split
  ·rename_i hs; rw [hs] at e; exact e
  ·rename_i hs
   rw [hs] at e
   simp only [body,Option.bind_eq_some_iff] at e ⊢
   obtain ⟨fn,hf,o,ho,e⟩:=e
   exact ⟨fn,hf,o,exec_mono (call_le S tab (by omega)) (by omega) ho,e⟩
open Classical in
noncomputable def lim {α:Type} (p:Nat→Option α):Option α:=if h:∃ r n,p n=some r then some (Classical.choose h) else none
theorem lim_iff {α:Type} {p:Nat→Option α} (hp:∀ n k r,n≤k→p n=some r→p k=some r) (r:α):lim p=some r↔∃ n,p n=some r:=by
 unfold lim
 constructor
 ·intro h
  split at h
  ·rename_i hex
   cases h
   exact Classical.choose_spec hex
  ·cases h
 ·rintro ⟨n,hn⟩
  have hex:∃ r n,p n=some r:=⟨r,n,hn⟩
  rw [dif_pos hex]
  obtain ⟨k,hk⟩:=Classical.choose_spec hex
  have h1:=hp n (max n k) r (Nat.le_max_left ..) hn
  have h2:=hp k (max n k) _ (Nat.le_max_right ..) hk
  rw [h1] at h2
  exact h2.symm
noncomputable def Call (S:CallF) (tab:Tab):CallF:=fun f a m=>lim fun n=>call S tab n f a m
noncomputable def Exec (S:CallF) (tab:Tab) (c:ACode) (ts:List Value) (m:Mem):Option Out:=lim fun n=>exec (call S tab n) n c ts m
section
variable {S:CallF} {tab:Tab}
theorem Call_iff {f:FuncId} {a:List Value} {m:Mem} {r:Value × Mem}:Call S tab f a m=some r↔∃ n,call S tab n f a m=some r :=
 lim_iff (fun _ _ _ hk h=>call_le S tab hk _ _ _ _ h) r
theorem Exec_iff {c:ACode} {ts:List Value} {m:Mem} {r:Out}:Exec S tab c ts m=some r↔∃ n,exec (call S tab n) n c ts m=some r :=
 lim_iff (fun _ _ _ hk h=>exec_mono (call_le S tab hk) hk h) r
theorem call_Call (n:Nat):LeC (call S tab n) (Call S tab):=fun _ _ _ _ h=>Call_iff.2 ⟨n,h⟩
theorem stepOp_iff {ts:List Value} {m:Mem} {o:AOp} {r:Value × Mem}:stepOp (Call S tab) ts m o=some r↔∃ n,stepOp (call S tab n) ts m o=some r:=by
 constructor
 ·intro h
  cases o<;>try exact ⟨0,h⟩
  ·simp only [stepOp,Option.bind_eq_some_iff] at h ⊢
   obtain ⟨l,hl,h⟩:=h
   obtain ⟨n,hn⟩:=Call_iff.1 h
   exact ⟨n,l,hl,hn⟩
  ·simp only [stepOp,Option.bind_eq_some_iff] at h ⊢
   obtain ⟨v,hv,p,hp,l,hl,h⟩:=h
   obtain ⟨n,hn⟩:=Call_iff.1 h
   exact ⟨n,v,hv,p,hp,l,hl,hn⟩
 ·rintro ⟨n,h⟩
  exact stepOp_mono (call_Call n) h
theorem runOps_iff:∀ {ops:List AOper} {ts:List Value} {m:Mem} {r:List Value × Mem},runOps (Call S tab) ops ts m=some r↔∃ n,runOps (call S tab n) ops ts m=some r
 | [],ts,m,r=>⟨fun h=>⟨0,h⟩,fun ⟨_,h⟩=>h⟩
 | o::ops,ts,m,r=>by
  constructor
  ·intro h
   simp only [runOps] at h ⊢
   split at h
   ·rename_i hw
    simp only [hw,if_true]
    simp only [Option.bind_eq_some_iff] at h ⊢
    obtain ⟨p,hp,h⟩:=h
    obtain ⟨n,hn⟩:=stepOp_iff.1 hp
    obtain ⟨k,hk⟩:=runOps_iff.1 h
    exact ⟨max n k,p,stepOp_mono (call_le S tab (Nat.le_max_left ..)) hn,runOps_mono (call_le S tab (Nat.le_max_right ..)) hk⟩
   ·rename_i hw
    simp only [hw]
    obtain ⟨k,hk⟩:=runOps_iff.1 h
    exact ⟨k,hk⟩
  ·rintro ⟨n,h⟩
   exact runOps_mono (call_Call n) h
theorem runTr_iff:∀ {ops:List AOper} {lh:List (Nat × Nat)} {ts:List Value} {m:Mem} {r:Tr},runTr (Call S tab) ops lh ts m=some r↔∃ n,runTr (call S tab n) ops lh ts m=some r
 | [],lh,ts,m,r=>⟨fun h=>⟨0,h⟩,fun ⟨_,h⟩=>h⟩
 | o::ops,lh,ts,m,r=>by
  constructor
  ·intro h
   simp only [runTr] at h ⊢
   split at h
   ·rename_i hw
    simp only [hw,if_true]
    split at h
    ·simp only [Option.bind_eq_some_iff,Option.map_eq_some_iff] at h ⊢
     obtain ⟨p,hp,x,hx,rfl⟩:=h
     obtain ⟨n,hn⟩:=stepOp_iff.1 hp
     obtain ⟨k,hk⟩:=runTr_iff.1 hx
     exact ⟨max n k,p,stepOp_mono (call_le S tab (Nat.le_max_left ..)) hn,x,runTr_mono (call_le S tab (Nat.le_max_right ..)) hk,rfl⟩
    ·simp only [Option.bind_eq_some_iff,Option.map_eq_some_iff] at h ⊢
     obtain ⟨q,hq,v,hv,x,hx,rfl⟩:=h
     obtain ⟨k,hk⟩:=runTr_iff.1 hx
     exact ⟨k,q,hq,v,hv,x,hk,rfl⟩
    ·simp only [Option.bind_eq_some_iff] at h ⊢
     obtain ⟨p,hp,h⟩:=h
     obtain ⟨k,hk⟩:=runTr_iff.1 h
     exact ⟨k,p,hp,hk⟩
   ·rename_i hw
    simp only [hw]
    split at h
    ·simp only [Option.map_eq_some_iff] at h
     obtain ⟨x,hx,rfl⟩:=h
     obtain ⟨k,hk⟩:=runTr_iff.1 hx
     exact ⟨k,by rw [if_neg (by simp)]; exact Option.map_eq_some_iff.2 ⟨x,hk,rfl⟩⟩
    ·rename_i hc
     obtain ⟨k,hk⟩:=runTr_iff.1 h
     refine ⟨k,?_⟩
     rw [if_neg (by simp)]
     exact hk
  ·rintro ⟨n,h⟩
   exact runTr_mono (call_Call n) h
theorem Exec_skip {ts:List Value} {m:Mem}:Exec S tab .skip ts m=some (.normal,ts,m):=Exec_iff.2 ⟨0,rfl⟩
theorem Exec_exit {id:Nat} {ts:List Value} {m:Mem}:Exec S tab (.exit id) ts m=some (.exit id,ts,m):=Exec_iff.2 ⟨0,rfl⟩
theorem Exec_ret {ts:List Value} {m:Mem}:Exec S tab .ret ts m=some (.ret,ts,m):=Exec_iff.2 ⟨0,rfl⟩
theorem Exec_region {ops:List AOper} {ts:List Value} {m:Mem}:Exec S tab (.region ops) ts m=(runOps (Call S tab) ops ts m).map fun r=>(.normal,r.1,r.2):=by
 apply Option.ext
 intro r
 rw [Exec_iff]
 simp only [exec,Option.map_eq_some_iff]
 constructor
 ·rintro ⟨n,x,hx,rfl⟩
  exact ⟨x,runOps_mono (call_Call n) hx,rfl⟩
 ·rintro ⟨x,hx,rfl⟩
  obtain ⟨n,hn⟩:=runOps_iff.1 hx
  exact ⟨n,x,hn,rfl⟩
theorem Exec_draw {ops:List AOper} {lh:List (Nat × Nat)} {ts:List Value} {m:Mem}:Exec S tab (.draw ops lh) ts m=(runD (Call S tab) ops lh ts m).map fun r=>(.normal,r.1,r.2):=by
 apply Option.ext
 intro r
 rw [Exec_iff]
 simp only [exec,Option.map_eq_some_iff]
 constructor
 ·rintro ⟨n,x,hx,rfl⟩
  exact ⟨x,runD_mono (call_Call n) hx,rfl⟩
 ·rintro ⟨x,hx,rfl⟩
  simp only [runD,Option.bind_eq_some_iff] at hx ⊢
  obtain ⟨y,hy,hx⟩:=hx
  obtain ⟨n,hn⟩:=runTr_iff.1 hy
  exact ⟨n,x,⟨y,hn,hx⟩,rfl⟩
theorem Exec_drawF {ops:List AOper} {lh:List (Nat × Nat)} {ts:List Value} {m:Mem}:Exec S tab (.drawF ops lh) ts m=(runD (Call S tab) (ops.map (setB m.next)) lh ts (m.bump ops.length)).map fun r=>(.normal,r.1,r.2):=by
 apply Option.ext
 intro r
 rw [Exec_iff]
 simp only [exec,Option.map_eq_some_iff]
 constructor
 ·rintro ⟨n,x,hx,rfl⟩
  exact ⟨x,runD_mono (call_Call n) hx,rfl⟩
 ·rintro ⟨x,hx,rfl⟩
  simp only [runD,Option.bind_eq_some_iff] at hx ⊢
  obtain ⟨y,hy,hx⟩:=hx
  obtain ⟨n,hn⟩:=runTr_iff.1 hy
  exact ⟨n,x,⟨y,hn,hx⟩,rfl⟩
def andThen (o:Option Out) (k:List Value→Mem→Option Out):Option Out:=o.bind fun r=>match r with
 | (.normal,ts,m)=>k ts m
 | r=>some r
theorem Exec_seq {a b:ACode} {ts:List Value} {m:Mem}:Exec S tab (.seq a b) ts m=andThen (Exec S tab a ts m) fun ts' m'=>Exec S tab b ts' m':=by
 apply Option.ext
 intro r
 rw [Exec_iff]
 simp only [exec,andThen,Option.bind_eq_some_iff]
 constructor
 ·rintro ⟨n,⟨e1,ts1,m1⟩,h1,h⟩
  refine ⟨_,Exec_iff.2 ⟨n,h1⟩,?_⟩
  cases e1 with
  | normal=>exact Exec_iff.2 ⟨n,h⟩
  | exit _=>exact h
  | ret=>exact h
 ·rintro ⟨⟨e1,ts1,m1⟩,h1,h⟩
  obtain ⟨n,hn⟩:=Exec_iff.1 h1
  cases e1 with
  | normal =>
   obtain ⟨k,hk⟩:=Exec_iff.1 h
   exact ⟨max n k,_,exec_mono (call_le S tab (Nat.le_max_left ..)) (Nat.le_max_left ..) hn,exec_mono (call_le S tab (Nat.le_max_right ..)) (Nat.le_max_right ..) hk⟩
  | exit _=>exact ⟨n,_,hn,h⟩
  | ret=>exact ⟨n,_,hn,h⟩
theorem Exec_cond {c:Operand} {a b:ACode} {ts:List Value} {m:Mem}:Exec S tab (.cond c a b) ts m=(aval ts c).bind fun v=>(asB v).bind fun t=>if t then Exec S tab a ts m else Exec S tab b ts m:=by
 apply Option.ext
 intro r
 rw [Exec_iff]
 simp only [exec,Option.bind_eq_some_iff]
 constructor
 ·rintro ⟨n,v,hv,t,ht,h⟩
  refine ⟨v,hv,t,ht,?_⟩
  cases t<;>exact Exec_iff.2 ⟨n,h⟩
 ·rintro ⟨v,hv,t,ht,h⟩
  cases t
  ·obtain ⟨n,hn⟩:=Exec_iff.1 h
   exact ⟨n,v,hv,false,ht,hn⟩
  ·obtain ⟨n,hn⟩:=Exec_iff.1 h
   exact ⟨n,v,hv,true,ht,hn⟩
def unblock (id:Nat):Out→Out
 | (.exit j,ts,m)=>if j=id then (.normal,ts,m) else (.exit j,ts,m)
 | r=>r
theorem Exec_block {id:Nat} {a:ACode} {ts:List Value} {m:Mem}:Exec S tab (.block id a) ts m=(Exec S tab a ts m).map (unblock id):=by
 apply Option.ext
 intro r
 rw [Exec_iff]
 simp only [exec,Option.map_eq_some_iff]
 constructor
 ·rintro ⟨n,x,hx,h⟩
  refine ⟨x,Exec_iff.2 ⟨n,hx⟩,?_⟩
  obtain ⟨e,ts1,m1⟩:=x
  cases e<;>exact h
 ·rintro ⟨x,hx,h⟩
  obtain ⟨n,hn⟩:=Exec_iff.1 hx
  refine ⟨n,x,hn,?_⟩
  obtain ⟨e,ts1,m1⟩:=x
  cases e<;>exact h
theorem Exec_loop {a:ACode} {ts:List Value} {m:Mem}:Exec S tab (.loop a) ts m=andThen (Exec S tab a ts m) fun ts' m'=>Exec S tab (.loop a) ts' m':=by
 apply Option.ext
 intro r
 rw [Exec_iff]
 simp only [andThen,Option.bind_eq_some_iff]
 constructor
 ·rintro ⟨n,h⟩
  simp only [exec] at h
  cases n with
  | zero=>simp [loopN] at h
  | succ n =>
   simp only [loopN,Option.bind_eq_some_iff] at h
   obtain ⟨⟨e1,ts1,m1⟩,h1,h⟩:=h
   refine ⟨_,Exec_iff.2 ⟨n+1,h1⟩,?_⟩
   cases e1 with
   | normal=>exact Exec_iff.2 ⟨n+1,loopN_mono (fun _ _ _ hh=>hh) (by omega) h⟩
   | exit _=>exact h
   | ret=>exact h
 ·rintro ⟨⟨e1,ts1,m1⟩,h1,h⟩
  obtain ⟨n,hn⟩:=Exec_iff.1 h1
  cases e1 with
  | normal =>
   obtain ⟨k,hk⟩:=Exec_iff.1 h
   refine ⟨max n k+1,?_⟩
   have g1:n≤max n k+1:=by have:=Nat.le_max_left n k; omega
   have g2:k≤max n k:=Nat.le_max_right n k
   simp only [exec,loopN,Option.bind_eq_some_iff]
   refine ⟨_,exec_mono (call_le S tab g1) g1 hn,?_⟩
   simp only [exec] at hk
   exact loopN_mono (fun _ _ _ hh=>exec_mono (call_le S tab (by omega)) (by omega) hh) g2 hk
  | exit _ =>
   refine ⟨n+1,?_⟩
   simp only [exec,loopN,Option.bind_eq_some_iff]
   exact ⟨_,exec_mono (call_le S tab (Nat.le_succ n)) (Nat.le_succ n) hn,h⟩
  | ret =>
   refine ⟨n+1,?_⟩
   simp only [exec,loopN,Option.bind_eq_some_iff]
   exact ⟨_,exec_mono (call_le S tab (Nat.le_succ n)) (Nat.le_succ n) hn,h⟩
def leave (rs:List ARes) (o:Option Out):Option (Value × Mem):=o.bind fun r=>match r with
 | (.exit _,_,_)=>none
 | (_,ts,m)=>(resVs ts m rs).map fun l=>(oneOf l,m)
theorem Call_eq {f:FuncId} {fn:AFunc} (hf:tab f=some fn) (args:List Value) (m:Mem) (hS:S f args m=none):Call S tab f args m=leave fn.results (Exec S tab fn.body (args++List.replicate (fn.ntmps - args.length) undef) m):=by
 apply Option.ext
 intro r
 rw [Call_iff]
 simp only [leave,Option.bind_eq_some_iff]
 constructor
 ·rintro ⟨n,h⟩
  cases n with
  | zero=>simp only [call,hS] at h; cases h
  | succ n =>
   simp only [call,hS,hf,Option.bind_some,body,Option.bind_eq_some_iff] at h
   obtain ⟨x,hx,h⟩:=h
   refine ⟨x,Exec_iff.2 ⟨n,hx⟩,?_⟩
   obtain ⟨e,ts1,m1⟩:=x
   cases e<;>exact h
 ·rintro ⟨x,hx,h⟩
  obtain ⟨n,hn⟩:=Exec_iff.1 hx
  refine ⟨n+1,?_⟩
  simp only [call,hS,hf,Option.bind_some,body,Option.bind_eq_some_iff]
  refine ⟨x,hn,?_⟩
  obtain ⟨e,ts1,m1⟩:=x
  cases e<;>exact h
theorem Call_S {f:FuncId} {args:List Value} {m:Mem} {r:Value × Mem} (h:S f args m=some r):Call S tab f args m=some r:=Call_iff.2 ⟨0,h⟩
end
section
variable {H:Type} {enc:TypeId × Value→H} {P:Program} {W:World}
theorem okWide_not_agg {r:Reach} {base:Nat} {t:TypeId} {v:Value} {W:World} (h:Value.okWide P W r base t v) (ht:aggT P t=some false):∀ xs,v≠.agg xs:=by
 rintro xs rfl
 unfold aggT at ht
 unfold Value.okWide at h
 cases hd:P.underlying t with
 | none=>rw [hd] at ht; cases ht
 | some d =>
  rw [hd] at ht h
  cases d<;>simp at ht<;>simp [Cell.okWide,Cell.ok,hd] at h
theorem sized_each {ts us:List TypeId} {ds gs:List (DataW H)} (h:(DataW.weightsEach P (ts++us) (ds++gs)).all (·≤reachBytes)=true):∀ (j:Nat) t d,ts[j]? = some t→ds[j]? = some d→∀ z∈d.weights P t,z≤reachBytes:=by
 intro j t d ht hd z hz
 have lt:∀ {α:Type} {l:List α} {j:Nat} {a:α},l[j]? = some a→j<l.length:=fun {α l j a} h=>by
  rcases Nat.lt_or_ge j l.length with h'|h'
  ·exact h'
  ·rw [List.getElem?_eq_none h'] at h; cases h
 have:=List.all_eq_true.1 h z (DataW.weights_mem_each (j:=j) (by rw [List.getElem?_append_left (lt ht)]; exact ht) (by rw [List.getElem?_append_left (lt hd)]; exact hd) z hz)
 simpa using this
theorem law_calls {f:FuncId} (hf:f<yBase:=by decide) {S:CallF} {tab:Tab} (hSok:CallOk P S) (hS:∀ f args m r,f<yBase→S f args m=some r→goodFn P f=true) (hm:P.follows .mixedOrders=true) (htab:TabOk P tab) (hgood:∀ f x,tab f=some x→goodFn P f=true) {n:Nat} {ts:List TypeId} {vs:List Value} {ds:List (DataW H)} {ps:List MemPlace}
  (h:DataW.TrodAll enc P W 0 (fun _=>true) true ts vs ds ps) (hsz:∀ (j:Nat) t d,ts[j]? = some t→ds[j]? = some d→∀ z∈d.weights P t,z≤reachBytes) (hok:∀ t∈ts,okT P n t=true) (hform:∀ (i:Nat) t v,ts[i]? = some t→vs[i]? = some v→aggT P t=some false→∀ xs,v≠.agg xs)
  (hlaw:∀ (m:Mem) (args:List Value),AllRo m→args.length=ts.length→(∀ (i:Nat) t (a:Value),ts[i]? = some t→args[i]? = some a→WT P m n t a.cells.toList∧(aggT P t=some false→∀ xs,a≠.agg xs))→∃ m',Call S tab f args m=some (.bool true,m')) :
  Calls P f vs.toArray W fun e w'=>e=.returned (.bool true)∧Go.RowKit.Below W.heap.size W w':=by
 obtain ⟨φ,m,args,hi,hr,_,_,hv,hl,hw⟩:=args_abs (P:=P) (n:=n) h hsz hok _ _ (Inv.empty W) allRo_empty
 obtain ⟨m',hcall'⟩:=hlaw m args hr hl (fun i t a ht ha=>⟨hw i t a ht ha,fun hag xs hx=>by
  obtain ⟨V,hV,hR⟩:=hv.get ha
  subst hx
  cases hR with
  | agg _ ys _ _=>exact hform i t _ ht hV hag ys rfl⟩)
 obtain ⟨N,hcall⟩:=Call_iff.1 hcall'
 refine ((sound_call hm hSok hS htab hgood N).fn f args m (.bool true) m' hf hcall φ W vs.toArray hi (by simpa using hv)).mono ?_
 rintro e w' ⟨V,φ',rfl,hV,_,hf⟩
 cases hV
 exact ⟨rfl,hf.below hr⟩
end
end Go.Fx
namespace Go.Fx
open Go
set_option linter.unusedSimpArgs false
set_option linter.unusedVariables false
structure Upd (fp:List Nat) (m m':Mem):Prop where
 next:m.next≤m'.next
 same:∀ b,b<m.next→b∉fp→m'.get b=m.get b
theorem Upd.refl (fp:List Nat) (m:Mem):Upd fp m m:=⟨Nat.le_refl _,fun _ _ _=>rfl⟩
theorem Upd.trans {fp:List Nat} {m m' m'':Mem} (h:Upd fp m m') (h':Upd fp m' m''):Upd fp m m'' :=
 ⟨Nat.le_trans h.next h'.next,fun b hb hn=>(h'.same b (Nat.lt_of_lt_of_le hb h.next) hn).trans (h.same b hb hn)⟩
theorem Upd.mono {fp gp:List Nat} {m m':Mem} (h:Upd fp m m') (hs:∀ b,b∈fp→b<m.next→b∈gp):Upd gp m m' :=
 ⟨h.next,fun b hb hn=>h.same b hb (fun hf=>hn (hs b hf hb))⟩
theorem Upd.trans_new {fp gp:List Nat} {m m' m'':Mem} (h:Upd fp m m') (h':Upd gp m' m'') (hs:∀ b∈gp,b∈fp∨m.next≤b):Upd fp m m'' :=
 ⟨Nat.le_trans h.next h'.next,fun b hb hn=>(h'.same b (Nat.lt_of_lt_of_le hb h.next) (fun hg=>(hs b hg).elim hn (fun hge=>by omega))).trans (h.same b hb hn)⟩
theorem Upd.add (fp:List Nat) (m:Mem) (x:ABlk):Upd fp m (m.add x) :=
 ⟨by simp,fun b hb _=>by rw [Mem.get_add,if_neg (by omega)]⟩
theorem Upd.put {fp:List Nat} (m:Mem) {b:Nat} (x:ABlk) (h:b∈fp):Upd fp m (m.put b x) :=
 ⟨Nat.le_refl _,fun c _ hn=>by rw [Mem.get_put,if_neg (by rintro rfl; exact hn h)]⟩
theorem Upd.kill {fp:List Nat} (m:Mem) {b:Nat} (h:b∈fp):Upd fp m (m.kill b) :=
 ⟨Nat.le_refl _,fun c _ hn=>by rw [Mem.get_kill,if_neg (by rintro rfl; exact hn h)]⟩
theorem cellsAt_of_get {m:Mem} {b:Nat} {c:List Value} {e:TypeId} {ro:Bool} {lo:Option Nat} (h:m.get b=some ⟨.cells c e,ro,lo⟩):m.cellsAt b=some c:=by simp [Mem.cellsAt,h]
theorem cellsAt_congr {m m':Mem} {b:Nat} (h:m'.get b=m.get b):m'.cellsAt b=m.cellsAt b:=by simp [Mem.cellsAt,h]
def blkOf:Value→List Nat
 | .slice (some a) _ _=>[a.block]
 | _=>[]
def Sl (size:Nat) (m:Mem) (v:Value) (n:Nat) (cells:List Value):Prop :=
 cells.length=n * size∧((v=.slice none 0 0∧n=0)∨∃ b off cap,v=.slice (some ⟨b,off,none⟩) n cap∧n≤cap ∧
  (n=0∨∃ c,m.cellsAt b=some c∧off+n * size≤c.length∧cells=(c.drop off).take (n * size)))
theorem Sl.mono {size:Nat} {m m':Mem} {v:Value} {n:Nat} {cells:List Value} (h:Sl size m v n cells) (hk:∀ b∈blkOf v,m'.get b=m.get b):Sl size m' v n cells:=by
 obtain ⟨h1,h2⟩:=h
 refine ⟨h1,h2.imp id ?_⟩
 rintro ⟨b,off,cap,rfl,hc,h3⟩
 refine ⟨b,off,cap,rfl,hc,h3.imp id ?_⟩
 rintro ⟨c,h4,h5⟩
 exact ⟨c,by rw [cellsAt_congr (hk b (by simp [blkOf]))]; exact h4,h5⟩
theorem Sl.len {size:Nat} {m:Mem} {v:Value} {n:Nat} {cells:List Value} (h:Sl size m v n cells):runLenSlice v=some (.int .i64 n):=by
 obtain ⟨h1,⟨rfl,rfl⟩|⟨b,off,cap,rfl,_⟩⟩:=h<;>rfl
theorem Sl.src {size:Nat} {m:Mem} {v:Value} {n:Nat} {cells:List Value} (h:Sl size m v n cells):runSrc size v m=some (n,cells):=by
 obtain ⟨h1,⟨rfl,rfl⟩|⟨b,off,cap,rfl,hc,h3⟩⟩:=h
 ·have:cells=[]:=by simpa using h1
  subst this; rfl
 ·by_cases h0:n=0
  ·subst h0
   have:cells=[]:=by simpa using h1
   subst this; simp [runSrc]
  ·rcases h3 with h3|⟨c,h4,h5,h6⟩
   ·exact absurd h3 h0
   ·simp [runSrc,h0,h4,h5,h6]
theorem Sl.index {size:Nat} {m:Mem} {v:Value} {n:Nat} {cells:List Value} (h:Sl size m v n cells) (k:IntKind) (i:Nat) (hi:i<n) :
  ∃ p,runIndexS size v (.int k i)=some p∧runLoadN size p m=some (.agg ((cells.drop (i * size)).take size).toArray)∧(size=1→runLoad1 p m=cells[i]?):=by
 obtain ⟨h1,⟨rfl,rfl⟩|⟨b,off,cap,rfl,hc,h3⟩⟩:=h
 ·omega
 ·rcases h3 with h3|⟨c,h4,h5,h6⟩
  ·omega
  ·have hmul:(i+1) * size≤n * size:=Nat.mul_le_mul_right _ hi
   rw [Nat.add_mul,Nat.one_mul] at hmul
   refine ⟨.pointer (some ⟨b,off+i * size,none⟩),?_,?_,?_⟩
   ·have:(0:Int)≤(i:Int)∧(i:Int)<(n:Int):=by omega
    simp [runIndexS,this]
   ·have hle:off+i * size+size≤c.length:=by omega
    simp only [runLoadN,asPtr,Option.bind_some,h4,if_pos hle]
    congr 2
    rw [h6,List.drop_take,List.take_take,List.drop_drop]
    congr 1
    congr 1
    omega
   ·intro hs
    subst hs
    simp only [runLoad1,asPtr,Option.bind_some,h4,h6]
    rw [List.getElem?_take_of_lt (by omega),List.getElem?_drop]
    simp
def Own (size:Nat) (e:TypeId) (m:Mem) (v:Value) (n:Nat) (cells:List Value):Prop :=
 cells.length=n * size∧((v=.slice none 0 0∧n=0)∨∃ b,v=.slice (some ⟨b,0,none⟩) n n∧b<m.next∧m.get b=some ⟨.cells cells e,false,some size⟩)
theorem Own.nil (size:Nat) (e:TypeId) (m:Mem):Own size e m (.slice none 0 0) 0 []:=⟨by simp,.inl ⟨rfl,rfl⟩⟩
theorem Own.sl {size:Nat} {e:TypeId} {m:Mem} {v:Value} {n:Nat} {cells:List Value} (h:Own size e m v n cells):Sl size m v n cells:=by
 obtain ⟨h1,⟨rfl,rfl⟩|⟨b,rfl,hb,hg⟩⟩:=h
 ·exact ⟨h1,.inl ⟨rfl,rfl⟩⟩
 ·refine ⟨h1,.inr ⟨b,0,n,rfl,Nat.le_refl _,.inr ⟨cells,cellsAt_of_get hg,by omega,?_⟩⟩⟩
  rw [List.drop_zero,← h1,List.take_length]
theorem Own.mono {size:Nat} {e:TypeId} {m m':Mem} {v:Value} {n:Nat} {cells:List Value} (h:Own size e m v n cells) (hn:m.next≤m'.next) (hk:∀ b∈blkOf v,m'.get b=m.get b):Own size e m' v n cells:=by
 obtain ⟨h1,h2⟩:=h
 refine ⟨h1,h2.imp id ?_⟩
 rintro ⟨b,rfl,hb,hg⟩
 exact ⟨b,rfl,by omega,by rw [hk b (by simp [blkOf])]; exact hg⟩
theorem Own.lt {size:Nat} {e:TypeId} {m:Mem} {v:Value} {n:Nat} {cells:List Value} (h:Own size e m v n cells):∀ b∈blkOf v,b<m.next:=by
 intro b hb
 obtain ⟨h1,⟨rfl,rfl⟩|⟨c,rfl,hc,hg⟩⟩:=h
 ·simp [blkOf] at hb
 ·simp [blkOf] at hb; subst hb; exact hc
theorem Own.append {size eb:Nat} {e:TypeId} {m:Mem} {v:Value} {n k:Nat} {cells nc:List Value} (h:Own size e m v n cells) (hk:k≠0) (hl:nc.length=k * size) (h1:nc.all (·.oneCell')=true) (hb:(n+k) * eb≤2 ^ 47) (hn:n+k≤2 ^ 47) :
  ∃ v' m',runAppend e size eb v k nc m=some (v',m')∧Own size e m' v' (n+k) (cells++nc)∧Upd (blkOf v) m m'∧m'.next=m.next+1∧blkOf v'=[m.next]:=by
 obtain ⟨hc,⟨rfl,rfl⟩|⟨b,rfl,hlt,hg⟩⟩:=h
 ·have hnil:cells=[]:=by simpa using hc
  subst hnil
  refine ⟨.slice (some ⟨m.next,0,none⟩) k k,m.add ⟨.cells nc e,false,some size⟩,?_,⟨by simp [hl],.inr ⟨m.next,by simp,by simp,by rw [Mem.get_add,if_pos rfl]; rfl⟩⟩,Upd.add _ _ _,rfl,rfl⟩
  have hc0:¬ ¬ ((0+k) * eb≤2 ^ 47∧(0+k)≤2 ^ 47∧nc.length=k * size∧nc.all (·.oneCell')=true):=by simp only [Decidable.not_not]; exact ⟨hb,hn,hl,h1⟩
  have hk':¬ (0+k≤0):=by omega
  simp only [runAppend,if_neg hc0,if_neg hk',and_self,if_true]
 ·refine ⟨.slice (some ⟨m.next,0,none⟩) (n+k) (n+k),(m.kill b).add ⟨.cells (cells++nc) e,false,some size⟩,?_,⟨by rw [List.length_append,hc,hl,Nat.add_mul],.inr ⟨m.next,rfl,by simp,by rw [Mem.get_add,Mem.next_kill,if_pos rfl]⟩⟩,?_,rfl,rfl⟩
  ·have hc0:¬ ¬ ((n+k) * eb≤2 ^ 47∧(n+k)≤2 ^ 47∧nc.length=k * size∧nc.all (·.oneCell')=true):=by simp only [Decidable.not_not]; exact ⟨hb,hn,hl,h1⟩
   have hk':¬ (n+k≤n):=by omega
   have hle:0+n * size≤cells.length:=by omega
   simp only [runAppend,if_neg hc0,if_neg hk',hg,hle,and_self,Nat.le_refl,if_true]
   have:(cells.drop 0).take (n * size)=cells:=by rw [List.drop_zero,← hc,List.take_length]
   rw [this]
  ·exact (Upd.kill (fp:=blkOf (.slice (some ⟨b,0,none⟩) n n)) m (by simp [blkOf])).trans (Upd.add _ _ _)
theorem cells_agg (l:List Value):(Value.agg l.toArray).cells.toList=l:=by simp [Value.cells]
theorem cells_int (k:IntKind) (n:Int):(Value.int k n).cells.toList=[.int k n]:=by simp [Value.cells]
theorem cells_str (s:ByteArray):(Value.string s).cells.toList=[.string s]:=by simp [Value.cells]
theorem setRange_all:∀ (vs c:List Value),c.length=vs.length→setRange c 0 vs=vs:=by
 intro vs c h
 apply List.ext_getElem?
 intro j
 rw [getElem?_setRange vs c 0 j (by omega)]
 by_cases hj:j<vs.length
 ·rw [if_pos (by omega)]; simp
 ·rw [if_neg (by omega),List.getElem?_eq_none (by omega),List.getElem?_eq_none (by omega)]
theorem store_whole {m:Mem} {b:Nat} {c:List Value} {e:TypeId} {lo:Option Nat} {v:Value} {n:Nat} (hb:m.get b=some ⟨.cells c e,false,lo⟩) (hc:c.length=n) (hv:v.cells.size=n) (h1:v.cells.toList.all (·.oneCell')=true) :
  runStore n (.pointer (some ⟨b,0,none⟩)) v m=some (m.put b ⟨.cells v.cells.toList e,false,lo⟩):=by
 have:m.ownAt b=some (c,e,lo):=by simp [Mem.ownAt,hb]
 simp only [runStore,asPtr,Option.bind_some,this]
 rw [if_pos ⟨hv,by omega,h1⟩,setRange_all _ _ (by simp [hc,hv])]
theorem load_whole {m:Mem} {b:Nat} {c:List Value} {e:TypeId} {ro:Bool} {lo:Option Nat} {n:Nat} (hb:m.get b=some ⟨.cells c e,ro,lo⟩) (hc:c.length=n):runLoadN n (.pointer (some ⟨b,0,none⟩)) m=some (.agg c.toArray):=by
 simp only [runLoadN,asPtr,Option.bind_some,cellsAt_of_get hb]
 rw [if_pos (by omega),List.drop_zero,← hc,List.take_length]
theorem load_at {m:Mem} {b:Nat} {c:List Value} {e:TypeId} {ro:Bool} {lo:Option Nat} {o:Nat} {v:Value} (hb:m.get b=some ⟨.cells c e,ro,lo⟩) (hv:c[o]? = some v):runLoad1 (.pointer (some ⟨b,o,none⟩)) m=some v:=by
 simp only [runLoad1,asPtr,Option.bind_some,cellsAt_of_get hb,hv]
theorem store_at {m:Mem} {b:Nat} {c:List Value} {e:TypeId} {lo:Option Nat} {o:Nat} {v:Value} (hb:m.get b=some ⟨.cells c e,false,lo⟩) (ho:o<c.length) (hv:v.cells=#[v]) (h1:v.oneCell'=true) :
  runStore 1 (.pointer (some ⟨b,o,none⟩)) v m=some (m.put b ⟨.cells (c.set o v) e,false,lo⟩):=by
 have:m.ownAt b=some (c,e,lo):=by simp [Mem.ownAt,hb]
 simp only [runStore,asPtr,Option.bind_some,this,hv]
 rw [if_pos ⟨rfl,by omega,by simp [h1]⟩]
 simp [setRange_cons,setRange_nil]
theorem Mem.get_add_self (m:Mem) (x:ABlk):(m.add x).get m.next=some x:=by rw [Mem.get_add,if_pos rfl]
theorem Mem.get_add_other (m:Mem) (x:ABlk) {b:Nat} (h:b<m.next):(m.add x).get b=m.get b:=by rw [Mem.get_add,if_neg (by omega)]
theorem Mem.get_put_self (m:Mem) (b:Nat) (x:ABlk):(m.put b x).get b=some x:=by rw [Mem.get_put,if_pos rfl]
theorem Mem.get_put_other (m:Mem) {b c:Nat} (x:ABlk) (h:c≠b):(m.put b x).get c=m.get c:=by rw [Mem.get_put,if_neg h]
theorem box_store (m:Mem) (e:TypeId) {c vs:List Value} {n:Nat} (hz:c.length=n) (hv:vs.length=n) (h1:vs.all (·.oneCell')=true) :
  runStore n (.pointer (some ⟨m.next,0,none⟩)) (.agg vs.toArray) (m.add ⟨.cells c e,false,none⟩)=some ((m.add ⟨.cells c e,false,none⟩).put m.next ⟨.cells vs e,false,none⟩):=by
 have:=store_whole (m:=m.add ⟨.cells c e,false,none⟩) (v:=.agg vs.toArray) (n:=n) (m.get_add_self _) hz (by simpa [Value.cells] using hv) (by simpa [Value.cells] using h1)
 simpa [Value.cells] using this
theorem pieces_all {p:Value→Bool} {s:Nat} (hs:0<s):∀ (k:Nat) (l:List Value),l.length=k * s→(∀ i,i<k→((l.drop (i * s)).take s).all p=true)→l.all p=true
 | 0,l,h,_=>by simp at h; simp [h]
 | k+1,l,h,hall=>by
  rw [← List.take_append_drop s l,List.all_append,Bool.and_eq_true]
  refine ⟨by simpa using hall 0 (by omega),pieces_all hs k (l.drop s) (by rw [List.length_drop,h,Nat.add_mul]; omega) (fun i hi=>?_)⟩
  have:=hall (i+1) (by omega)
  rw [List.drop_drop]
  rw [show s+i * s=(i+1) * s by rw [Nat.add_mul]; omega]
  exact this
theorem WT.one {P:Program} {B:Nat} {m:Mem}:∀ {n:Nat} {t:TypeId} {cs:List Value},okT P n t=true→WTB P B m n t cs→cs.all (·.oneCell')=true
 | 0,_,_,h,_=>by simp [okT] at h
 | n+1,t,cs,hok,h=>by
  unfold okT at hok
  unfold WTB at h
  cases hd:P.underlying t with
  | none=>rw [hd] at hok; cases hok
  | some d =>
   rw [hd] at hok h
   cases d<;>simp only [Bool.false_eq_true] at hok h
   ·obtain ⟨b,rfl⟩:=h; rfl
   ·obtain ⟨b,rfl,_⟩:=h; rfl
   ·obtain ⟨b,rfl,_⟩:=h; rfl
   ·rcases h with rfl|⟨b,off,rfl,_⟩|⟨b,len,cap,c,e',rfl,_⟩<;>rfl
   ·rename_i k e
    simp only [Bool.and_eq_true,beq_iff_eq] at hok
    obtain ⟨hl,hall⟩:=h
    rcases Nat.eq_zero_or_pos (P.cellsOf e) with h0|h0
    ·rw [h0,Nat.mul_zero] at hl
     have:cs=[]:=by simpa using hl
     subst this; rfl
    ·exact pieces_all h0 k cs hl (fun i hi=>WT.one hok.2 (hall i hi))
   ·rename_i fs
    simp only [Bool.and_eq_true,List.all_eq_true] at hok
    obtain ⟨hl,hall⟩:=h
    have:=tile_flatten (P:=P) fs.toList 0 _ cs hok.1 hl
    rw [List.drop_zero] at this
    rw [← this,List.all_eq_true]
    intro v hv
    simp only [List.mem_flatten,List.mem_map] at hv
    obtain ⟨l,⟨f,hf,rfl⟩,hv⟩:=hv
    exact List.all_eq_true.1 (WT.one (hok.2 f hf) (hall f hf)) v hv
theorem WT.slice {P:Program} {B:Nat} {m:Mem} {n:Nat} {t e:TypeId} {v:Value} {s:Nat} (hd:P.underlying t=some (.slice e)) (hs:P.cellsOf e=s) (hs0:0<s) (hok:okT P n e=true) (h:WTB P B m (n+1) t v.cells.toList) (hna:∀ xs,v≠.agg xs) :
  ∃ k cells,Sl s m v k cells∧(k≤maxLen∧k * P.bytesOf e≤B)∧(∀ b∈blkOf v,b<m.next)∧cells.all (·.oneCell')=true∧∀ i,i<k→WTB P B m n e ((cells.drop (i * s)).take s):=by
 unfold WTB at h
 rw [hd] at h
 simp only at h
 have hv:∀ u,v.cells.toList=[u]→v=u:=by
  intro u hu
  cases v with
  | agg xs=>exact absurd rfl (hna xs)
  | _=>simpa [Value.cells] using hu
 rcases h with h|⟨b,off,h,hb⟩|⟨b,len,cap,c,e',h,hb,h2,h3,h4,h5,h6⟩
 ·have:=hv _ h
  subst this
  exact ⟨0,[],⟨by simp,.inl ⟨rfl,rfl⟩⟩,⟨by omega,by omega⟩,fun b hb=>by simp [blkOf] at hb,rfl,fun i hi=>by omega⟩
 ·have:=hv _ h
  subst this
  exact ⟨0,[],⟨by simp,.inr ⟨b,off,0,rfl,Nat.le_refl _,.inl rfl⟩⟩,⟨by omega,by omega⟩,fun c hc=>by simp [blkOf] at hc; omega,rfl,fun i hi=>by omega⟩
 ·have:=hv _ h
  subst this
  rw [hs] at h5 h6
  have hmul:len * s≤cap * s:=Nat.mul_le_mul_right _ h2
  have hlen:(c.take (len * s)).length=len * s:=by rw [List.length_take,h5]; omega
  have hpc:∀ i,i<len→(((c.take (len * s)).drop (i * s)).take s)=((c.drop (i * s)).take s):=by
   intro i hi
   have:(i+1) * s≤len * s:=Nat.mul_le_mul_right _ hi
   rw [Nat.add_mul,Nat.one_mul] at this
   rw [List.drop_take,List.take_take]
   congr 1
   omega
  have hlb:len * P.bytesOf e≤cap * P.bytesOf e:=Nat.mul_le_mul_right _ h2
  refine ⟨len,c.take (len * s),⟨hlen,.inr ⟨b,0,cap,rfl,h2,.inr ⟨c,cellsAt_of_get h4,by omega,by rw [List.drop_zero]⟩⟩⟩,⟨by omega,by omega⟩,fun x hx=>by simp [blkOf] at hx; omega,?_,fun i hi=>?_⟩
  ·exact pieces_all hs0 len _ hlen (fun i hi=>by rw [hpc i hi]; exact WT.one hok (h6 i (by omega)))
  ·rw [hpc i hi]; exact h6 i (by omega)
theorem wrap_in {x:Int} (h0:-9223372036854775808≤x) (h1:x≤9223372036854775807):IntKind.i64.wrap x=x:=by
 have hb:(2 ^ IntKind.i64.bits:Int)=18446744073709551616:=by decide
 have hb2:(2 ^ (IntKind.i64.bits - 1):Int)=9223372036854775808:=by decide
 unfold IntKind.wrap
 simp only [hb,hb2,IntKind.signed,Bool.true_and,decide_eq_true_eq,ge_iff_le]
 split<;>omega
end Go.Fx
namespace Go.Fx
open Go
set_option linter.unusedSimpArgs false
set_option linter.unusedVariables false
structure Enc (α:Type) where
 size:Nat
 cells:α→List Value
 len:∀ a,(cells a).length=size
 one:∀ a,(cells a).all (·.oneCell')=true
section
variable {α:Type} (E:Enc α)
def Enc.flat (l:List α):List Value:=(l.map E.cells).flatten
theorem Enc.flat_cons (a:α) (l:List α):E.flat (a::l)=E.cells a++E.flat l:=rfl
theorem Enc.flat_append (l k:List α):E.flat (l++k)=E.flat l++E.flat k:=by simp [Enc.flat]
theorem Enc.flat_one (a:α):E.flat [a]=E.cells a:=by simp [Enc.flat]
theorem Enc.flat_len:∀ l:List α,(E.flat l).length=l.length * E.size
 | []=>by simp [Enc.flat]
 | a::l=>by rw [E.flat_cons,List.length_append,E.len,flat_len l,List.length_cons,Nat.add_mul]; omega
theorem Enc.flat_all:∀ l:List α,(E.flat l).all (·.oneCell')=true
 | []=>rfl
 | a::l=>by rw [E.flat_cons,List.all_append,E.one,flat_all l]; rfl
theorem Enc.flat_drop:∀ (l:List α) (i:Nat),(E.flat l).drop (i * E.size)=E.flat (l.drop i)
 | l,0=>by simp
 | [],i+1=>by simp [Enc.flat]
 | a::l,i+1=>by
  rw [E.flat_cons,List.drop_succ_cons,← flat_drop l i,show (i+1) * E.size=(E.cells a).length+i * E.size by rw [E.len,Nat.add_mul]; omega,List.drop_append]
  simp
theorem Enc.flat_take:∀ (l:List α) (i:Nat),(E.flat l).take (i * E.size)=E.flat (l.take i)
 | l,0=>by simp [Enc.flat]
 | [],i+1=>by simp [Enc.flat]
 | a::l,i+1=>by
  rw [E.flat_cons,List.take_succ_cons,E.flat_cons,← flat_take l i,show (i+1) * E.size=(E.cells a).length+i * E.size by rw [E.len,Nat.add_mul]; omega,List.take_append,List.take_of_length_le (by omega)]
  simp
theorem Enc.flat_piece {l:List α} {i:Nat} {a:α} (h:l[i]? = some a):((E.flat l).drop (i * E.size)).take E.size=E.cells a:=by
 have hd:l.drop i=a::l.drop (i+1):=by
  obtain ⟨hi,rfl⟩:=List.getElem?_eq_some_iff.1 h
  exact List.drop_eq_getElem_cons hi
 rw [E.flat_drop,hd,E.flat_cons,← E.len a,List.take_left']
 rfl
def TSl (m:Mem) (v:Value) (l:List α):Prop:=Sl E.size m v l.length (E.flat l)
def TOwn (e:TypeId) (m:Mem) (v:Value) (l:List α):Prop:=Own E.size e m v l.length (E.flat l)
variable {E}
theorem TOwn.tsl {e:TypeId} {m:Mem} {v:Value} {l:List α} (h:TOwn E e m v l):TSl E m v l:=Own.sl h
theorem TOwn.nil (e:TypeId) (m:Mem):TOwn E e m (.slice none 0 0) []:=Own.nil E.size e m
theorem TSl.nil (m:Mem):TSl E m (.slice none 0 0) []:=(TOwn.nil 0 m).tsl
theorem TSl.mono {m m':Mem} {v:Value} {l:List α} (h:TSl E m v l) (hk:∀ b∈blkOf v,m'.get b=m.get b):TSl E m' v l:=Sl.mono h hk
theorem TOwn.mono {e:TypeId} {m m':Mem} {v:Value} {l:List α} (h:TOwn E e m v l) (hn:m.next≤m'.next) (hk:∀ b∈blkOf v,m'.get b=m.get b):TOwn E e m' v l:=Own.mono h hn hk
theorem TOwn.lt {e:TypeId} {m:Mem} {v:Value} {l:List α} (h:TOwn E e m v l):∀ b∈blkOf v,b<m.next:=Own.lt h
theorem TOwn.upd {e:TypeId} {fp:List Nat} {m m':Mem} {v:Value} {l:List α} (h:TOwn E e m v l) (hu:Upd fp m m') (hk:∀ b∈blkOf v,b∉fp):TOwn E e m' v l :=
 h.mono hu.next (fun b hb=>hu.same b (h.lt b hb) (hk b hb))
theorem TSl.upd {fp:List Nat} {m m':Mem} {v:Value} {l:List α} (h:TSl E m v l) (hu:Upd fp m m') (hk:∀ b∈blkOf v,b<m.next∧b∉fp):TSl E m' v l :=
 h.mono (fun b hb=>hu.same b (hk b hb).1 (hk b hb).2)
theorem TSl.len {m:Mem} {v:Value} {l:List α} (h:TSl E m v l):runLenSlice v=some (.int .i64 l.length):=Sl.len h
theorem TSl.src {m:Mem} {v:Value} {l:List α} (h:TSl E m v l):runSrc E.size v m=some (l.length,E.flat l):=Sl.src h
theorem TSl.index {m:Mem} {v:Value} {l:List α} (h:TSl E m v l) (k:IntKind) {i:Nat} {a:α} (ha:l[i]? = some a) :
  ∃ p,runIndexS E.size v (.int k i)=some p∧runLoadN E.size p m=some (.agg (E.cells a).toArray)∧(∀ x,E.cells a=[x]→runLoad1 p m=some x):=by
 have hi:i<l.length:=by
  rcases Nat.lt_or_ge i l.length with h|h
  ·exact h
  ·rw [List.getElem?_eq_none h] at ha; cases ha
 obtain ⟨p,h1,h2,h3⟩:=Sl.index h k i hi
 refine ⟨p,h1,by rw [h2,E.flat_piece ha],fun x hx=>?_⟩
 have hs:E.size=1:=by rw [← E.len a,hx]; rfl
 have hp:=E.flat_piece ha
 rw [h3 hs]
 rw [hx,hs,Nat.mul_one] at hp
 have:=congrArg (·[0]?) hp
 simpa using this
theorem TSl.field {m:Mem} {v:Value} {l:List α} (h:TSl E m v l) (k:IntKind) {i:Nat} {a:α} (ha:l[i]? = some a) {o:Nat} {x:Value} (hx:(E.cells a)[o]? = some x) :
  ∃ b off,runIndexS E.size v (.int k i)=some (.pointer (some ⟨b,off,none⟩))∧runLoadN E.size (.pointer (some ⟨b,off,none⟩)) m=some (.agg (E.cells a).toArray)∧runLoad1 (.pointer (some ⟨b,off+o,none⟩)) m=some x:=by
 have hi:i<l.length:=by
  rcases Nat.lt_or_ge i l.length with h|h
  ·exact h
  ·rw [List.getElem?_eq_none h] at ha; cases ha
 obtain ⟨p,h1,h2,_⟩:=Sl.index h k i hi
 rw [E.flat_piece ha] at h2
 have hp:∃ b off,p=.pointer (some ⟨b,off,none⟩):=by
  unfold runIndexS at h1
  split at h1
  ·split at h1
   ·cases h1; exact ⟨_,_,rfl⟩
   ·cases h1
  ·cases h1
 obtain ⟨b,off,rfl⟩:=hp
 refine ⟨b,off,h1,h2,?_⟩
 simp only [runLoadN,asPtr,Option.bind_some] at h2
 simp only [runLoad1,asPtr,Option.bind_some]
 cases hc:m.cellsAt b with
 | none=>rw [hc] at h2; cases h2
 | some c =>
  rw [hc] at h2
  simp only [Option.bind_some] at h2 ⊢
  split at h2
  ·simp only [Option.some.injEq,Value.agg.injEq] at h2
   have h3:(c.drop off).take E.size=E.cells a:=by
    have:=congrArg Array.toList h2
    simpa using this
   rw [← h3,List.getElem?_take] at hx
   split at hx
   ·rw [List.getElem?_drop] at hx; exact hx
   ·cases hx
  ·cases h2
theorem TSl.at {m:Mem} {v:Value} {l:List α} (h:TSl E m v l) (k:IntKind) {i:Nat} {a:α} (ha:l[i]? = some a) :
  ∃ b off,runIndexS E.size v (.int k i)=some (.pointer (some ⟨b,off,none⟩))∧∀ m',TSl E m' v l→runLoadN E.size (.pointer (some ⟨b,off,none⟩)) m'=some (.agg (E.cells a).toArray)∧∀ (o:Nat) x,(E.cells a)[o]? = some x→runLoad1 (.pointer (some ⟨b,off+o,none⟩)) m'=some x:=by
 have hp:∃ b off,runIndexS E.size v (.int k i)=some (.pointer (some ⟨b,off,none⟩)):=by
  obtain ⟨p,h1,h2,_⟩:=h.index k ha
  have h1':=h1
  unfold runIndexS at h1'
  split at h1'
  ·split at h1'
   ·cases h1'; exact ⟨_,_,h1⟩
   ·cases h1'
  ·cases h1'
 obtain ⟨b,off,h1⟩:=hp
 refine ⟨b,off,h1,fun m' h'=>?_⟩
 obtain ⟨p',g1,g2,_⟩:=h'.index k ha
 rw [h1] at g1
 cases g1
 refine ⟨g2,fun o x hx=>?_⟩
 obtain ⟨b',off',k1,_,k3⟩:=h'.field k ha hx
 rw [h1] at k1
 cases k1
 exact k3
theorem TOwn.append {e:TypeId} {m:Mem} {v:Value} {l k:List α} {eb:Nat} (h:TOwn E e m v l) (hk:k≠[]) (hb:(l.length+k.length) * eb≤2 ^ 47) (hn:l.length+k.length≤2 ^ 47) :
  ∃ v' m',runAppend e E.size eb v k.length (E.flat k) m=some (v',m')∧TOwn E e m' v' (l++k)∧Upd (blkOf v) m m'∧m'.next=m.next+1∧blkOf v'=[m.next]:=by
 obtain ⟨v',m',h1,h2,h3⟩:=Own.append h (k:=k.length) (nc:=E.flat k) (eb:=eb) (by simpa using hk) (E.flat_len k) (E.flat_all k) hb hn
 refine ⟨v',m',h1,?_,h3⟩
 unfold TOwn
 rw [E.flat_append,List.length_append]
 exact h2
theorem TSl.upto {m:Mem} {v:Value} {l:List α} (h:TSl E m v l) {k:Nat} (hk:k≤l.length) :
  ∃ v',runSliceS E.size v none (some (.int .i64 k)) m=some v'∧TSl E m v' (l.take k)∧blkOf v'=blkOf v:=by
 obtain ⟨h1,h2⟩:=h
 rcases h2 with ⟨rfl,h0⟩|⟨b,off,cap,rfl,hc,h3⟩
 ·have:l=[]:=by simpa using h0
  subst this
  have:k=0:=by simpa using hk
  subst this
  exact ⟨.slice none 0 0,by simp [runSliceS,boundsV,boundV],TSl.nil m,rfl⟩
 ·refine ⟨.slice (some ⟨b,off,none⟩) k cap,?_,⟨E.flat_len _,.inr ⟨b,off,cap,by rw [List.length_take,Nat.min_eq_left hk],by rw [List.length_take]; omega,?_⟩⟩,rfl⟩
  ·have hb:boundsV l.length cap none (some (.int .i64 (k:Int)))=some (0,k):=by
    have:(0:Int)≤(k:Int)∧(k:Int)≤(cap:Int):=by omega
    simp only [boundsV,boundV,if_pos this,Option.bind_some,Option.map_some]
    simp
   simp only [runSliceS,hb,Option.bind_some,true_or,if_true]
   simp
  ·rw [List.length_take,Nat.min_eq_left hk]
   rcases h3 with h3|⟨c,h4,h5,h6⟩
   ·exact .inl (by omega)
   ·have:k * E.size≤l.length * E.size:=Nat.mul_le_mul_right _ hk
    refine .inr ⟨c,h4,by omega,?_⟩
    rw [← E.flat_take,h6,List.take_take]
    congr 1
    omega
end
def TGr {α:Type} (E:Enc α) (e:TypeId) (m:Mem) (v:Value) (l:List α):Prop :=
 TOwn E e m v l∨∃ b e',v=.slice (some ⟨b,0,none⟩) 0 0∧l=[]∧b<m.next∧m.get b=some ⟨.cells [] e',false,none⟩
section
variable {α:Type} {E:Enc α} {e:TypeId}
theorem TOwn.gr {m:Mem} {v:Value} {l:List α} (h:TOwn E e m v l):TGr E e m v l:=.inl h
theorem TGr.tsl {m:Mem} {v:Value} {l:List α} (h:TGr E e m v l):TSl E m v l:=by
 rcases h with h|⟨b,e',rfl,rfl,hb,hg⟩
 ·exact h.tsl
 ·exact ⟨by simp [Enc.flat],.inr ⟨b,0,0,rfl,Nat.le_refl _,.inl rfl⟩⟩
theorem TGr.lt {m:Mem} {v:Value} {l:List α} (h:TGr E e m v l):∀ b∈blkOf v,b<m.next:=by
 rcases h with h|⟨b,e',rfl,rfl,hb,hg⟩
 ·exact h.lt
 ·intro c hc; simp [blkOf] at hc; subst hc; exact hb
theorem TGr.upd {fp:List Nat} {m m':Mem} {v:Value} {l:List α} (h:TGr E e m v l) (hu:Upd fp m m') (hk:∀ b∈blkOf v,b∉fp):TGr E e m' v l:=by
 rcases h with h|⟨b,e',rfl,rfl,hb,hg⟩
 ·exact .inl (h.upd hu hk)
 ·exact .inr ⟨b,e',rfl,rfl,Nat.lt_of_lt_of_le hb hu.next,by rw [hu.same b hb (hk b (by simp [blkOf]))]; exact hg⟩
theorem TGr.append {m:Mem} {v:Value} {l k:List α} {eb:Nat} (h:TGr E e m v l) (hk:k≠[]) (hb:(l.length+k.length) * eb≤2 ^ 47) (hn:l.length+k.length≤2 ^ 47) :
  ∃ v' m',runAppend e E.size eb v k.length (E.flat k) m=some (v',m')∧TOwn E e m' v' (l++k)∧Upd (blkOf v) m m'∧m'.next=m.next+1∧blkOf v'=[m.next]:=by
 rcases h with h|⟨b,e',rfl,rfl,hbl,hg⟩
 ·exact h.append hk hb hn
 ·have hk0:k.length≠0:=by simpa using hk
  refine ⟨.slice (some ⟨m.next,0,none⟩) k.length k.length,m.add ⟨.cells (E.flat k) e,false,some E.size⟩,?_,⟨E.flat_len _,.inr ⟨m.next,by simp,by simp,Mem.get_add_self ..⟩⟩,Upd.add _ _ _,rfl,rfl⟩
  have hc0:¬ ¬ ((0+k.length) * eb≤2 ^ 47∧(0+k.length)≤2 ^ 47∧(E.flat k).length=k.length * E.size∧(E.flat k).all (·.oneCell')=true):=by
   simp only [List.length_nil] at hb hn
   simp only [Decidable.not_not]; exact ⟨hb,hn,E.flat_len k,E.flat_all k⟩
  have hk':¬ (0+k.length≤0):=by omega
  simp only [runAppend,if_neg hc0,if_neg hk',hg]
  simp
end
def TRm {α:Type} (E:Enc α) (e:TypeId) (m:Mem) (v:Value) (l:List α):Prop :=
 (v=.slice none 0 0∧l=[])∨∃ b cap rest,v=.slice (some ⟨b,0,none⟩) l.length cap∧b<m.next∧m.get b=some ⟨.cells (E.flat l++rest) e,false,some E.size⟩∧rest.length=(cap - l.length) * E.size∧l.length≤cap
theorem setRange_append (a b c vs:List Value) (h:b.length=vs.length):setRange (a++(b++c)) a.length vs=a++(vs++c):=by
 apply List.ext_getElem?
 intro j
 rw [getElem?_setRange vs _ _ j (by simp [h])]
 by_cases h1:j<a.length
 ·rw [if_neg (by omega),List.getElem?_append_left h1,List.getElem?_append_left h1]
 ·by_cases h2:j<a.length+vs.length
  ·rw [if_pos ⟨by omega,h2⟩,List.getElem?_append_right (by omega),List.getElem?_append_left (by omega)]
  ·rw [if_neg (by omega),List.getElem?_append_right (by omega),List.getElem?_append_right (by omega),List.getElem?_append_right (by omega),List.getElem?_append_right (by omega),h]
section
variable {α:Type} {E:Enc α} {e:TypeId}
theorem TRm.nil (m:Mem):TRm E e m (.slice none 0 0) []:=.inl ⟨rfl,rfl⟩
theorem TRm.tsl {m:Mem} {v:Value} {l:List α} (h:TRm E e m v l):TSl E m v l:=by
 rcases h with ⟨rfl,rfl⟩|⟨b,cap,rest,rfl,hb,hg,hr,hc⟩
 ·exact TSl.nil m
 ·exact ⟨E.flat_len l,.inr ⟨b,0,cap,rfl,hc,.inr ⟨_,cellsAt_of_get hg,by rw [List.length_append,E.flat_len]; omega,by rw [List.drop_zero,← E.flat_len,List.take_left']; rfl⟩⟩⟩
theorem TRm.lt {m:Mem} {v:Value} {l:List α} (h:TRm E e m v l):∀ b∈blkOf v,b<m.next:=by
 rcases h with ⟨rfl,rfl⟩|⟨b,cap,rest,rfl,hb,_⟩
 ·intro c hc; simp [blkOf] at hc
 ·intro c hc; simp [blkOf] at hc; subst hc; exact hb
theorem TRm.upd {fp:List Nat} {m m':Mem} {v:Value} {l:List α} (h:TRm E e m v l) (hu:Upd fp m m') (hk:∀ b∈blkOf v,b∉fp):TRm E e m' v l:=by
 rcases h with h|⟨b,cap,rest,rfl,hb,hg,hr,hc⟩
 ·exact .inl h
 ·exact .inr ⟨b,cap,rest,rfl,Nat.lt_of_lt_of_le hb hu.next,by rw [hu.same b hb (hk b (by simp [blkOf]))]; exact hg,hr,hc⟩
theorem TRm.one {m:Mem} {v:Value} {l:List α} (h:TRm E e m v l):v.cells=#[v]∧v.oneCell'=true:=by
 rcases h with ⟨rfl,rfl⟩|⟨b,cap,rest,rfl,_⟩<;>exact ⟨rfl,rfl⟩
theorem TRm.append {m:Mem} {v:Value} {l k:List α} {eb:Nat} (hs:0<E.size) (h:TRm E e m v l) (hk:k≠[]) (hb:(l.length+k.length) * eb≤2 ^ 47) (hn:l.length+k.length≤2 ^ 47) :
  ∃ v' m',runAppend e E.size eb v k.length (E.flat k) m=some (v',m')∧TRm E e m' v' (l++k)∧Upd (blkOf v) m m'∧∀ b∈blkOf v',b∈blkOf v∨m.next≤b:=by
 have hk0:k.length≠0:=by simpa using hk
 have hE:=E.flat_len k
 have hA:=E.flat_all k
 rcases h with ⟨rfl,rfl⟩|⟨b,cap,rest,rfl,hbl,hg,hr,hc⟩
 ·refine ⟨.slice (some ⟨m.next,0,none⟩) k.length k.length,m.add ⟨.cells (E.flat k) e,false,some E.size⟩,?_,.inr ⟨m.next,k.length,[],by simp,by simp,by rw [Mem.get_add_self]; simp,by simp,by simp⟩,Upd.add _ _ _,fun b hb=>by simp [blkOf] at hb; exact .inr (by omega)⟩
  have hc0:¬ ¬ ((0+k.length) * eb≤2 ^ 47∧(0+k.length)≤2 ^ 47∧(E.flat k).length=k.length * E.size∧(E.flat k).all (·.oneCell')=true):=by
   simp only [List.length_nil] at hb hn
   simp only [Decidable.not_not]; exact ⟨hb,hn,hE,hA⟩
  have hk':¬ (0+k.length≤0):=by omega
  simp only [runAppend,if_neg hc0,if_neg hk',and_self,if_true]
 ·have hc0:¬ ¬ ((l.length+k.length) * eb≤2 ^ 47∧(l.length+k.length)≤2 ^ 47∧(E.flat k).length=k.length * E.size∧(E.flat k).all (·.oneCell')=true):=by
   simp only [Decidable.not_not]; exact ⟨hb,hn,hE,hA⟩
  by_cases hfit:l.length+k.length≤cap
  ·have hz:¬ (k.length * E.size=0):=by rw [Nat.mul_eq_zero]; omega
   have hle:k.length * E.size≤(cap - l.length) * E.size:=Nat.mul_le_mul_right _ (by omega)
   have hlen:0+(l.length+k.length) * E.size≤(E.flat l++rest).length:=by rw [List.length_append,E.flat_len,hr,Nat.add_mul]; omega
   have hset:setRange (E.flat l++rest) (0+l.length * E.size) (E.flat k)=E.flat (l++k)++rest.drop (k.length * E.size):=by
    have:=setRange_append (E.flat l) (rest.take (k.length * E.size)) (rest.drop (k.length * E.size)) (E.flat k) (by rw [List.length_take,hE,hr]; omega)
    rw [List.take_append_drop,E.flat_len] at this
    rw [Nat.zero_add,this,E.flat_append,List.append_assoc]
   refine ⟨.slice (some ⟨b,0,none⟩) (l.length+k.length) cap,m.put b ⟨.cells (E.flat (l++k)++rest.drop (k.length * E.size)) e,false,some E.size⟩,?_,.inr ⟨b,cap,rest.drop (k.length * E.size),by simp,hbl,by rw [Mem.get_put_self],?_,by simp; omega⟩,Upd.put _ _ (by simp [blkOf]),fun c hc=>.inl hc⟩
   ·have how:m.ownAt b=some (E.flat l++rest,e,some E.size):=by simp [Mem.ownAt,hg]
    have hcap:cap≠0:=by omega
    simp only [runAppend,if_neg hc0,if_pos hfit,if_neg hz,how,Option.bind_some]
    rw [if_pos ⟨hlen,hcap⟩,hset]
   ·rw [List.length_drop,hr,List.length_append,← Nat.sub_sub,Nat.sub_mul (cap - l.length)]
  ·have hle:0+l.length * E.size≤(E.flat l++rest).length:=by rw [List.length_append,E.flat_len]; omega
   refine ⟨.slice (some ⟨m.next,0,none⟩) (l.length+k.length) (l.length+k.length),(m.kill b).add ⟨.cells (E.flat (l++k)) e,false,some E.size⟩,?_,.inr ⟨m.next,l.length+k.length,[],by simp,by simp,by rw [Mem.get_add,Mem.next_kill,if_pos rfl]; simp,by simp,by simp⟩,(Upd.kill (fp:=[b]) m (by simp)).trans (Upd.add _ _ _),fun c hc=>by simp [blkOf] at hc; exact .inr (by omega)⟩
   have hpre:((E.flat l++rest).drop 0).take (l.length * E.size)=E.flat l:=by rw [List.drop_zero,← E.flat_len,List.take_left']; rfl
   simp only [runAppend,if_neg hc0,if_neg hfit,hg,hpre,hle,hc,and_self,if_true,E.flat_append]
end
theorem WT.int {P:Program} {B:Nat} {m:Mem} {n:Nat} {t:TypeId} {k:IntKind} {cs:List Value} (hd:P.underlying t=some (.int k)) (h:WTB P B m (n+1) t cs):∃ x,cs=[.int k x]∧(Lit.int k x).wf=true:=by
 unfold WTB at h; rw [hd] at h; exact h
theorem WT.bool {P:Program} {B:Nat} {m:Mem} {n:Nat} {t:TypeId} {cs:List Value} (hd:P.underlying t=some .bool) (h:WTB P B m (n+1) t cs):∃ b,cs=[.bool b]:=by
 unfold WTB at h; rw [hd] at h; exact h
theorem WT.string {P:Program} {B:Nat} {m:Mem} {n:Nat} {t:TypeId} {cs:List Value} (hd:P.underlying t=some .string) (h:WTB P B m (n+1) t cs):∃ s:ByteArray,cs=[.string s]∧s.size≤B:=by
 unfold WTB at h; rw [hd] at h; exact h
def Pieces (P:Program) (B:Nat) (m:Mem) (n:Nat):List TypeId→List Value→Prop
 | [],cs=>cs=[]
 | t::ts,cs=>∃ p r,cs=p++r∧WTB P B m n t p∧Pieces P B m n ts r
theorem pieces_of {P:Program} {B:Nat} {m:Mem} {n:Nat}:∀ (ts:List TypeId) (cs:List Value) (ps:List (List Value)),ps.flatten=cs→ps.length=ts.length→(∀ (i:Nat) t p,ts[i]? = some t→ps[i]? = some p→WTB P B m n t p)→Pieces P B m n ts cs
 | [],cs,ps,h,hl,_=>by
  have:ps=[]:=by simpa using hl
  subst this
  exact h.symm
 | t::ts,cs,[],h,hl,_=>by simp at hl
 | t::ts,cs,p::ps,h,hl,hw=>⟨p,ps.flatten,by rw [← h]; rfl,hw 0 t p rfl rfl,pieces_of ts _ ps rfl (by simpa using hl) (fun i t p ht hp=>hw (i+1) t p (by simpa using ht) (by simpa using hp))⟩
theorem WT.struct {P:Program} {B:Nat} {m:Mem} {n:Nat} {t:TypeId} {fs:Array Field} {cs:List Value} (hd:P.underlying t=some (.struct fs)) (ht:tileB P fs.toList 0 (P.cellsOf t)=true) (h:WTB P B m (n+1) t cs):Pieces P B m n (fs.toList.map (·.type)) cs:=by
 unfold WTB at h
 rw [hd] at h
 obtain ⟨hl,hall⟩:=h
 have:=tile_flatten (P:=P) fs.toList 0 _ cs ht hl
 rw [List.drop_zero] at this
 refine pieces_of _ _ _ this (by simp) (fun i t p ht hp=>?_)
 simp only [List.getElem?_map,Option.map_eq_some_iff] at ht hp
 obtain ⟨f,hf,rfl⟩:=ht
 obtain ⟨g,hg,rfl⟩:=hp
 rw [hf] at hg; cases hg
 exact hall f (List.mem_of_getElem? hf)
theorem one_of {v u:Value} (hna:∀ xs,v≠.agg xs) (h:v.cells.toList=[u]):v=u:=by
 cases v with
 | agg xs=>exact absurd rfl (hna xs)
 | _=>simpa [Value.cells] using h
def structTs (P:Program) (t:TypeId):Option (List TypeId):=match P.underlying t with
 | some (.struct fs)=>if tileB P fs.toList 0 (P.cellsOf t)=true then some (fs.toList.map (·.type)) else none
 | _=>none
theorem WT.structT {P:Program} {B:Nat} {m:Mem} {n:Nat} {t:TypeId} {ts:List TypeId} {cs:List Value} (hd:structTs P t=some ts) (h:WTB P B m (n+1) t cs):Pieces P B m n ts cs:=by
 unfold structTs at hd
 split at hd
 ·rename_i fs hf
  split at hd
  ·rename_i ht
   cases hd
   exact WT.struct hf ht h
  ·cases hd
 ·cases hd
theorem typed {α:Type} (E:Enc α) {q:List Value→Prop} {p:α→Prop} (hq:∀ cs,q cs→∃ a,cs=E.cells a∧p a):∀ (k:Nat) (cells:List Value),cells.length=k * E.size→(∀ i,i<k→q ((cells.drop (i * E.size)).take E.size)) →
  ∃ l:List α,cells=E.flat l∧l.length=k∧∀ a∈l,p a
 | 0,cells,h,_=>⟨[],by simpa [Enc.flat] using h,rfl,fun a ha=>by cases ha⟩
 | k+1,cells,h,hall=>by
  obtain ⟨a,ha,hpa⟩:=hq _ (by simpa using hall 0 (by omega))
  obtain ⟨l,hl,hk,hp⟩:=typed E hq k (cells.drop E.size) (by rw [List.length_drop,h,Nat.add_mul]; omega) (fun i hi=>by
   have:=hall (i+1) (by omega)
   rw [List.drop_drop]
   rw [show E.size+i * E.size=(i+1) * E.size by rw [Nat.add_mul]; omega]
   exact this)
  refine ⟨a::l,?_,by simp [hk],fun b hb=>?_⟩
  ·rw [E.flat_cons,← ha,← hl,List.take_append_drop]
  ·rcases List.mem_cons.1 hb with rfl|hb
   ·exact hpa
   ·exact hp b hb
theorem WT.tslice {P:Program} {B:Nat} {α:Type} (E:Enc α) {p:α→Prop} {m:Mem} {n:Nat} {t e:TypeId} {v:Value} (hd:P.underlying t=some (.slice e)) (hs:P.cellsOf e=E.size) (hs0:0<E.size) (hok:okT P n e=true)
  (hq:∀ cs,WTB P B m n e cs→∃ a,cs=E.cells a∧p a) (h:WTB P B m (n+1) t v.cells.toList) (hna:∀ xs,v≠.agg xs) :
  ∃ l:List α,TSl E m v l∧(l.length≤maxLen∧l.length * P.bytesOf e≤B)∧(∀ b∈blkOf v,b<m.next)∧∀ a∈l,p a:=by
 obtain ⟨k,cells,h1,h2,h3,_,h5⟩:=WT.slice hd hs hs0 hok h hna
 obtain ⟨l,rfl,rfl,h6⟩:=typed E hq k cells h1.1 h5
 exact ⟨l,h1,h2,h3,h6⟩
end Go.Fx
namespace Go.Fx
open Go
set_option linter.unusedSimpArgs false
set_option linter.unusedVariables false
abbrev Rq:=Req × Value × Nat × Nat
end Go.Fx
