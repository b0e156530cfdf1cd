/- Parts of a proof: FxExt, FxOps7, FxRes. Conditions: none. -/
import Derived.Lib.UnsafeStr
import Derived.Lib.Builder
import Derived.Lib.MakeNoZero
import Derived.Lib.Bytealg
import GoSem.Extern.Table
import GoSem.Extern.MapsClone
import Derived.Test.YtbhdhhgpfanmcaaGreatDoorQw3
set_option linter.unusedSimpArgs false
set_option linter.unusedVariables false
namespace Go.Fx
open Go
def qdH:Value:=.chan (some 0)
def Qe (e:TypeId) (v:Value) (m:Mem):Option (Value × Mem):=match v with
 | .string s=>some (.slice (some ⟨m.next,0,none⟩) s.size s.size,m.add ⟨.cells (s.data.toList.map λb=>Value.int .u8 b.toNat) e,false,some 1⟩)
 | _=>none
theorem Inv.qdO {φ:Ren} {m:Mem} {w:World} {B:Nat} {C:Array Value} {e:TypeId} (hB:w.heap.size=B) (h:Inv φ m w) {φ':Ren} {x:ABlk} (hi:Inv φ' (m.add x) { w with heap:=w.heap.push (.cells C e) }) (hf:Frm φ m w φ' (m.add x) { w with heap:=w.heap.push (.cells C e) })
  (hx:x.ro=false->x.loose=some 1) (hl:φ' m.next=some ⟨B,0,x.loose,C.size⟩) (ho:∃ c,x.obj=.cells c e) :
  Inv φ' (m.add x) (({ w with heap:=w.heap.push (.cells C e) }:World).freeze ⟨B,C.size,none⟩ 1)/\Frm φ m w φ' (m.add x) (({ w with heap:=w.heap.push (.cells C e) }:World).freeze ⟨B,C.size,none⟩ 1):=by
 have hw:∀ D,D≠B->((({ w with heap:=w.heap.push (.cells C e) }:World).freeze ⟨B,C.size,none⟩ 1).heap)[D]? = (w.heap.push (.cells C e))[D]?:=by
  intro D hD;simp only [World.freeze];rw [if_neg (by decide)];simp only [Array.getElem?_modify];rw [if_neg (λh=>hD h.symm)]
 have hwB:((({ w with heap:=w.heap.push (.cells C e) }:World).freeze ⟨B,C.size,none⟩ 1).heap)[B]? = some (.cells C e (C.size,C.size+1)):=by
  simp only [World.freeze];rw [if_neg (by decide)];simp only [Array.getElem?_modify,if_true];rw [<- hB];simp
 have hsz:((({ w with heap:=w.heap.push (.cells C e) }:World).freeze ⟨B,C.size,none⟩ 1).heap).size=(w.heap.push (.cells C e)).size:=by
  simp only [World.freeze];rw [if_neg (by decide)];simp
 have hBlt:B<(w.heap.push (.cells C e)).size:=by simp; omega
 refine ⟨⟨λb y hy=>?_,hi.apart,λb l hl'=>by rw [hsz]; exact hi.below b l hl'⟩,⟨hf.ren,by rw [hsz]; exact hf.size,λD hD hno=>?_,hf.own,hf.os,hf.output,hf.tape,hf.nxt,hf.old,hf.dead,hf.all⟩⟩
 ·obtain ⟨l,hl',ok⟩:=hi.live b y hy;refine ⟨l,hl',?_⟩;by_cases hb:l.blk=B
  ·obtain ⟨h1,h2⟩:=ok;refine ⟨h1,?_⟩;have hlast:(w.heap.push (.cells C e))[B]? = some (.cells C e):=by rw [<- hB]; simp
   split at h2
   ·rename_i c el hob;obtain ⟨C',e',fz,h3,h4,h5,h6,h7,h8⟩:=h2;rw [hb] at h3;rw [show ({ w with heap:=w.heap.push (.cells C e) }:World).heap=w.heap.push (.cells C e) from rfl,hlast] at h3;cases h3
    refine ⟨C,e,(C.size,C.size+1),by rw [hb]; exact hwB,h4,λ_ i hi' hh=>by omega,λhr hn=>?_,h7,h8⟩;rw [Mem.zw] at hy;by_cases hbn:b=m.next
    ·rw [if_pos hbn] at hy; cases hy; exact absurd (hx hr) hn
    ·rw [if_neg hbn] at hy;obtain ⟨k,hk,_⟩:=h.live b y hy;have:=hf.ren b k hk;rw [hl'] at this; cases this
     have:=h.jm hk;omega
   ·obtain ⟨ES,h3,_⟩:=h2;rw [hb] at h3;rw [show ({ w with heap:=w.heap.push (.cells C e) }:World).heap=w.heap.push (.cells C e) from rfl,hlast] at h3;cases h3
   ·rw [hb] at h2;rw [show ({ w with heap:=w.heap.push (.cells C e) }:World).heap=w.heap.push (.cells C e) from rfl,hlast] at h2;cases h2
   ·obtain ⟨h3,C',e',fz,h4,h5⟩:=h2;rw [hb] at h4;rw [show ({ w with heap:=w.heap.push (.cells C e) }:World).heap=w.heap.push (.cells C e) from rfl,hlast] at h4;cases h4
    exact ⟨h3,C,e,(C.size,C.size+1),by rw [hb]; exact hwB,h5⟩
   ·obtain ⟨r,h3,_⟩:=h2;rw [hb] at h3;rw [show ({ w with heap:=w.heap.push (.cells C e) }:World).heap=w.heap.push (.cells C e) from rfl,hlast] at h3;cases h3
   ·rw [hb] at h2;rw [show ({ w with heap:=w.heap.push (.cells C e) }:World).heap=w.heap.push (.cells C e) from rfl,hlast] at h2;cases h2
   ·rename_i n' t' el hob;exfalso;rw [Mem.zw] at hy;by_cases hbn:b=m.next
    ·rw [if_pos hbn] at hy; cases hy
     obtain ⟨c,hc⟩:=ho;rw [hc] at hob; cases hob
    ·rw [if_neg hbn] at hy;obtain ⟨k,hk,_⟩:=h.live b y hy;have:=hf.ren b k hk;rw [hl'] at this; cases this
     have:=h.jm hk;omega
  ·exact ok.congr (hw l.blk hb)
 ·rw [hw D (by omega)]; exact hf.same D hD hno
theorem qdd {P:Program} {φ:Ren} {m m':Mem} {w:World} (hi:Inv φ m w) {s d e:TypeId} (hs:P.underlying s=some .string) (hd:P.underlying d=some (.slice e)) (he:P.underlying e=some (.int .u8)) {v V u:Value} (hv:VR φ v V) (h:Qe e v m=some (u,m')) :
  ∃ U w' φ',(convert s d V).run P w=.ok U w'/\VR φ' u U/\Inv φ' m' w'/\Frm φ m w φ' m' w':=by
 unfold Qe at h;simp only [<- Array.toList_map] at h;split at h
 ·rename_i s';cases h
  cases hv
  generalize hcap:(Question.appendCap s'.size 0 e).cut (w.tape w.drawn (.appendCap s'.size 0 e))=cap;have hcut:s'.size<=cap:=by rw [<- hcap]; simp [Question.cut]
  have hi1:Inv φ m { w with drawn:=w.drawn+1 }:=hi.drawn rfl;obtain ⟨φ',h1,h2,h3⟩:=hi1.wS (c:=(s'.data.map λb=>Value.int .u8 b.toNat).toList) (C:=(s'.data.map λb=>Value.int .u8 b.toNat).toList) (Array.replicate (cap - s'.size) (Value.int .u8 0)).toList e 1 (VRs.bytes s');have hA:((s'.data.map λb=>Value.int .u8 b.toNat).toList++(Array.replicate (cap - s'.size) (Value.int .u8 0)).toList).toArray=(s'.data.map λb=>Value.int .u8 b.toNat)++Array.replicate (cap - s'.size) (Value.int .u8 0):=by
   apply Array.toList_inj.1; simp
  have hlen:((s'.data.map λb=>Value.int .u8 b.toNat).toList++(Array.replicate (cap - s'.size) (Value.int .u8 0)).toList).length=cap:=by
   have:s'.data.size=s'.size:=rfl;simp [this]; omega
  have hsz:(((s'.data.map λb=>Value.int .u8 b.toNat).toList++(Array.replicate (cap - s'.size) (Value.int .u8 0)).toList).toArray).size=cap:=by rw [List.size_toArray]; exact hlen
  have hz:=Inv.qdO (w:={ w with drawn:=w.drawn+1 }) (B:=w.heap.size) (x:=⟨.cells (s'.data.map λb=>Value.int .u8 b.toNat).toList e,false,some 1⟩) (C:=((s'.data.map λb=>Value.int .u8 b.toNat).toList++(Array.replicate (cap - s'.size) (Value.int .u8 0)).toList).toArray) rfl hi1 h1 h2 (by simp) (by rw [hsz]; rw [hlen] at h3; exact h3) ⟨_,rfl⟩;rw [hsz] at hz;rw [hlen] at h3;refine ⟨.slice (some ⟨w.heap.size,0,none⟩) s'.size cap,_,φ',?_,.sliceLoose m.next 0 s'.size s'.size 0 cap 1 _ h3 rfl (λ_=>by simp) (Nat.le_refl _) hcut (by simp),hz.1,(Frm.drawn (φ:=φ) (m:=m) (w:=w) (w':={ w with drawn:=w.drawn+1 }) rfl rfl rfl rfl).trans hz.2⟩;have hshape:({ w with drawn:=w.drawn+1,heap:=w.heap.push (.cells ((s'.data.map λb=>Value.int .u8 b.toNat)++Array.replicate (cap - s'.size) (Value.int .u8 0)) e) }:World).shape? w.heap.size=some (e,cap):=by
   have:((s'.data.map λb=>Value.int .u8 b.toNat)++Array.replicate (cap - s'.size) (Value.int .u8 0)).size=cap:=by rw [<- hA]; exact hsz
   simp only [World.shape?,Array.getElem?_push_size];rw [this]
  have hfor:(Question.appendCap s'.size 0 e).forced=false:=rfl;simp only [convert,Sem.run_bind,qy hs,qy hd,qy he,Result.andThen_ok,Conv.stringToBytes,run_choose,hfor,hcap,Bool.false_eq_true,if_false,newRow,Sem.run_pure,run_newObj,markStringish,run_shape,hshape,run_freeze,hA]
 ·cases h
def kz (v:Value) (m:Mem):Option Value:=match v with
 | .slice none _ cap=>if cap=0 then some (.int .i64 0) else none
 | .slice (some ⟨b,_,none⟩) _ cap=>if m.known b=.exact then some (.int .i64 cap) else none
 | _=>none
theorem qdh {P:Program} {φ:Ren} {m:Mem} {w:World} (hi:Inv φ m w) {t e ty:TypeId} {v V u:Value} (ht:P.underlying t=some (.slice e)) (hv:VR φ v V) (h:kz v m=some u):(Builtin.cap_ #[t] ty #[V]).run P w=.ok u w/\VR φ u u:=by
 unfold kz at h;split at h
 ·split at h
  ·cases h; cases hv; exact ⟨by simp [Builtin.cap_,qy ht,goInt],.int ..⟩
  ·cases h
 ·rename_i b off len cap;split at h
  ·rename_i hk;cases h
   refine ⟨?_,.int ..⟩;cases hv with
   | sliceEx _ _ _ _ l hl hlo=>simp [Builtin.cap_,qy ht,goInt]
   | sliceZero _ _ A=>simp [Builtin.cap_,qy ht,goInt]
   | sliceLoose _ _ _ _ off' cap' s l hl hlo =>
    exfalso;have:∃ x,m.get b=some x/\x.loose=none:=by
     unfold Mem.known at hk;split at hk
     ·rename_i hg; exact ⟨_,hg,rfl⟩
     ·cases hk
     ·cases hk
    obtain ⟨x,hg,hx⟩:=this;obtain ⟨k,hk',ok⟩:=hi.live b x hg;rw [hl] at hk'; cases hk'
    have:=ok.1.1;rw [hlo,hx] at this; cases this
  ·cases h
 ·cases h
def wF (v:Value):Option Value:=match v with
 | .slice none _ _=>some (.pointer none)
 | .slice (some ⟨b,off,none⟩) _ cap=>if cap=0 then none else some (.pointer (some ⟨b,off,none⟩))
 | _=>none
theorem Xy {P:Program} {φ:Ren} {w:World} {ts:Array TypeId} {ty:TypeId} {v V u:Value} (hv:VR φ v V) (h:wF v=some u):∃ U,(Builtin.unsafeSliceData_ ts ty #[V]).run P w=.ok U w/\VR φ u U:=by
 unfold wF at h;split at h
 ·cases h; cases hv; exact ⟨_,Lib.run_unsafeSliceData_nil w ts ty _ _,.ptrNil⟩
 ·split at h
  ·cases h
  ·rename_i hc;cases h
   cases hv with
   | sliceEx _ _ _ _ l hl hlo=>exact ⟨_,Lib.run_unsafeSliceData_row w ts ty _ _ _ hc,.ptr _ _ l hl⟩
   | sliceZero _ _ A=>exact absurd rfl hc
   | sliceLoose _ _ _ _ off' cap' s l hl hlo hoff hlen hcap hroom =>
    obtain rfl:=hoff hc;exact ⟨_,Lib.run_unsafeSliceData_row w ts ty _ _ _ (by omega),.ptr _ _ l hl⟩
 ·cases h
def wE (e:TypeId) (p n:Value) (m:Mem):Option (Value × Mem):=match p,n with
 | .pointer none,.int .i64 k=>if k=0 then some (.string .empty,m) else none
 | .pointer (some ⟨b,off,none⟩),.int .i64 k =>
  if k=0 then some (.string .empty,m)
  else (m.jF b).bind λq=>if q.2.1=e/\0<k/\k<=2 ^ 62/\off+k.toNat<=q.1.length then (strOf ((q.1.drop off).take k.toNat)).map λl=>(.string ⟨l.toArray⟩,m.put b ⟨.cells q.1 q.2.1,true,q.2.2⟩) else none
 | _,_=>none
theorem qba {P:Program} {e:TypeId} (hc:P.cellsOf e=1) (count off n:Nat) (hn:off+n<=count):liesAt P P.depth e count off e n=true:=by
 have hd:P.depth=(2 * (P.types.size+Made.depth)+1)+1:=rfl;rw [hd];simp only [liesAt,Bool.or_eq_true];left;rw [hd];simp [rowAt,hc,hn,sameLayout,Nat.mod_one]
theorem Inv.freeze {φ:Ren} {m:Mem} {w:World} (h:Inv φ m w) {b:Nat} {c:List Value} {e:TypeId} {lo:Option Nat} {l:Loc} (hb:m.get b=some ⟨.cells c e,false,lo⟩) (hl:φ b=some l) (o n:Nat) :
  Inv φ (m.put b ⟨.cells c e,true,lo⟩) (w.freeze ⟨l.blk,o,none⟩ n)/\Frm φ m w φ (m.put b ⟨.cells c e,true,lo⟩) (w.freeze ⟨l.blk,o,none⟩ n):=by
 obtain ⟨k,hk,hloose,C,e',fz,hh,hc,hw,hz,hs,hee⟩:=h.live b _ hb;rw [hl] at hk; cases hk
 have hoth:∀ B,B≠l.blk->(w.freeze ⟨l.blk,o,none⟩ n).heap[B]? = w.heap[B]?:=by
  intro B hB;simp only [World.freeze];split
  ·rfl
  ·simp only [Array.getElem?_modify];rw [if_neg (λh=>hB h.symm)]
 have hself:∃ fz',(w.freeze ⟨l.blk,o,none⟩ n).heap[l.blk]? = some (.cells C e' fz'):=by
  simp only [World.freeze];split
  ·exact ⟨fz,hh⟩
  ·obtain ⟨lo',hi'⟩:=fz;simp only [Array.getElem?_modify,if_true,hh,Option.map_some];exact ⟨_,rfl⟩
 obtain ⟨fz',hself⟩:=hself;have hsz:(w.freeze ⟨l.blk,o,none⟩ n).heap.size=w.heap.size:=by
  simp only [World.freeze];split
  ·rfl
  ·simp
 have hos:(w.freeze ⟨l.blk,o,none⟩ n).os=w.os/\(w.freeze ⟨l.blk,o,none⟩ n).output=w.output/\(w.freeze ⟨l.blk,o,none⟩ n).tape=w.tape:=by
  simp only [World.freeze];split<;>exact ⟨rfl,rfl,rfl⟩
 have g:∀ d (y:ABlk),(m.put b ⟨.cells c e,true,lo⟩).get d=some y->∃ y',m.get d=some y'/\(y.ro=false->y'.ro=false/\d≠b):=by
  intro d y hy;rw [Mem.zi] at hy;by_cases ed:d=b
  ·rw [if_pos ed] at hy; cases hy; exact ⟨_,by rw [ed]; exact hb,λh=>by cases h⟩
  ·rw [if_neg ed] at hy; exact ⟨y,hy,λh=>⟨h,ed⟩⟩
 refine ⟨⟨λd y hy=>?_,λd f y z k j hy hz hk hj hr hdf=>?_,λd k hk=>by rw [hsz]; exact h.below d k hk⟩,⟨Ren.le_refl φ,by rw [hsz]; exact Nat.le_refl _,λB hB hno=>hoth B (λe'=>hno b _ l hb hl rfl e'.symm),λd y k hy hk hr=>?_,hos.1,hos.2.1,hos.2.2,Nat.le_refl _,λ_ _=>rfl,λd _ hn=>?_,λd y k hy hk=>?_⟩⟩
 ·rw [Mem.zi] at hy;by_cases ed:d=b
  ·rw [if_pos ed] at hy; cases hy
   subst ed;exact ⟨l,hl,⟨hloose.1,λh=>(by cases h)⟩,C,e',fz',hself,hc,(λh=>by cases h),(λh=>by cases h),hs,(λh=>by cases h)⟩
  ·rw [if_neg ed] at hy;obtain ⟨k,hk,ok⟩:=h.live d y hy;exact ⟨k,hk,ok.congr (hoth k.blk (λe'=>h.apart b d _ y l k hb hy hl hk rfl (Ne.symm ed) e'.symm))⟩
 ·obtain ⟨y',hy',ry⟩:=g d y hy;obtain ⟨z',hz',_⟩:=g f z hz;exact h.apart d f y' z' k j hy' hz' hk hj (ry hr).1 hdf
 ·obtain ⟨y',hy',ry⟩:=g d y hy;exact .inr ⟨d,y',k,hy',hk,(ry hr).1,rfl⟩
 ·rw [Mem.zi,if_neg (by rintro rfl; rw [hb] at hn; cases hn)]; exact hn
 ·obtain ⟨y',hy',_⟩:=g d y hy;exact .inr ⟨d,y',k,hy',hk,rfl⟩
theorem KT:∀ (l:List Value) (r:List UInt8),strOf l=some r->l.length=r.length/\∀ (j:Nat) x,r[j]? = some x->∃ n:Int,l[j]? = some (.int .u8 n)/\UInt8.ofNat n.toNat=x
 | [],r,h=>by cases h; exact ⟨rfl,λj x hx=>by simp at hx⟩
 | v::l,r,h=>by
  unfold strOf at h;split at h
  ·rename_i he; cases he
  ·rename_i n r' he;cases he
   simp only [msI] at h;obtain ⟨q,hq,rfl⟩:=h;obtain ⟨h1,h2⟩:=KT _ q hq;refine ⟨by simp [h1],λj x hx=>?_⟩;cases j with
   | zero=>simp at hx; exact ⟨n,rfl,hx⟩
   | succ j=>simpa using h2 j x (by simpa using hx)
  ·cases h
theorem yc {P:Program} {w:World}:∀ (l:List Value) (r:List UInt8) (a:Addr) (acc:ByteArray),strOf l=some r->(∀ (j:Nat) x,l[j]? = some x->w.cell? (a.add j)=some x)->(loadBytes a acc l.length).run P w=.ok ⟨acc.data++r.toArray⟩ w
 | [],r,a,acc,h,_=>by cases h; simp [loadBytes]
 | v::l,r,a,acc,h,hc=>by
  unfold strOf at h;split at h
  ·rename_i he; cases he
  ·rename_i n r' he;cases he
   simp only [msI] at h;obtain ⟨q,hq,rfl⟩:=h;have h0:w.cell? a=some (.int .u8 n):=by
    have:=hc 0 _ rfl;simpa [Addr.add] using this
   have ih:=yc (P:=P) (w:=w) l q (a.add 1) (acc.push (UInt8.ofNat n.toNat)) hq (λj y hy=>by
    have:=hc (j+1) y (by simpa using hy);have e:(a.add 1).add j=a.add (j+1):=by
     unfold Addr.add;by_cases hj:j=0
     ·subst hj; simp
     ·simp [hj]; omega
    rw [e]; exact this)
   have hx:n.toNat.toUInt8=UInt8.ofNat n.toNat:=rfl;simp only [lnI,loadBytes,Sem.run_bind,run_load,h0,Result.andThen,hx];rw [ih];congr 1;apply ByteArray.ext;simp [ByteArray.push]
  ·cases h
theorem Xx {P:Program} {φ:Ren} {m m':Mem} {w:World} (hi:Inv φ m w) {pt it ty e:TypeId} {p p' n n' u:Value} (hpt:P.underlying pt=some (.pointer e)) (hc1:P.cellsOf e=1) (hp:VR φ p p') (hn:VR φ n n') (h:wE e p n m=some (u,m')) :
  ∃ w',(Builtin.unsafeString_ #[pt,it] ty #[p',n']).run P w=.ok u w'/\VR φ u u/\Inv φ m' w'/\Frm φ m w φ m' w':=by
 unfold wE at h;split at h
 ·split at h
  ·rename_i hk;subst hk;cases h
   cases hp; cases hn
   exact ⟨w,Lib.run_unsafeString_none w pt it ty _,.string _,hi,Frm.refl φ m w⟩
  ·cases h
 ·rename_i b off k;cases hn
  split at h
  ·rename_i hk;subst hk;cases h
   cases hp
   exact ⟨w,Lib.run_unsafeString_none w pt it ty _,.string _,hi,Frm.refl φ m w⟩
  ·rename_i hk;simp only [bsI] at h;obtain ⟨⟨c,e',lo⟩,hq,h⟩:=h;have hg:=Mem.wg hq;split at h
   ·rename_i hh;obtain ⟨rfl,hk0,hk1,hlen⟩:=hh;simp only [msI,pjI] at h;obtain ⟨r,hr,rfl,rfl⟩:=h;cases hp with
    | ptr _ _ l hl =>
     obtain ⟨k',hk',hloose,C,e'',fz,hh,hcc,hw,hz,hs,hee⟩:=hi.live b _ hg;rw [hl] at hk'; cases hk'
     obtain rfl:=hee rfl;have hcells:∀ (j:Nat) x,((c.drop off).take k.toNat)[j]? = some x->∃ X,C[l.base+off+j]? = some X/\VR φ x X:=by
      intro j x hx;rw [List.getElem?_take] at hx;split at hx
      ·rw [List.getElem?_drop] at hx;obtain ⟨X,h1,h2⟩:=hcc _ x hx;exact ⟨X,by rw [Nat.add_assoc]; exact h1,h2⟩
      ·cases hx
     have hlen':((c.drop off).take k.toNat).length=k.toNat:=by simp only [ltI,ldI]; simp only at hlen; omega
     obtain ⟨hrl,hrg⟩:=KT _ r hr;have hL:∃ L:List Value,L.length=k.toNat/\strOf L=some r/\∀ (j:Nat) X,L[j]? = some X->C[l.base+off+j]? = some X:=by
      refine ⟨(List.range k.toNat).map λj=>(C[l.base+off+j]?).getD undef,by simp,?_,λj X hX=>?_⟩
      ·refine Ji (φ:=φ) _ _ _ ⟨by simp [hlen'],λj x X hx hX=>?_⟩ hr;obtain ⟨Y,h1,h2⟩:=hcells j x hx;simp only [List.getElem?_map,msI] at hX;obtain ⟨j',hj',rfl⟩:=hX;have:j'=j:=by
        have:=List.getElem?_eq_some_iff.1 hj';obtain ⟨h3,h4⟩:=this;simpa using h4.symm
       subst this;rw [h1]; exact h2
      ·simp only [List.getElem?_map,msI] at hX;obtain ⟨j',hj',rfl⟩:=hX;obtain ⟨h3,h4⟩:=List.getElem?_eq_some_iff.1 hj';have hjj:j'=j:=by simpa using h4.symm
       subst hjj;have hlt:j'<k.toNat:=by simpa using h3
       have hx:((c.drop off).take k.toNat)[j']? = some (((c.drop off).take k.toNat)[j']'(by omega)):=List.getElem?_eq_getElem (by omega);obtain ⟨Y,h1,_⟩:=hcells j' _ hx;rw [h1]; rfl
     obtain ⟨L,hLl,hLs,hLc⟩:=hL;have hbytes:=yc (P:=P) (w:=w) L r ⟨l.blk,l.base+off,none⟩ ByteArray.empty hLs (λj x hx=>by
      rw [jq,kM hh]; exact hLc j x hx)
     rw [hLl] at hbytes;have hCs:l.base+off+k.toNat<=C.size:=by
      obtain ⟨j,hj⟩:∃ j,k.toNat=j+1:=⟨k.toNat - 1,by omega⟩;have hx:((c.drop off).take k.toNat)[j]? = some (((c.drop off).take k.toNat)[j]'(by omega)):=List.getElem?_eq_getElem (by omega);obtain ⟨Y,h1,_⟩:=hcells j _ hx;rcases Nat.lt_or_ge (l.base+off+j) C.size with h'|h'
      ·omega
      ·rw [Array.getElem?_eq_none h'] at h1; cases h1
     have hshape:w.shape? l.blk=some (e'',C.size):=by simp [World.shape?,hh]
     have hlies:=qba (P:=P) hc1 (C.size / P.cellsOf e'') (l.base+off) k.toNat (by rw [hc1,Nat.div_one]; omega);have hf:=hi.freeze hg hl (l.base+off) k.toNat;have hm:¬ (k > IntKind.i64.max):=by
      have:IntKind.i64.max=9223372036854775807:=by decide
      omega
     refine ⟨_,?_,.string _,hf.1,hf.2⟩;have hk2:¬ k<0:=by omega
     have hdef:Builtin.unsafeString_ #[pt,it] ty #[.pointer (some ⟨l.blk,l.base+off,none⟩),.int .i64 k] =
       (do
        let n <- asInt (.int .i64 k)
        if n < 0 then runtimePanic (.error "unsafe.String: len out of range")
        if n > IntKind.i64.max then unsupported (.unsafePointer "String: a length above the largest int")
        if n=0 then pure (.string .empty)
        else if <- variablesAt ⟨l.blk,l.base+off,none⟩ (<- elemOf pt) n.toNat then do
         let s <- loadBytes ⟨l.blk,l.base+off,none⟩ .empty n.toNat
         freeze ⟨l.blk,l.base+off,none⟩ n.toNat
         pure (.string s)
        else unsupported (.unsafePointer "String: not so many bytes at ptr")) := rfl
     rw [hdef];simp only [asInt,asIntOf,Sem.run_bind,Sem.run_pure,Result.andThen_ok,Sem.run_ite,if_neg hk2,if_neg hm,if_neg hk,elemOf,qy hpt,variablesAt,run_program,run_shape,hshape,hlies,if_true,hbytes,run_freeze];simp
   ·cases h
 ·cases h
def qaE (v:Value) (m:Mem):Option Value:=match v with
 | .pointer none=>some (.pointer none)
 | .pointer (some ⟨b,off,none⟩)=>(m.xp b).bind λc=>if off<c.length then some v else none
 | _=>none
def qaD (t:TypeId) (n:Nat) (v:Value) (m:Mem):Option Value:=match v with
 | .pointer none=>some (.pointer none)
 | .pointer (some ⟨b,0,none⟩)=>match m.get b with
  | some ⟨.cells c e,false,none⟩=>if e=t/\c.length=n then some v else none
  | _=>none
 | _=>none
theorem Inv.shape {φ:Ren} {m:Mem} {w:World} (hi:Inv φ m w) {b:Nat} {c:List Value} {e:TypeId} {ro:Bool} {lo:Option Nat} {l:Loc} (hg:m.get b=some ⟨.cells c e,ro,lo⟩) (hl:φ b=some l) :
  ∃ C e' fz,w.heap[l.blk]? = some (.cells C e' fz)/\w.shape? l.blk=some (e',C.size)/\l.base+c.length<=C.size+(if c.length=0 then l.base else 0)/\(ro=false->e'=e):=by
 obtain ⟨k,hk,_,C,e',fz,hh,hc,hw,hz,hs,hee⟩:=hi.live b _ hg;rw [hl] at hk; cases hk
 refine ⟨C,e',fz,hh,by simp [World.shape?,hh],?_,hee⟩;by_cases h0:c.length=0
 ·simp [h0]
 ·rw [if_neg h0];obtain ⟨V,hV,_⟩:=hc (c.length - 1) (c[c.length - 1]'(by omega)) (List.getElem?_eq_getElem (by omega));rcases Nat.lt_or_ge (l.base+(c.length - 1)) C.size with h'|h'
  ·omega
  ·rw [Array.getElem?_eq_none h'] at hV; cases hV
theorem qdf {P:Program} {φ:Ren} {m:Mem} {w:World} (hi:Inv φ m w) {s d t:TypeId} {i:TypeInfo} (hs:P.underlying s=some (.pointer t)) (hd:P.underlying d=some .unsafePointer) (ht:P.info? t=some i) (hz:i.size≠0) {v V u:Value} (hv:VR φ v V) (h:qaE v m=some u) :
  ∃ U,(convert s d V).run P w=.ok U w/\VR φ u U:=by
 unfold qaE at h;split at h
 ·cases h; cases hv
  exact ⟨.pointer none,by simp [convert,qy hs,qy hd,Conv.unsafePointer],.ptrNil⟩
 ·rename_i b off;simp only [bsI] at h;obtain ⟨c,hc,h⟩:=h;split at h
  ·rename_i hlt;cases h
   obtain ⟨e,ro,lo,hg⟩:=Mem.jl hc;cases hv with
   | ptr _ _ l hl =>
    obtain ⟨C,e',fz,h1,h2,h3,_⟩:=hi.shape hg hl;have hne:¬ c.length=0:=by omega
    rw [if_neg hne] at h3;exact ⟨_,Lib.run_to_unsafe w _ hs hd ht hz h2 (by show l.base+off<C.size; omega),.ptr _ _ l hl⟩
  ·cases h
 ·cases h
theorem qdc {P:Program} {φ:Ren} {m:Mem} {w:World} (hi:Inv φ m w) {s d t:TypeId} {i:TypeInfo} (hs:P.underlying s=some .unsafePointer) (hd:P.underlying d=some (.pointer t)) (ht:P.info? t=some i) (hbase:∀ k,0<k->liesAt P P.depth t k 0 t 1=true) (hcell:P.cellsOf t=i.size) (hz:i.size≠0) {v V u:Value} (hv:VR φ v V) (h:qaD t i.size v m=some u) :
  ∃ U,(convert s d V).run P w=.ok U w/\VR φ u U:=by
 unfold qaD at h;split at h
 ·cases h; cases hv
  exact ⟨.pointer none,by simp [convert,qy hs,qy hd,Conv.unsafePointer],.ptrNil⟩
 ·rename_i b;split at h
  ·rename_i c e hg;split at h
   ·rename_i he;obtain ⟨rfl,hlen⟩:=he;cases h
    cases hv with
    | ptr _ _ l hl =>
     obtain ⟨C,e',fz,h1,h2,h3,h4⟩:=hi.shape hg hl;obtain rfl:=h4 rfl;have hne:¬ c.length=0:=by omega
     rw [if_neg hne] at h3;have hbz:l.base=0:=by
      obtain ⟨k,hk,hlo,_⟩:=hi.live b _ hg;rw [hl] at hk; cases hk
      exact hlo.2 rfl rfl
     refine ⟨_,Lib.run_from_unsafe w ⟨l.blk,l.base+0,none⟩ hs hd ht h2 ?_,.ptr _ _ l hl⟩;show liesAt P P.depth e' (C.size / P.cellsOf e') (l.base+0) e' 1=true;rw [hbz,hcell];exact hbase _ (Nat.div_pos (by omega) (by omega))
   ·cases h
  ·cases h
 ·cases h
def JC (neg:Bool) (x y:Value) (m:Mem):Option Value:=match x,y with
 | .pointer none,.pointer b=>some (.bool (if neg then !b.isNone else b.isNone))
 | .pointer (some _),.pointer none=>some (.bool neg)
 | .pointer (some ⟨b,off,none⟩),.pointer (some ⟨b',off',none⟩) =>
  if b=b' then some (.bool (if neg then !(off == off') else off == off'))
  else match m.get b,m.get b' with
   | some ⟨.cells _ _,false,none⟩,some ⟨.cells _ _,false,none⟩=>some (.bool neg)
   | _,_=>none
 | _,_=>none
theorem XA {P:Program} {w:World} {a b:Addr} {C D:Array Value} {e f:TypeId} (hne:a.block≠b.block) (ha:w.heap[a.block]? = some (.cells C e (0,0))) (hb:w.heap[b.block]? = some (.cells D f (0,0))):(sameAddr a b).run P w=.ok false w:=by
 have s1:w.shape? a.block=some (e,C.size):=by simp [World.shape?,ha]
 have s2:w.shape? b.block=some (f,D.size):=by simp [World.shape?,hb]
 have f1:w.frozen? a=false:=by simp [World.frozen?,ha]
 have f2:w.frozen? b=false:=by simp [World.frozen?,hb]
 have g1:w.frozen? { block:=a.block,off:=C.size } = false:=by simp [World.frozen?,ha]
 have g2:w.frozen? { block:=b.block,off:=D.size } = false:=by simp [World.frozen?,hb]
 have hbe:(a.block == b.block)=false:=by simpa using hne
 simp [sameAddr,hbe,f1,f2,noView,viewAt,s1,s2,mayBeOne,stringish,g1,g2]
theorem run_equal_ptr {P:Program} {w:World} {tp te:TypeId} {j:TypeInfo} (hp:P.underlying tp=some (.pointer te)) (hte:P.info? te=some j) (hz:j.size≠0) (a b:Addr) {r:Bool} (h:(sameAddr a b).run P w=.ok r w) (n:Nat):(Op.equalIn (n+1) tp (.pointer (some a)) (.pointer (some b))).run P w=.ok r w:=by
 simp [Op.equalIn,qy hp,sizeOf,typeInfo,hte,hz,h]
theorem run_equal_nil {P:Program} {w:World} {tp te:TypeId} (hp:P.underlying tp=some (.pointer te)) (x y:Option Addr) (h:x=none∨y=none) (n:Nat):(Op.equalIn (n+1) tp (.pointer x) (.pointer y)).run P w=.ok (x.isNone&&y.isNone) w:=by
 rcases h with rfl|rfl
 ·simp [Op.equalIn,qy hp]
 ·cases x<;>simp [Op.equalIn,qy hp]
theorem sound_eqPtr {P:Program} {φ:Ren} {m:Mem} {w:World} (hi:Inv φ m w) {neg:Bool} {tp te:TypeId} {j:TypeInfo} (hp:P.underlying tp=some (.pointer te)) (hte:P.info? te=some j) (hz:j.size≠0) {x y:Operand} {v V k K u:Value} (hv:VR φ v V) (hk:VR φ k K) (h:JC neg v k m=some u) :
  ((do eqGuard (if neg then .neq else .eql) tp x y V K; Go.binOp (if neg then .neq else .eql) tp V K:Sem Value)).run P w=.ok u w/\VR φ u u:=by
 have key:∀ (a b:Option Addr) (r:Bool),(Op.equalIn (9999+1) tp (.pointer a) (.pointer b)).run P w=.ok r w->((do eqGuard (if neg then .neq else .eql) tp x y (.pointer a) (.pointer b); Go.binOp (if neg then .neq else .eql) tp (.pointer a) (.pointer b):Sem Value)).run P w=.ok (.bool (if neg then !r else r)) w:=by
  intro a b r hr;exact ZE rfl hr
 unfold JC at h;split at h
 ·rename_i b;cases h
  cases hv
  refine ⟨?_,.bool _⟩;cases hk with
  | ptrNil=>simpa using key none none true (by simpa using run_equal_nil hp none none (.inl rfl) 9999)
  | ptr b off l hl=>simpa using key none _ false (run_equal_nil hp none _ (.inl rfl) 9999)
 ·cases h
  cases hk
  refine ⟨?_,.bool _⟩;cases hv with
  | ptr b off l hl=>simpa using key _ none false (run_equal_nil hp _ none (.inr rfl) 9999)
 ·rename_i b off b' off';cases hv with
  | ptr _ _ l hl =>
  cases hk with
  | ptr _ _ l' hl' =>
  split at h
  ·rename_i hbb;cases h
   refine ⟨?_,.bool _⟩;subst hbb;rw [hl] at hl'; cases hl'
   have:(sameAddr ⟨l.blk,l.base+off,none⟩ ⟨l.blk,l.base+off',none⟩).run P w=.ok (off == off') w:=by
    simp only [sameAddr,beq_self_eq_true,if_true];have:((⟨l.blk,l.base+off,none⟩:Addr) == ⟨l.blk,l.base+off',none⟩)=(off == off'):=by
     rw [Bool.eq_iff_iff]; simp
    rw [this]; rfl
   exact key _ _ _ (run_equal_ptr hp hte hz _ _ this 9999)
  ·rename_i hbb;split at h
   ·rename_i c e c' e' hg hg';cases h
    refine ⟨?_,.bool _⟩;have hne:=hi.apart b b' _ _ l l' hg hg' hl hl' rfl hbb;obtain ⟨k1,hk1,_,C,e1,fz,h1,_,_,hz1,_⟩:=hi.live b _ hg;rw [hl] at hk1; cases hk1
    obtain ⟨k2,hk2,_,D,e2,fz2,h2,_,_,hz2,_⟩:=hi.live b' _ hg';rw [hl'] at hk2; cases hk2
    rw [hz1 rfl (by simp)] at h1;rw [hz2 rfl (by simp)] at h2;have:=key (some ⟨l.blk,l.base+off,none⟩) (some ⟨l'.blk,l'.base+off',none⟩) false (run_equal_ptr hp hte hz _ _ (XA hne h1 h2) 9999);simpa using this
   ·cases h
 ·cases h
def vY (v:Value) (m:Mem):Option (Value × Mem):=match v with
 | .string s=>some (.pointer (some ⟨m.next,0,none⟩),m.add ⟨.siter s 0,false,none⟩)
 | _=>none
def Mem.WB (m:Mem) (b:Nat):Option (ByteArray × Nat × Option Nat):=match m.get b with
 | some ⟨.siter s p,false,none⟩=>some (s,p,none)
 | _=>none
def kP (v:Value) (m:Mem):Option (Value × Mem):=match v with
 | .pointer (some ⟨b,0,none⟩)=>(m.WB b).bind λq =>
  if q.2.1<q.1.size then some (.tuple #[.bool true,.int .i64 q.2.1,.int .i32 (Utf8.decode q.1 q.2.1).1],m.put b ⟨.siter q.1 (q.2.1+(Utf8.decode q.1 q.2.1).2),false,q.2.2⟩)
  else some (.tuple #[.bool false],m)
 | _=>none
theorem VZ {P:Program} {φ:Ren} {m m':Mem} {w:World} (hi:Inv φ m w) {t:TypeId} (ht:P.underlying t=some .string) {v V u:Value} (hv:VR φ v V) (h:vY v m=some (u,m')) :
  ∃ U w' φ',(Instr.range t V).run P w=.ok U w'/\VR φ' u U/\Inv φ' m' w'/\Frm φ m w φ' m' w':=by
 unfold vY at h;split at h
 ·rename_i s;cases h
  cases hv
  have:=hi.alloc (.stringIter s 0) ⟨.siter s 0,false,none⟩ ⟨w.heap.size,0,none,0⟩ rfl ⟨⟨rfl,λ_ _=>rfl⟩,by simp⟩;exact ⟨.pointer (some ⟨w.heap.size,0,none⟩),_,_,by simp [Instr.range,qy ht],.ptr m.next 0 _ (Ren.zB ..),this.1,this.2⟩
 ·cases h
theorem YL {P:Program} {φ:Ren} {m m':Mem} {w:World} (hi:Inv φ m w) {ty:TypeId} {v V u:Value} (hv:VR φ v V) (h:kP v m=some (u,m')) :
  ∃ w',(Instr.next V true ty).run P w=.ok u w'/\VR φ u u/\Inv φ m' w'/\Frm φ m w φ m' w':=by
 unfold kP at h;split at h
 ·rename_i b;simp only [bsI] at h;obtain ⟨⟨s,p,lo⟩,hq,h⟩:=h;have hg:m.get b=some ⟨.siter s p,false,none⟩/\lo=none:=by
   unfold Mem.WB at hq;split at hq
   ·rename_i s' p' hg; cases hq; exact ⟨hg,rfl⟩
   ·cases hq
  obtain ⟨hg,rfl⟩:=hg;cases hv with
  | ptr _ _ l hl =>
   obtain ⟨k,hk,hlo,hh⟩:=hi.live b _ hg;rw [hl] at hk; cases hk
   have hbz:l.base=0:=hlo.2 rfl rfl;have hh:w.heap[l.blk]? = some (.stringIter s p):=hh;have hget:(getObj l.blk).run P w=.ok (.stringIter s p) w:=by simp [getObj,Sem.run,hh]
   have hset:∀ O,(setObj l.blk O).run P w=.ok () { w with heap:=w.heap.setIfInBounds l.blk O }:=λO=>by simp [setObj,Sem.run,hh]
   have hlt:=hi.jm hl;split at h
   ·rename_i hp;cases h
    have:=hi.setObj hg rfl hl ⟨.siter s (p+(Utf8.decode s p).2),false,none⟩ (.stringIter s (p+(Utf8.decode s p).2)) rfl ⟨hlo,by simp [hlt]⟩;refine ⟨_,?_,VRs.tuple (xs:=[.bool true,.int .i64 p,.int .i32 (Utf8.decode s p).1]) (ys:=[.bool true,.int .i64 p,.int .i32 (Utf8.decode s p).1]) (VRs.cons (.bool _) (VRs.cons (.int ..) (VRs.cons (.int ..) (VRs.nil φ)))),this.1,this.2⟩;rw [hbz];simp only [Instr.next,Sem.run_bind,hget,Result.andThen_ok,Nat.add_zero,if_pos hp];simp [hset,goInt]
   ·rename_i hp;cases h
    refine ⟨w,?_,VRs.tuple (xs:=[.bool false]) (ys:=[.bool false]) (VRs.cons (.bool _) (VRs.nil φ)),hi,Frm.refl φ m w⟩;rw [hbz];simp only [Instr.next,Sem.run_bind,hget,Result.andThen_ok,Nat.add_zero,if_neg hp];simp
 ·cases h
end Go.Fx
namespace Go.Fx
open Go
inductive P1 where
 | sliceData
 | assert (t:TypeId) (ok:Bool) (z:Value)
inductive P2 where
 | eqIface (neg:Bool)
 | idxByte
inductive R1 where
 | lenM
 | cap
 | p2u
 | u2p (t:TypeId) (n:Nat)
inductive R2 where
 | lookup (kk:KK) (z:Value) (ok:Bool)
 | eqPtr (neg:Bool)
inductive E1 where
 | s2b (e:TypeId)
 | clearM
 | rangeS
 | nextS
 | noZero (e:TypeId)
 | cloneM
inductive E2 where
 | delM (kk:KK)
 | unsafeStr (e:TypeId)
 | appendN (e:TypeId) (size eb:Nat) (z:Value)
def kC (t:TypeId) (ok:Bool) (z v:Value):Option Value:=match v with
 | .iface u x=>if u=t then some (if ok then .tuple #[x,.bool true] else x) else if ok then some (.tuple #[z,.bool false]) else none
 | .nilIface=>if ok then some (.tuple #[z,.bool false]) else none
 | _=>none
def Qg (neg:Bool) (a b:Value):Option Value:=match a,b with
 | .nilIface,.nilIface=>some (.bool (!neg))
 | .nilIface,.iface _ _=>some (.bool neg)
 | .iface _ _,.nilIface=>some (.bool neg)
 | _,_=>none
def JB (a b:Value):Option Value:=match a,b with
 | .string s,.int .u8 c=>some (.int .i64 (Lib.indexByte s.data.toList c.toNat.toUInt8))
 | _,_=>none
def ZF (e:TypeId) (v:Value) (m:Mem):Option (Value × Mem):=match v with
 | .int .i64 n=>if 0<=n/\n<=281474976710656 then some (.slice (some ⟨m.next,0,none⟩) n.toNat n.toNat,m.add ⟨.cells (List.replicate n.toNat qdH) e,false,some 1⟩) else none
 | _=>none
def ju (v:Value) (m:Mem):Option (Value × Mem):=match v with
 | .iface t (.map (some b))=>(m.xq b).map λq=>(.iface t (.map (some m.next)),m.add ⟨.map q.1 q.2,false,none⟩)
 | _=>none
def P1.run (v:Value):P1->Option Value
 | .sliceData=>wF v
 | .assert t ok z=>kC t ok z v
def P2.run (a b:Value):P2->Option Value
 | .eqIface neg=>Qg neg a b
 | .idxByte=>JB a b
def R1.run (v:Value) (m:Mem):R1->Option Value
 | .lenM=>yA v m
 | .cap=>kz v m
 | .p2u=>qaE v m
 | .u2p t n=>qaD t n v m
def R2.run (a b:Value) (m:Mem):R2->Option Value
 | .lookup kk z ok=>zl kk z ok a b m
 | .eqPtr neg=>JC neg a b m
def E1.run (v:Value) (m:Mem):E1->Option (Value × Mem)
 | .s2b e=>Qe e v m
 | .clearM=>(ZG v m).map (undef,·)
 | .rangeS=>vY v m
 | .nextS=>kP v m
 | .noZero e=>ZF e v m
 | .cloneM=>ju v m
def E2.run (a b:Value) (m:Mem):E2->Option (Value × Mem)
 | .delM kk=>(XG kk a b m).map (undef,·)
 | .unsafeStr e=>wE e a b m
 | .appendN e size eb z=>xk e size eb z a b m
theorem Hv {P:Program} {t:TypeId} (hc:P.cellsOf t≠0) (k:Nat) (hk:0<k):liesAt P P.depth t k 0 t 1=true:=by
 have hd:P.depth=(2 * (P.types.size+Made.depth)+1)+1:=rfl;rw [hd];simp only [liesAt,Bool.or_eq_true];left;rw [hd];simp [rowAt,hc,sameLayout];omega
theorem Wj {P:Program} {φ:Ren} {w:World} {xt t:TypeId} {ok:Bool} {d:TypeDesc} {i:TypeInfo} {z v V u:Value} (hd:P.underlying t=some d) (hni:∀ ms,d≠.interface ms) (hti:P.info? t=some i) (hz:i.zero=some z) (hzp:VR φ z z) (hv:VR φ v V) (h:kC t ok z v=some u) :
  ∃ U,(Instr.typeAssert V xt t ok).run P w=.ok U w/\VR φ u U:=by
 unfold kC at h;split at h
 ·rename_i tt x;cases hv with
  | iface _ _ X hx =>
   split at h
   ·rename_i he;subst he;cases h
    cases ok
    ·refine ⟨X,?_,hx⟩;cases d<;>first|(exact absurd rfl (hni _))|(simp [Instr.typeAssert,qy hd])
    ·refine ⟨.tuple #[X,.bool true],?_,VRs.tuple (xs:=[x,.bool true]) (ys:=[X,.bool true]) (VRs.cons hx (VRs.cons (.bool true) (VRs.nil φ)))⟩;cases d<;>first|(exact absurd rfl (hni _))|(simp [Instr.typeAssert,qy hd])
   ·rename_i he;split at h
    ·rename_i hok;subst hok;cases h
     refine ⟨.tuple #[z,.bool false],?_,VRs.tuple (xs:=[z,.bool false]) (ys:=[z,.bool false]) (VRs.cons hzp (VRs.cons (.bool false) (VRs.nil φ)))⟩;cases d<;>first|(exact absurd rfl (hni _))|(simp [Instr.typeAssert,qy hd,he,zV hti hz])
    ·cases h
 ·split at h
  ·rename_i hok;subst hok;cases h
   cases hv
   refine ⟨.tuple #[z,.bool false],?_,VRs.tuple (xs:=[z,.bool false]) (ys:=[z,.bool false]) (VRs.cons hzp (VRs.cons (.bool false) (VRs.nil φ)))⟩;cases d<;>first|(exact absurd rfl (hni _))|(simp [Instr.typeAssert,qy hd,zV hti hz])
  ·cases h
 ·cases h
def isC:Operand->Bool
 | .const _=>true
 | _=>false
theorem run_equal_iface {P:Program} {w:World} {t:TypeId} {ms:Array (String × TypeId)} (ht:P.underlying t=some (.interface ms)) (n:Nat) (tt:TypeId) (X:Value) :
  (Op.equalIn (n+1) t .nilIface .nilIface).run P w=.ok true w/\(Op.equalIn (n+1) t .nilIface (.iface tt X)).run P w=.ok false w/\(Op.equalIn (n+1) t (.iface tt X) .nilIface).run P w=.ok false w:=by
 refine ⟨?_,?_,?_⟩<;>simp [Op.equalIn,qy ht]
theorem ZD {P:Program} {w:World} {t:TypeId} {neg:Bool} {x y:Operand} (hxy:(isC x||isC y)=true):(eqGuard (if neg then .neq else .eql) t x y .nilIface .nilIface).run P w=.ok () w:=by
 cases neg<;>cases x<;>cases y<;>first|(cases hxy; done)|simp [eqGuard]
theorem JA {P:Program} {w:World} {neg:Bool} {t:TypeId} {x y:Operand} {A B:Value} {r:Bool} (hs:(A=.nilIface∨∃ tt X,A=.iface tt X)/\(B=.nilIface∨∃ tt X,B=.iface tt X)) (hg:(eqGuard (if neg then .neq else .eql) t x y A B).run P w=.ok () w) (h:(Op.equalIn 10000 t A B).run P w=.ok r w) :
  ((do eqGuard (if neg then .neq else .eql) t x y A B; Go.binOp (if neg then .neq else .eql) t A B:Sem Value)).run P w=.ok (.bool (if neg then !r else r)) w:=by
 rw [show ∀ A B,Op.equalIn 10000 t A B=Op.equal t A B from λ_ _=>rfl] at h;rw [Sem.run_bind,hg];obtain ⟨rfl|⟨tt,X,rfl⟩,rfl|⟨uu,Y,rfl⟩⟩:=hs<;>cases neg<;>simp only [Bool.false_eq_true,if_false,if_true,Result.andThen_ok,Go.binOp,Sem.run_bind,h,Sem.run_pure]
theorem sound_eqIface {P:Program} {φ:Ren} {w:World} {neg:Bool} {t:TypeId} {ms:Array (String × TypeId)} {x y:Operand} {v V k K u:Value} (ht:P.underlying t=some (.interface ms)) (hxy:(isC x||isC y)=true) (hv:VR φ v V) (hk:VR φ k K) (h:Qg neg v k=some u) :
  ((do eqGuard (if neg then .neq else .eql) t x y V K; Go.binOp (if neg then .neq else .eql) t V K:Sem Value)).run P w=.ok u w/\VR φ u u:=by
 unfold Qg at h;split at h
 ·cases h
  cases hv; cases hk
  refine ⟨?_,.bool _⟩;simpa using JA (x:=x) (y:=y) (neg:=neg) ⟨.inl rfl,.inl rfl⟩ (ZD hxy) (run_equal_iface (P:=P) (w:=w) ht 9999 0 .nilIface).1
 ·cases h
  cases hv; cases hk
  refine ⟨?_,.bool _⟩;simpa using JA (x:=x) (y:=y) (neg:=neg) ⟨.inl rfl,.inr ⟨_,_,rfl⟩⟩ (by cases neg<;>simp [eqGuard]) (run_equal_iface (P:=P) (w:=w) ht 9999 _ _).2.1
 ·cases h
  cases hv; cases hk
  refine ⟨?_,.bool _⟩;simpa using JA (x:=x) (y:=y) (neg:=neg) ⟨.inr ⟨_,_,rfl⟩,.inl rfl⟩ (by cases neg<;>simp [eqGuard]) (run_equal_iface (P:=P) (w:=w) ht 9999 _ _).2.2
 ·cases h
theorem Vy:∀ (n t:Nat) (acc:Array Value),(∀ (i:Nat) v,acc[i]? = some v->∃ k,v=.int .u8 k)->∀ (i:Nat) v,(Extern.BytealgMakeNoZero.digits n t acc)[i]? = some v->∃ k,v=.int .u8 k
 | 0,_,_,h=>h
 | n+1,t,acc,h=>by
  rw [Extern.BytealgMakeNoZero.digits];refine Vy n _ _ λi v hv=>?_
  rw [Array.getElem?_push] at hv;split at hv
  ·cases hv; exact ⟨_,rfl⟩
  ·exact h i v hv
theorem Wa {P:Program} {φ:Ren} {m m':Mem} {w:World} (hi:Inv φ m w) {ps:Array TypeId} {t e:TypeId} (ht:P.underlying t=some (.slice e)) {v V u:Value} (hv:VR φ v V) (h:ZF e v m=some (u,m')) :
  ∃ U w' φ',(Extern.BytealgMakeNoZero.makeNoZero ps #[t] #[V]).run P w=.ok U w'/\VR φ' u U/\Inv φ' m' w'/\Frm φ m w φ' m' w':=by
 unfold ZF at h;split at h
 ·rename_i n;split at h
  ·rename_i hn;cases h
   cases hv
   obtain ⟨n,rfl⟩:=Int.eq_ofNat_of_zero_le hn.1;have hdef:Extern.BytealgMakeNoZero.makeNoZero ps #[t] #[.int .i64 n] =
     (do
      let .slice elem ← underlying t | stuck "bytealg.MakeNoZero: slice type expected"
      if (n : Int) < 0 || (n : Int) > 2 ^ 48 then runtimePanic (.error "makeslice: len out of range")
      let cap <- choose (.appendCap (n:Int).toNat 0 elem)
      askRoom cap
      let bytes ← choose (.extern "internal/bytealg.MakeNoZero.bytes" 0)
      let a <- newRow elem (Extern.BytealgMakeNoZero.digits cap bytes #[])
      pure (.slice (some a) (n:Int).toNat cap)):=rfl
   have h1:¬ (n:Int)<0:=by omega
   have h2:¬ (281474976710656:Int)<(n:Int):=by omega
   generalize hcap:(Question.appendCap n 0 e).cut (w.tape w.drawn (.appendCap n 0 e))=cap;have hcut:n<=cap:=by rw [<- hcap]; simp [Question.cut]
   generalize hby : (Question.extern "internal/bytealg.MakeNoZero.bytes" 0).cut (w.tape (w.drawn + 1) (.extern "internal/bytealg.MakeNoZero.bytes" 0)) = by';have hi1:Inv φ m { w with drawn:=w.drawn+1+1 }:=hi.drawn rfl;generalize hD:Extern.BytealgMakeNoZero.digits cap by' #[]=D;have hDs:D.size=cap:=by rw [<- hD,Lib.size_digits]; simp
   have hDu:∀ (i:Nat) v,D[i]? = some v->∃ k,v=.int .u8 k:=by rw [<- hD]; exact Vy _ _ _ (λi v h=>by simp at h)
   have hr:VRs φ (List.replicate n qdH) (D.toList.take n):=by
    refine ⟨by simp [hDs]; omega,λi x y hx hy=>?_⟩;rw [List.getElem?_replicate] at hx;split at hx
    ·rename_i hlt;obtain rfl:=Option.some.inj hx;rw [List.getElem?_take,if_pos hlt] at hy;obtain ⟨k,rfl⟩:=hDu i y (by simpa using hy);exact .qdH k
    ·cases hx
   obtain ⟨φ',h3,h4,h5⟩:=hi1.wS (D.toList.drop n) e 1 hr;have hall:(D.toList.take n++D.toList.drop n).toArray=D:=by rw [List.take_append_drop]
   have hlen:(D.toList.take n++D.toList.drop n).length=cap:=by rw [List.take_append_drop]; simpa using hDs
   rw [hall] at h3 h4;rw [hlen] at h5;have hto:((n:Int)).toNat=n:=by simp
   refine ⟨.slice (some ⟨w.heap.size,0,none⟩) n cap,{ w with drawn:=w.drawn+1+1,heap:=w.heap.push (.cells D e) },φ',?_,?_,?_,?_⟩
   ·have hfor:(Question.appendCap n 0 e).forced=false:=rfl;have hfor2 : (Question.extern "internal/bytealg.MakeNoZero.bytes" 0).forced = false := rfl;rw [hdef];simp [qy ht,h1,h2,run_choose,hfor,hcap,hfor2,hby,hD,newRow];rfl
   ·rw [hto]; exact .sliceLoose m.next 0 n n 0 cap 1 _ h5 rfl (λ_=>by simp) (Nat.le_refl _) hcut (by simp)
   ·rw [hto]; exact h3
   ·rw [hto]; exact (Frm.drawn (φ:=φ) (m:=m) (w:=w) (w':={ w with drawn:=w.drawn+1+1 }) rfl rfl rfl rfl).trans h4
  ·cases h
 ·cases h
theorem Wg {P:Program} {φ:Ren} {m m':Mem} {w:World} (hi:Inv φ m w) {v V u:Value} (hv:VR φ v V) (h:ju v m=some (u,m')) :
  ∃ U w' φ',(Extern.MapsClone.clone #[V]).run P w=.ok U w'/\VR φ' u U/\Inv φ' m' w'/\Frm φ m w φ' m' w':=by
 unfold ju at h;split at h
 ·rename_i t b;simp only [msI] at h;obtain ⟨⟨es,c⟩,hm,h⟩:=h;cases h
  obtain ⟨ro,lo,hg⟩:=Mem.ZO hm;cases hv with
  | iface _ _ X hx =>
  cases hx with
  | map _ l hl =>
   obtain ⟨_,ES,h1,h2⟩:=hi.xq hg hl;have hdef:∀ r,Extern.MapsClone.clone #[.iface t (.map (some r))]=(do
    let .map entries clock ← getObj r | stuck "maps.clone: a map expected"
    pure (.iface t (.map (some (<- newObj (.map entries clock)))))):=λ_=>rfl
   have hle:=Ren.wM (l:=⟨w.heap.size,0,none,0⟩) hi.fresh;have:=hi.alloc (.map ES c) ⟨.map es c,false,none⟩ ⟨w.heap.size,0,none,0⟩ rfl ⟨⟨rfl,λ_ _=>rfl⟩,ES,by simp,⟨h2.1,λi x y hx hy=>⟨(h2.2 i x y hx hy).1,(h2.2 i x y hx hy).2.1,(h2.2 i x y hx hy).2.2.mono hle⟩⟩⟩;exact ⟨.iface t (.map (some w.heap.size)),_,_,by rw [hdef l.blk]; simp [xV h1],.iface _ _ _ (.map m.next _ (Ren.zB ..)),this.1,this.2⟩
 ·cases h
inductive ExtK where
 | noEscape|noZero|idxByte|cloneM
 deriving DecidableEq
def extK (n:String):Option ExtK :=
 if n = "internal/abi.NoEscape" then some .noEscape else if n = "internal/bytealg.MakeNoZero" then some .noZero else if n = "internal/bytealg.IndexByteString" then some .idxByte else if n = "maps.clone" then some .cloneM else none
def extOf (P:Program) (f:FuncId):Option (ExtK × Func):=match P.funcs[f]? with
 | some fn => if fn.body.isNone = true ∧ fn.origin = "" then (extK fn.name).map (·, fn) else none
 | none=>none
end Go.Fx
namespace Go.Fx
open Go
inductive AOp where
 | mov (x:Operand)
 | nilck (x:Operand)
 | pick (c a b:Operand)
 | alloc (e:TypeId) (z:Value)
 | box (e:TypeId) (x:Operand)
 | build (z:List Value) (ps:List (Nat × Nat × Operand))
 | buildSlice (e:TypeId) (len:Nat) (z:List Value) (ps:List (Nat × Nat × Operand))
 | load1 (x:Operand)
 | loadN (n:Nat) (x:Operand)
 | store (n:Nat) (a x:Operand)
 | arith (op:BinOp) (x y:Operand)
 | eqD (neg:Bool) (d:List (Nat × Nat × Bool × EqD)) (x y:Operand)
 | eqBool (neg:Bool) (x y:Operand)
 | eqNil (k:NilK) (neg:Bool) (x y:Operand)
 | un (op:UnOp) (x:Operand)
 | conv (k:IntKind) (x:Operand)
 | b2s (x:Operand)
 | fieldAddr (off:Nat) (x:Operand)
 | field (off size:Nat) (agg:Bool) (x:Operand)
 | indexS (size:Nat) (x i:Operand)
 | indexA (len size:Nat) (x i:Operand)
 | indexStr (x i:Operand)
 | indexArr (len size:Nat) (agg:Bool) (x i:Operand)
 | sliceStr (x:Operand) (lo hi:Option Operand)
 | sliceS (size:Nat) (x:Operand) (lo hi:Option Operand)
 | sliceA (n size:Nat) (x:Operand) (lo hi:Option Operand)
 | extract (i:Nat) (x:Operand)
 | lenS (x:Operand)
 | lenStr (x:Operand)
 | append (e:TypeId) (size eb:Nat) (x y:Operand)
 | copy (size:Nat) (x y:Operand)
 | min (x:Operand) (xs:List Operand)
 | max (x:Operand) (xs:List Operand)
 | mkfunc (f:FuncId) (fs xs:List Operand)
 | p1 (k:P1) (x:Operand)
 | p2 (k:P2) (x y:Operand)
 | r1 (k:R1) (x:Operand)
 | r2 (k:R2) (x y:Operand)
 | e1 (k:E1) (x:Operand)
 | e2 (k:E2) (x y:Operand)
 | mapUpd (kk:KK) (m k x:Operand)
 | makeM (x:Option Operand)
 | slice3 (size:Nat) (x:Operand) (lo hi:Option Operand) (mx:Operand)
 | clearS (z:List Value) (x:Operand)
 | makeS (e:TypeId) (bytes:Nat) (z:List Value) (n c:Operand)
 | mkiface (t:TypeId) (x:Operand)
 | call (f:FuncId) (xs:List Operand)
 | callv (x:Operand) (xs:List Operand)
 | flo (j:Nat) (o:AOp)
 | floAt (b:Nat) (o:AOp)
 | stop
def ko (ts:List Value):List Operand->Option (List Value)
 | []=>some []
 | x::r=>match zc ts x,ko ts r with
  | some v,some l=>some (v::l)
  | _,_=>none
def jo (ts:List Value):Option Operand->Option (Option Value)
 | none=>some none
 | some x=>(zc ts x).map some
def kI (ts:List Value):List (Nat × Nat × Operand)->Option (List (Nat × Nat × Value))
 | []=>some []
 | (o,s,x)::r=>match zc ts x,kI ts r with
  | some v,some l=>some ((o,s,v)::l)
  | _,_=>none
def xM (e:TypeId) (len:Nat) (cells:List Value) (m:Mem):Value × Mem:=(.slice (some ⟨m.next,0,none⟩) len len,m.add ⟨.cells cells e,false,none⟩)
def qbd:Option Value->Bool
 | none=>true
 | some (.int _ _)=>true
 | _=>false
def qG (i:Nat) (v:Value):Option Value :=
 match v with
 | .tuple vs=>vs[i]?
 | _=>none
def qC (v:Value):Option Value :=
 match v with
 | .pointer (some _)=>some v
 | .func (.func _) _ _=>some v
 | _=>none
def asB (v:Value):Option Bool :=
 match v with
 | .bool b=>some b
 | _=>none
def jO (size:Nat) (v:Value) (lo hi:Option Value) (mx:Value) (m:Mem):Option Value :=
 match v,hi,mx with
 | .slice (some ⟨b,off,none⟩) len cap,some h,.int _ k =>
  if 0<=k/\k<=cap/\len<=cap then (zz len k.toNat lo (some h)).bind λp =>
   if p.1=0∨m.known b=.exact∨m.known b=.loose size then some (.slice (some ⟨b,if k.toNat=p.1 then off else off+p.1 * size,none⟩) (p.2 - p.1) (k.toNat - p.1)) else none
  else none
 | _,_,_=>none
def vA (z:List Value) (v:Value) (m:Mem):Option Mem :=
 match v with
 | .slice none _ _=>some m
 | .slice (some ⟨b,off,none⟩) len cap =>
  if len=0 then some m
  else (m.jF b).bind λq=>if off+len * z.length<=q.1.length/\cap≠0/\z.all (·.oneCell')=true then some (m.put b ⟨.cells (qQ q.1 off (List.replicate len z).flatten) q.2.1,false,q.2.2⟩) else none
 | _=>none
def jD (e:TypeId) (bytes:Nat) (z:List Value) (n c:Value) (m:Mem):Option (Value × Mem) :=
 match n,c with
 | .int _ n,.int _ c =>
  if 0<=n/\n<=c/\c<=2 ^ 47/\bytes * c<=2 ^ 47 then some (.slice (some ⟨m.next,0,none⟩) n.toNat c.toNat,m.add ⟨.cells (List.replicate c.toNat z).flatten e,false,none⟩) else none
 | _,_=>none
def jN (ts:List Value):AOp->Option (ABlk × Option Nat)
 | .alloc e z=>some (⟨.cells z.cells.toList e,false,none⟩,none)
 | .box e x=>(zc ts x).map λv=>(⟨.cells v.cells.toList e,false,none⟩,none)
 | .buildSlice e len z ps=>(kI ts ps).bind λl=>(qt z l).map λc=>(⟨.cells c e,false,none⟩,some len)
 | _=>none
def ke (b:Nat):Option Nat->Value
 | none=>.pointer (some ⟨b,0,none⟩)
 | some n=>.slice (some ⟨b,0,none⟩) n n
def AOp.run (ts:List Value) (m:Mem):AOp->Option (Value × Mem)
 | .mov x=>(zc ts x).map (·,m)
 | .nilck x=>(zc ts x).bind λv=>(qC v).map (·,m)
 | .pick c a b=>(zc ts c).bind λv=>(asB v).bind λt=>(zc ts a).bind λp=>(zc ts b).map λq=>(if t then p else q,m)
 | .alloc e z=>some (jK e z m)
 | .box e x=>(zc ts x).map λv=>jK e v m
 | .build z ps=>(kI ts ps).bind λl=>(qt z l).map λc=>(.agg c.toArray,m)
 | .buildSlice e len z ps=>(kI ts ps).bind λl=>(qt z l).map λc=>xM e len c m
 | .load1 x=>(zc ts x).bind λv=>(qa v m).map (·,m)
 | .loadN n x=>(zc ts x).bind λv=>(ql n v m).map (·,m)
 | .store n a x=>(zc ts a).bind λv=>(zc ts x).bind λu=>(qj n v u m).map (undef,·)
 | .arith op x y=>(zc ts x).bind λv=>(zc ts y).bind λu=>(Fx.arith op v u).map (·,m)
 | .eqD neg d x y=>(zc ts x).bind λv=>(zc ts y).bind λu=>(qbV neg (.st d) v u).map (·,m)
 | .eqBool neg x y=>(zc ts x).bind λv=>(zc ts y).bind λu=>(vq neg v u).map (·,m)
 | .eqNil k neg x y=>(zc ts x).bind λv=>(zc ts y).bind λu=>(qU k neg v u).map (·,m)
 | .un op x=>(zc ts x).bind λv=>(zy op v).map (·,m)
 | .conv k x=>(zc ts x).bind λv=>(zn k v).map (·,m)
 | .b2s x=>(zc ts x).bind λv=>(xZ v m).map (·,m)
 | .fieldAddr off x=>(zc ts x).bind λv=>(qb off v).map (·,m)
 | .field off size agg x=>(zc ts x).bind λv=>(vZ off size agg v).map (·,m)
 | .indexS size x i=>(zc ts x).bind λv=>(zc ts i).bind λu=>(qi size v u).map (·,m)
 | .indexA len size x i=>(zc ts x).bind λv=>(zc ts i).bind λu=>(jt len size v u).map (·,m)
 | .indexStr x i=>(zc ts x).bind λv=>(zc ts i).bind λu=>(zm v u).map (·,m)
 | .indexArr len size agg x i=>(zc ts x).bind λv=>(zc ts i).bind λu=>(vK len size agg v u).map (·,m)
 | .sliceStr x lo hi=>(zc ts x).bind λv=>(jo ts lo).bind λl=>(jo ts hi).bind λh=>(zH v l h).map (·,m)
 | .sliceS size x lo hi=>(zc ts x).bind λv=>(jo ts lo).bind λl=>(jo ts hi).bind λh=>(qx size v l h m).map (·,m)
 | .sliceA n size x lo hi=>(zc ts x).bind λv=>(jo ts lo).bind λl=>(jo ts hi).bind λh=>(xX n size v l h m).map (·,m)
 | .extract i x=>(zc ts x).bind λv=>(qG i v).map (·,m)
 | .lenS x=>(zc ts x).bind λv=>(qd v).map (·,m)
 | .lenStr x=>(zc ts x).bind λv=>(qR v).map (·,m)
 | .append e size eb x y=>(zc ts x).bind λv=>(zc ts y).bind λu=>(qM size u m).bind λp=>qA e size eb v p.1 p.2 m
 | .copy size x y=>(zc ts x).bind λv=>(zc ts y).bind λu=>(qM size u m).bind λp=>vk size v p.1 p.2 m
 | .min x xs=>(zc ts x).bind λv=>(ko ts xs).bind λl=>(jz min2 v l).map (·,m)
 | .max x xs=>(zc ts x).bind λv=>(ko ts xs).bind λl=>(jz max2 v l).map (·,m)
 | .mkfunc f fs xs=>(ko ts fs).bind λh=>(ko ts xs).map λl=>(.func (.func f) h.toArray l.toArray,m)
 | .p1 k x=>(zc ts x).bind λv=>(k.run v).map (·,m)
 | .p2 k x y=>(zc ts x).bind λv=>(zc ts y).bind λu=>(k.run v u).map (·,m)
 | .r1 k x=>(zc ts x).bind λv=>(k.run v m).map (·,m)
 | .r2 k x y=>(zc ts x).bind λv=>(zc ts y).bind λu=>(k.run v u m).map (·,m)
 | .e1 k x=>(zc ts x).bind λv=>k.run v m
 | .e2 k x y=>(zc ts x).bind λv=>(zc ts y).bind λu=>k.run v u m
 | .mapUpd kk x k y=>(zc ts x).bind λv=>(zc ts k).bind λq=>(zc ts y).bind λu=>(zt kk v q u m).map (undef,·)
 | .makeM x=>(jo ts x).bind λh=>if qbd h=true then some (zK m) else none
 | .slice3 size x lo hi mx=>(zc ts x).bind λv=>(jo ts lo).bind λl=>(jo ts hi).bind λh=>(zc ts mx).bind λu=>(jO size v l h u m).map (·,m)
 | .clearS z x=>(zc ts x).bind λv=>(vA z v m).map (undef,·)
 | .makeS e bytes z n c=>(zc ts n).bind λv=>(zc ts c).bind λu=>jD e bytes z v u m
 | .mkiface t x=>(zc ts x).map λv=>(.iface t v,m)
 | .call _ _=>none
 | .callv _ _=>none
 | .floAt b o=>(jN ts o).map λp=>(ke b p.2,m.put b p.1)
 | .flo _ _=>none
 | .stop=>none
def ji (P:Program) (t:TypeId):Option Nat:=(P.info? t).map (·.size)
def Qc (P:Program) (t:TypeId):Option TypeId :=
 match P.underlying t with
 | some (.slice e)=>some e
 | _=>none
def qim (P:Program) (t:TypeId):Option (Nat × TypeId) :=
 match P.underlying t with
 | some (.array n e)=>some (n,e)
 | _=>none
def Zk (P:Program) (t:TypeId):Option (Array Field) :=
 match P.underlying t with
 | some (.struct fs)=>some fs
 | _=>none
def hJ (P:Program) (t:TypeId):Option Value :=
 (P.info? t).bind λi=>i.zero.bind λz=>if z.cells.toList.all plain then some z else none
mutual
def qiI (P:Program):Nat->TypeId->Option EqD
 | 0,_=>none
 | n+1,t=>match P.underlying t with
  | some .bool=>some (.sc .bool)
  | some (.int _)=>some (.sc .int)
  | some .string=>some (.sc .string)
  | some (.struct fs)=>(qfl P n fs.toList).map .st
  | _=>none
def qfl (P:Program):Nat->List Field->Option (List (Nat × Nat × Bool × EqD))
 | _,[]=>some []
 | 0,_::_=>none
 | n+1,f::fs=>(ji P f.type).bind λs=>(aggT P f.type).bind λa=>(qiI P n f.type).bind λd=>(qfl P n fs).map λr=>(f.offset,s,a,d)::r
end
def qdA (P:Program) (t:TypeId):Option (TypeId × TypeId) :=
 match P.underlying t with
 | some (.map k e)=>some (k,e)
 | _=>none
def qbY (P:Program) (neg:Bool) (t:TypeId) (x y:Operand):Option AOp :=
 match P.underlying t with
 | some (.interface _)=>if (isC x||isC y)=true then some (.p2 (.eqIface neg) x y) else none
 | some (.pointer e)=>if (isC x||isC y)=true then some (.eqNil .ptr neg x y) else (ji P e).bind λs=>if s≠0 then some (.r2 (.eqPtr neg) x y) else none
 | some (.int _)|some .string=>some (.arith (if neg then .neq else .eql) x y)
 | some .bool=>some (.eqBool neg x y)
 | some (.struct _)=>match qiI P 40 t with
  | some (.st d)=>if eqOk P (.st d) t=true/\P.eqGuardType P.depth t=false/\(EqD.st d).depth<=10000 then some (.eqD neg d x y) else none
  | _=>none
 | _=>(wh P t).map λk=>.eqNil k neg x y
def vB (place:Nat->Option (Nat × Nat)):List (Nat × Operand)->Option (List (Nat × Nat × Operand))
 | []=>some []
 | (i,x)::r=>(place i).bind λp=>(vB place r).map λl=>(p.1,p.2,x)::l
def Xt (P:Program) (fs:Array Field):Option (List (Nat × Nat)):=fs.toList.mapM λf=>(ji P f.type).map λs=>(f.offset,s)
def qkQ (P:Program) (t:TypeId):Bool :=
 match P.underlying t with
 | some (.int _)=>true
 | _=>false
def Qi (P:Program) (b:Builtin) (ts:List TypeId) (xs:List Operand):Option AOp :=
 match b,ts,xs with
 | .len,[t],[x]=>match P.underlying t with
  | some (.slice _)=>some (.lenS x)
  | some .string=>some (.lenStr x)
  | some (.map _ _)=>some (.r1 .lenM x)
  | _=>none
 | .cap,[t],[x]=>(Qc P t).map λ_=>.r1 .cap x
 | .delete,[t,_],[x,k]=>(qdA P t).bind λp=>(kkT P p.1).map λkk=>.e2 (.delM kk) x k
 | .unsafeSliceData,_,[x]=>some (.p1 .sliceData x)
 | .unsafeString,[t,_],[x,n]=>match P.underlying t with
  | some (.pointer e)=>if P.cellsOf e=1 then some (.e2 (.unsafeStr e) x n) else none
  | _=>none
 | .append,[t,u],[x,y]=>(Qc P t).bind λe=>(P.info? e).bind λi=>i.zero.bind λz=>if z.cells.size=i.size/\VU P u=true then some (.append e i.size i.bytes x y) else if z.cells.size=i.size/\z.cells.toList.all plain=true/\qkQ P u=true then some (.e2 (.appendN e i.size i.bytes z) x y) else none
 | .copy,[t,_],[x,y]=>(Qc P t).bind λe=>(ji P e).map λs=>.copy s x y
 | .min,_,x::xs=>some (.min x xs)
 | .max,_,x::xs=>some (.max x xs)
 | .clear,[t],[x]=>match P.underlying t with
  | some (.map _ _)=>some (.e1 .clearM x)
  | some (.slice e)=>(ji P e).bind λs=>(hJ P e).bind λz=>if z.cells.size=s then some (.clearS z.cells.toList x) else none
  | _=>none
 | _,_,_=>none
def yBase:Nat:=1152921504606846976
def zX (P:Program) (f:FuncId):Bool :=
 match P.funcs[f]? with
 | some fn => Nat.blt f yBase && fn.name != "runtime.NumGoroutine" && fn.body.isSome
 | none=>false
def qaL (P:Program) (f:FuncId) (xs:List Operand):Option AOp :=
 (extOf P f).bind λp=>match p.1,xs with
  | .noEscape,[x]=>some (.mov x)
  | .noZero,[x]=>match p.2.resultTypes.toList with
   | [t]=>(Qc P t).map λe=>.e1 (.noZero e) x
   | _=>none
  | .idxByte,[x,y]=>some (.p2 .idxByte x y)
  | .cloneM,[x]=>some (.e1 .cloneM x)
  | _,_=>none
def AOp.vC:AOp->Bool
 | .call _ _|.callv _ _=>true
 | _=>false
def yG (a:Option AOp):Option AOp:=a.bind λo=>if o.vC=true then none else some o
def Ws (P:Program) (c:Call):Option AOp :=
 match c.callee with
 | .builtin b=>yG (Qi P b c.argTypes.toList c.args.toList)
 | .value (.func f)=>if zX P f then some (.call f c.args.toList) else yG (qaL P f c.args.toList)
 | .value x=>some (.callv x c.args.toList)
 | _=>none
def ZK (P:Program) (o:Oper):Option AOp :=
 match o.op with
 | .move x|.assign x=>some (.mov x)
 | .nilCheck x=>some (.nilck x)
 | .pick c a b=>some (.pick c a b)
 | .alloc e=>(hJ P e).map λz=>.alloc e z
 | .box e x=>some (.box e x)
 | .lookup t x k ok=>(qdA P t).bind λp=>(kkT P p.1).bind λkk=>(hJ P p.2).map λz=>.r2 (.lookup kk z ok) x k
 | .mapUpdate t x k y|.insert t x k y=>(qdA P t).bind λp=>(kkT P p.1).map λkk=>.mapUpd kk x k y
 | .makeMap t x=>(qdA P t).map λ_=>.makeM x
 | .range t x=>match P.underlying t with
  | some .string=>some (.e1 .rangeS x)
  | _=>none
 | .next x true=>some (.e1 .nextS x)
 | .typeAssert x _ t ok=>match P.underlying t with
  | some (.interface _)=>none
  | some _=>(hJ P t).map λz=>.p1 (.assert t ok z) x
  | none=>none
 | .build t ps=>match qim P t with
  | some p=>(ji P p.2).bind λs=>(hJ P t).bind λz=>(vB (λi=>some (i * s,s)) ps.toList).map λl=>.build z.cells.toList l
  | none=>(Zk P t).bind λfs=>(hJ P t).bind λz=>(Xt P fs).bind λpl=>(vB (λi=>pl[i]?) ps.toList).map λl=>.build z.cells.toList l
 | .buildSlice t len ps=>(Qc P t).bind λe=>(ji P e).bind λs=>(hJ P e).bind λz =>
   if len * s<=2 ^ 24/\z.cells.size=s/\z.cells.toList.all plain=true then (vB (λi=>some (i * s,s)) ps.toList).map λl=>.buildSlice e len (List.replicate len z.cells.toList).flatten l else none
 | .load t x=>(aggT P t).bind λa=>if a then (ji P t).map λn=>.loadN n x else some (.load1 x)
 | .store t a x=>(ji P t).map λn=>.store n a x
 | .binOp op t x y _=>match op with
  | .eql=>qbY P false t x y
  | .neq=>qbY P true t x y
  | _=>some (.arith op x y)
 | .unOp op _ x=>some (.un op x)
 | .convert s d x=>match P.underlying s,P.underlying d with
  | some _,some (.int k)=>some (.conv k x)
  | some .string,some (.slice e)=>match P.underlying e with
   | some (.int .u8)=>some (.e1 (.s2b e) x)
   | _=>none
  | some (.pointer t),some .unsafePointer=>(ji P t).bind λs=>if s≠0 then some (.r1 .p2u x) else none
  | some .unsafePointer,some (.pointer t)=>(ji P t).bind λs=>if s≠0/\P.cellsOf t=s then some (.r1 (.u2p t s) x) else none
  | some (.slice e),some .string=>match P.underlying e with
   | some (.int .u8)=>some (.b2s x)
   | _=>none
  | _,_=>none
 | .fieldAddr t x k=>(Zk P t).bind λfs=>(fs[k]?).bind λf=>(ji P f.type).bind λs=>if s≠0 then some (.fieldAddr f.offset x) else none
 | .field t x k=>(Zk P t).bind λfs=>(fs[k]?).bind λf=>(ji P f.type).bind λs=>(aggT P f.type).map λa=>.field f.offset s a x
 | .indexAddr t x i=>match Qc P t with
  | some e=>(ji P e).map λs=>.indexS s x i
  | none=>(qim P t).bind λp=>(ji P p.2).map λs=>.indexA p.1 s x i
 | .index t x i=>match P.underlying t with
  | some .string=>some (.indexStr x i)
  | some (.array n e)=>(ji P e).bind λs=>(aggT P e).map λa=>.indexArr n s a x i
  | _=>none
 | .slice t x lo hi none=>match P.underlying t with
  | some .string=>some (.sliceStr x lo hi)
  | some (.slice e)=>(ji P e).map λs=>.sliceS s x lo hi
  | some (.array n e)=>(ji P e).map λs=>.sliceA n s x lo hi
  | _=>none
 | .slice t x lo hi (some mx)=>(Qc P t).bind λe=>(ji P e).map λs=>.slice3 s x lo hi mx
 | .makeSlice t n c=>(Qc P t).bind λe=>(P.info? e).bind λi=>(hJ P e).bind λz=>if z.cells.size=i.size then some (.makeS e i.bytes z.cells.toList n c) else none
 | .makeInterface t x=>(P.underlying t).bind λd=>match d with
  | .interface _=>none
  | _=>some (.mkiface t x)
 | .extract x i=>some (.extract i x)
 | .makeFunc (.func f) first captured=>some (.mkfunc f first.toList captured.toList)
 | _=>none
def res (P:Program) (o:Oper):Option AOp :=
 match o.op with
 | .call c=>Ws P c
 | _=>yG (ZK P o)
end Go.Fx
