/- Parts of a proof: HookI, InsD, FxW, FxStr, FxSt, HookE, ShelfR. Conditions: none. -/
import Derived.Shelf.Spec.SlicesInsertGrow
import Derived.KernelRfl
import Derived.Shelf.Strings.Repeat
import Derived.Shelf.Strings.Trim
import Derived.Shelf.Strings.OnBuilder
import Derived.Test.YtnngjdfadfblmaaGreatDoorProg
import Derived.Test.YtnngjdfadfblmaaGreatDoorQd11
namespace Go.Fx.Tryz
open Go Go.Fx Go.Proofs Go.RowKit Go.Lib
set_option linter.unusedVariables false
set_option linter.unusedSimpArgs false
noncomputable abbrev P:Program:=Tryz.prog
noncomputable abbrev IP:Program:=Tryz.prog
theorem mixed:P.follows .mixedOrders=true:=by kernel_rfl
theorem ynum (N k:Nat) (hk:k<1000):¬ (yBase+N:FuncId)=k:=by
 intro h
 have h1:yBase+N=k:=h
 have h2:1000<yBase:=by decide
 omega
noncomputable abbrev tab:Tab:=tabP P
theorem tabOk:TabOk P tab:=tabP_ok P
theorem tabGood:∀ f x,tab f=some x→goodFn P f=true:=tabP_good P
section
theorem i_t32:IP.underlying 32=some (TypeDesc.slice 61):=by kernel_rfl
theorem i_t3:IP.underlying 3=some (TypeDesc.int IntKind.i64):=by kernel_rfl
theorem i_t4:IP.underlying 4=some TypeDesc.bool:=by kernel_rfl
theorem i_a32:∀ w,(isAgg 32).run IP w=.ok false w:=fun w=>by kernel_rfl
theorem i_z32:∀ w,(Go.sizeOf 32).run IP w=.ok 1 w:=fun w=>by kernel_rfl
theorem i_z61:∀ w,(Go.sizeOf 61).run IP w=.ok 2 w:=fun w=>by kernel_rfl
theorem i_i61:(IP.info? 61).map (·.size)=some 2:=by kernel_rfl
theorem i_f61:(IP.info? 61).map (fun i=>(i.zero,i.size,i.bytes))=some (some (Value.agg #[Value.string { data:=#[] },Value.string { data:=#[] }]),2,32):=by kernel_rfl
theorem i_mixed:IP.follows .mixedOrders=true:=by kernel_rfl
theorem i_ntmps:insFn.ntmps=95:=rfl
theorem run_copy_n {P:Program} {w w':World} {dT sT ty elem:TypeId} {s b o dLen dCap sLen sCap:Nat} {a:Addr} {cs:List Value} (hu:P.underlying dT=some (.slice elem)) (hs:(P.info? elem).map (·.size)=some s)
  (hl:(Go.loadCells a (Nat.min sLen dLen * s)).run P w=.ok cs.toArray w) (hst:(Go.storeCells ⟨b,o,none⟩ cs).run P w=.ok () w') :
  (Builtin.copy_ #[dT,sT] ty #[.slice (some ⟨b,o,none⟩) dLen dCap,.slice (some a) sLen sCap]).run P w=.ok (goInt (Nat.min sLen dLen)) w':=by
 cases hq:P.info? elem with
 | none=>simp [hq] at hs
 | some i =>
  have hi:i.size=s:=by simpa [hq] using hs
  simp [Builtin.copy_,run_underlying hu,Builtin.lenOf,Builtin.firstCells,sizeOf,typeInfo,hq,hi,hl,hst]
set_option maxHeartbeats 4000000 in
set_option maxRecDepth 100000 in
theorem ins_room (b off n c i vb voff m vc:Nat) (w w1 w2:World) (hi:i<n) (hm:0<m) (hroom:n+m≤c) (hc63:n+m≤4611686018427387904)
  (hov:∀ lb cb,(callFunc 171 #[.slice (some ⟨vb,voff,none⟩) m vc,.slice (some ⟨b,off+(i+m) * 2,none⟩) lb cb]).run IP w=.ok (.value (.bool false)) w)
  (hcp1:∀ ty dc sc,(Builtin.copy_ #[32,32] ty #[.slice (some ⟨b,off+(i+m) * 2,none⟩) (n+m - (i+m)) dc,.slice (some ⟨b,off+i * 2,none⟩) (n+m - i) sc]).run IP w.drew=.ok (goInt ((n - i:Nat):Int)) w1)
  (hcp2:∀ ty dc,(Builtin.copy_ #[32,32] ty #[.slice (some ⟨b,off+i * 2,none⟩) (n+m - i) dc,.slice (some ⟨vb,voff,none⟩) m vc]).run IP w1=.ok (goInt m) w2) :
  Calls IP 124 #[.slice (some ⟨b,off,none⟩) n c,.int .i64 i,.slice (some ⟨vb,voff,none⟩) m vc] w fun e w' =>
   e=.returned (.slice (some ⟨b,off,none⟩) (n+m) c)∧w'=w2:=by
 have u3:=run_underlying i_t3; have u4:=run_underlying i_t4; have u32:=run_underlying i_t32
 have t32:=i_t32; have t3:=i_t3; have t4:=i_t4; have a32:=i_a32; have z32:=i_z32; have z61:=i_z61; have mixed:=i_mixed
 have hz1:¬ ((m:Int)=0):=by omega
 have hz2:¬ ((i:Int)=(n:Int)):=by omega
 have hw1:IntKind.i64.wrap ((i:Int)+(m:Int))=(i:Int)+(m:Int):=by rw [IntKind.wrap_i64]; omega
 have hb1:(0:Int)≤(i:Int)+(m:Int):=by omega
 have hin:i≤n:=by omega
 have htn:((i:Int)+(m:Int)).toNat=i+m:=by omega
 have hb2:¬ (c=i+m):=by omega
 have hb3:(i:Int)≤(n:Int)+(m:Int):=by omega
 have hb4:¬ (c=i):=by omega
 go_enter ins_fn,i_ntmps
 go_wp2_with (simp only [hov])
 go_region_law_o (refine step_copy_runI rfl _ _ 32 32 rfl _ _ (by simp [Act.eval,Act.put]) (by simp [Act.eval,Act.put]) (hcp1 _ _ _) ?_)
 go_wp2_with (at_builtin; refine wpList_copy_runI _ rfl _ _ 32 32 rfl _ _ rfl rfl (hcp2 _ _) ?_)
 go_ret
 exact ⟨rfl,rfl⟩
set_option maxHeartbeats 4000000 in
set_option maxRecDepth 100000 in
theorem ins_grow (b off n c i vb voff m vc N G:Nat) (w w1 w2 w3:World) (hi:i<n) (hm:0<m) (hnc:n≤c) (hroom:c<n+m) (hc63:n+m≤4611686018427387904) (hGn:n+m≤G)
  (hrz:∀ ty,(Builtin.append_ #[32,3] ty #[.slice (some ⟨b,off,none⟩) i c,.int .i64 ((n:Int)+(m:Int) - (i:Int))]).run IP w=.ok (.slice (some ⟨N,0,none⟩) (n+m) G) w1)
  (hcpA:∀ ty dc,(Builtin.copy_ #[32,32] ty #[.slice (some ⟨N,i * 2,none⟩) (n+m - i) dc,.slice (some ⟨vb,voff,none⟩) m vc]).run IP w1=.ok (goInt m) w2)
  (hcpB:∀ ty dc sc,(Builtin.copy_ #[32,32] ty #[.slice (some ⟨N,(i+m) * 2,none⟩) (n+m - (i+m)) dc,.slice (some ⟨b,off+i * 2,none⟩) (n - i) sc]).run IP w2.drew=.ok (goInt ((n - i:Nat):Int)) w3) :
  Calls IP 124 #[.slice (some ⟨b,off,none⟩) n c,.int .i64 i,.slice (some ⟨vb,voff,none⟩) m vc] w fun e w' =>
   e=.returned (.slice (some ⟨N,0,none⟩) (n+m) G)∧w'=w3:=by
 have u3:=run_underlying i_t3; have u4:=run_underlying i_t4; have u32:=run_underlying i_t32
 have t32:=i_t32; have t3:=i_t3; have t4:=i_t4; have a32:=i_a32; have z32:=i_z32; have z61:=i_z61; have mixed:=i_mixed
 have hz1:¬ ((m:Int)=0):=by omega
 have hz2:¬ ((i:Int)=(n:Int)):=by omega
 have hz3:(c:Int)<(n:Int)+(m:Int):=by omega
 have hGi:¬ (G=i):=by omega
 have hGim:¬ (G=i+m):=by omega
 have hci:¬ (c=i):=by omega
 have hw1:IntKind.i64.wrap ((i:Int)+(m:Int))=(i:Int)+(m:Int):=by rw [IntKind.wrap_i64]; omega
 have hb1:(0:Int)≤(i:Int)+(m:Int):=by omega
 have hin:i≤n:=by omega
 have htn:((i:Int)+(m:Int)).toNat=i+m:=by omega
 have hb3:(i:Int)≤(n:Int):=by omega
 go_enter ins_fn,i_ntmps
 go_wp2_with (first
  | (at_builtin; refine Lib.wpList_append_run _ rfl _ _ _ _ rfl _ _ rfl rfl _ _ (hrz _) ?_)
  | (at_builtin; refine wpList_copy_runI _ rfl _ _ 32 32 rfl _ _ rfl rfl (hcpA _ _) ?_))
 go_region_law_o (refine step_copy_runI rfl _ _ 32 32 rfl (.slice (some ⟨N,(i+m) * 2,none⟩) (n+m - (i+m)) (G - (i+m))) (.slice (some ⟨b,off+i * 2,none⟩) (n - i) (c - i)) (by simp [Act.eval,Act.put]) (by simp [Act.eval,Act.put]) (hcpB 3 (G - (i+m)) (c - i)) ?_)
 go_wp2
 go_ret
 exact ⟨rfl,rfl⟩
theorem VRs.three {φ:Go.Fx.Ren} {a b c:Value} {ARGS:Array Value} (h:VRs φ [a,b,c] ARGS.toList):∃ A B C,ARGS=#[A,B,C]∧VR φ a A∧VR φ b B∧VR φ c C:=by
 obtain ⟨l⟩:=ARGS
 obtain ⟨h1,h2⟩:=h
 match l,h1 with
 | [A,B,C],_=>exact ⟨A,B,C,rfl,h2 0 a A rfl rfl,h2 1 b B rfl rfl,h2 2 c C rfl rfl⟩
def aInsert (l:List Value) (m:Mem):Option (Value × Mem):=match l with
 | [.slice (some ⟨b,off,none⟩) n c,.int .i64 i,.slice (some ⟨vb,voff,none⟩) 1 vc] =>
  match m.get b with
  | some ⟨.cells cs e,false,some 2⟩ =>
   match m.get vb with
   | some ⟨.cells vs _,false,none⟩ =>
    if 0≤i∧i<n∧n≤c∧off+n * 2≤cs.length∧e=61∧n≤1099511627776∧b≠vb∧voff+2≤vs.length∧((cs.drop off).take (n * 2)).all (·.oneCell')=true∧((vs.drop voff).take 2).all (·.oneCell')=true then
     some (.slice (some ⟨m.next,0,none⟩) (n+1) (n+1),(m.kill b).add ⟨.cells ((cs.drop off).take (i.toNat * 2)++((vs.drop voff).take 2++(cs.drop (off+i.toNat * 2)).take ((n - i.toNat) * 2))) 61,false,some 2⟩)
    else none
   | _=>none
  | _=>none
 | _=>none
theorem i_cut (cs:List Value) (off i n:Nat) (vs:List Value) (hv:vs.length=2) (hin:i<n) (hc:off+n * 2≤cs.length) (X:List Value) :
  setRange ((cs.drop off).take ((i+1) * 2)++X) (i * 2) vs=(cs.drop off).take (i * 2)++(vs++X):=by
 have hl:((cs.drop off).take (i * 2)).length=i * 2:=by rw [List.length_take,List.length_drop]; omega
 have h1:(cs.drop off).take ((i+1) * 2)=(cs.drop off).take (i * 2)++((cs.drop off).drop (i * 2)).take 2:=by
  rw [show (i+1) * 2=i * 2+2 by omega,List.take_add]
 have:=setRange_append ((cs.drop off).take (i * 2)) (((cs.drop off).drop (i * 2)).take 2) X vs (by rw [List.length_take,List.length_drop,List.length_drop,hv]; omega)
 rw [hl] at this
 rw [h1,List.append_assoc,this]
theorem i_all {cs:List Value} {off n:Nat} (h:((cs.drop off).take (n * 2)).all (·.oneCell')=true) {i:Nat} (hin:i<n):∀ v∈(cs.drop (off+i * 2)).take ((n - i) * 2),v.oneCell'=true:=by
 intro v hv
 refine List.all_eq_true.1 h v ?_
 obtain ⟨j,hj,rfl⟩:=List.mem_iff_getElem.1 hv
 rw [List.length_take,List.length_drop] at hj
 rw [List.getElem_take,List.getElem_drop]
 have:((cs.drop off).take (n * 2))[i * 2+j]'(by rw [List.length_take,List.length_drop]; omega)=cs[off+i * 2+j]'(by omega):=by
  rw [List.getElem_take,List.getElem_drop]
  congr 1
  omega
 rw [← this]
 exact List.getElem_mem _
theorem i_overlaps {w:World} {φ:Go.Fx.Ren} {m:Mem} (hi:Inv φ m w) {b vb:Nat} {cs vs:List Value} {e e':TypeId} {l lv:Loc} (hb:m.get b=some ⟨.cells cs e,false,some 2⟩) (hl:φ b=some l) (hv:m.get vb=some ⟨.cells vs e',false,none⟩) (hlv:φ vb=some lv) (hne:b≠vb)
  (hcs:cs.length≠0) (o o' k vc lb cb:Nat) :
  (callFunc 171 #[.slice (some ⟨lv.blk,o,none⟩) k vc,.slice (some ⟨l.blk,o',none⟩) lb cb]).run IP w=.ok (.value (.bool false)) w:=by
 obtain ⟨k1,hk1,_,C,e1,fz,hC,_,_,hz,_⟩:=hi.live vb _ hv
 rw [hlv] at hk1; cases hk1
 rw [hz rfl (by simp)] at hC
 obtain ⟨D,e2,fz2,hD,hs2,hsz,_⟩:=hi.shape hb hl
 rw [if_neg hcs] at hsz
 rw [run_callFunc_extern ovl_fn (by kernel_rfl) (by kernel_rfl) (by kernel_rfl) (e:=Extern.SlicesOverlaps.overlaps #[32,32] #[4]) (by kernel_rfl),
  Lib.run_overlaps_apart w 32 4 61 i_t32 2 i_z61 ⟨lv.blk,o,none⟩ ⟨l.blk,o',none⟩ k vc lb cb (fun h=>hi.apart b vb _ _ l lv hb hv hl hlv rfl hne h.symm) e1 e2 C.size D.size (by simp [World.shape?,hC]) hs2 (by omega) (by simp [World.frozen?,hC]) (by simp [World.frozen?,hC])]
 rfl
theorem ok_insert {l:List Value} {m m':Mem} {v:Value} (h:aInsert l m=some (v,m')) {φ:Go.Fx.Ren} {w:World} {ARGS:Array Value} (hi:Inv φ m w) (ha:VRs φ l ARGS.toList):Calls1 IP φ m w 124 ARGS v m':=by
 unfold aInsert at h
 split at h
 rotate_left
 ·cases h
 rename_i b off n c i vb voff vc
 split at h
 rotate_left
 ·cases h
 rename_i cs e hb
 split at h
 rotate_left
 ·cases h
 rename_i vs e' hv
 split at h
 rotate_left
 ·cases h
 rename_i hc
 cases h
 obtain ⟨h0,hin,hnc,hcl,rfl,hbig,hne,hvl,hone,honev⟩:=hc
 obtain ⟨A,B,C,rfl,hA,hB,hC⟩:=VRs.three ha
 obtain ⟨i,rfl⟩:=Int.eq_ofNat_of_zero_le h0
 have hin:i<n:=by omega
 simp only [Int.ofNat_eq_natCast,Int.toNat_natCast]
 cases hB
 obtain ⟨lv,hlv,okv⟩:=hi.live vb _ hv
 obtain ⟨l,hl,ok⟩:=hi.live b _ hb
 have hlo:=ok.1.1
 have hlov:=okv.1.1
 have hbn:b<m.next:=(hi.below b l hl).1
 have hvn:vb<m.next:=(hi.below vb lv hlv).1
 cases hC with
 | sliceLoose _ _ _ _ _ _ _ k hk hko=>rw [hlv] at hk; cases hk; rw [hlov] at hko; cases hko
 | sliceEx _ _ _ _ k hk hko =>
 rw [hlv] at hk; cases hk
 cases hA with
 | sliceEx _ _ _ _ k hk hko=>rw [hl] at hk; cases hk; rw [hlo] at hko; cases hko
 | sliceZero=>omega
 | sliceLoose _ _ _ _ off' cap' s k hk hko hoff hlen hcap hroom =>
 rw [hl] at hk; cases hk
 rw [hlo] at hko; cases hko
 have hoff':off'=l.base+off:=hoff (by omega)
 have hoA:off'+i * 2=l.base+(off+i * 2):=by omega
 have hoB:off'+(i+1) * 2=l.base+off+(i+1) * 2:=by omega
 have hd:Inv φ m w.drew:=hi.drawn rfl
 have fd:Frm φ m w φ m w.drew:=Frm.drawn rfl rfl rfl rfl
 obtain ⟨TL,hTL,rTL⟩:=hd.loadCells (P:=IP) hb hl (off+i * 2) ((n - i) * 2) (by omega)
 have hTl:((cs.drop (off+i * 2)).take ((n - i) * 2)).length=(n - i) * 2:=by rw [List.length_take,List.length_drop]; omega
 have hVl:((vs.drop voff).take 2).length=2:=by rw [List.length_take,List.length_drop]; omega
 have hov:=i_overlaps hi hb hl hv hlv hne (by omega) (lv.base+voff) (off'+(i+1) * 2) 1 vc
 have hmin1:Nat.min (n+1 - i) (n+1 - (i+1))=n - i:=by show min _ _=_; omega
 have hmin2:Nat.min 1 (n+1 - i)=1:=by show min _ _=_; omega
 have hmin3:Nat.min (n - i) (n+1 - (i+1))=n - i:=by show min _ _=_; omega
 by_cases hfit:n+1≤cap'
 ·obtain ⟨w1,φ1,hrun1,i1,f1,e1⟩:=hd.appendIn (P:=IP) hb hl (off:=off) (len:=i+1) (cap:=c) (off':=off') (cap':=cap') (n:=n - i) hoff (by omega) hroom (by omega) (by omega) rTL (i_all hone hin) hTl
  have hgv1:((m.kill b).add ⟨.cells ((cs.drop off).take ((i+1) * 2)++(cs.drop (off+i * 2)).take ((n - i) * 2)) 61,false,some 2⟩).get vb=some ⟨.cells vs e',false,none⟩:=by
   rw [Mem.get_add,Mem.next_kill,if_neg (by omega),Mem.get_kill,if_neg (Ne.symm hne)]; exact hv
  obtain ⟨VL,hVL,rVL⟩:=i1.loadCells (P:=IP) hgv1 (f1.ren _ _ hlv) voff 2 hvl
  have hgn1:((m.kill b).add ⟨.cells ((cs.drop off).take ((i+1) * 2)++(cs.drop (off+i * 2)).take ((n - i) * 2)) 61,false,some 2⟩).get m.next=some ⟨.cells ((cs.drop off).take ((i+1) * 2)++(cs.drop (off+i * 2)).take ((n - i) * 2)) 61,false,some 2⟩:=by
   rw [Mem.get_add,Mem.next_kill,if_pos rfl]
  obtain ⟨w2,hrun2,i2,f2⟩:=Inv.storeCells (P:=IP) e1 (i * 2) ((vs.drop voff).take 2) VL 0 _ _ w1 i1 hgn1 rVL (fun v hv=>List.all_eq_true.1 honev v hv) (by rw [hVl,List.length_append,hTl,List.length_take,List.length_drop]; omega)
  have hcall:=ins_room l.blk off' n cap' i lv.blk (lv.base+voff) 1 vc w w1 w2 hin (by omega) hfit (by omega) hov
   (fun ty dc sc=>by
    have:=run_copy_n (P:=IP) (dT:=32) (sT:=32) (ty:=ty) (dCap:=dc) (sCap:=sc) (b:=l.blk) (o:=off'+(i+1) * 2) (dLen:=n+1 - (i+1)) (sLen:=n+1 - i) (a:=⟨l.blk,off'+i * 2,none⟩) i_t32 i_i61 (cs:=TL) (by rw [hmin1,hoA]; exact hTL) hrun1
    rw [hmin1] at this; exact this)
   (fun ty dc=>by
    have:=run_copy_n (P:=IP) (dT:=32) (sT:=32) (ty:=ty) (dCap:=dc) (sCap:=vc) (b:=l.blk) (o:=off'+i * 2) (dLen:=n+1 - i) (sLen:=1) (a:=⟨lv.blk,lv.base+voff,none⟩) i_t32 i_i61 (cs:=VL) (by rw [hmin2]; exact hVL) hrun2
    rw [hmin2] at this; exact this)
  refine Calls.mono hcall ?_
  rintro e w' ⟨rfl,rfl⟩
  have hg:∀ d,((m.kill b).add ⟨.cells ((cs.drop off).take (i * 2)++((vs.drop voff).take 2++(cs.drop (off+i * 2)).take ((n - i) * 2))) 61,false,some 2⟩).get d =
    (((m.kill b).add ⟨.cells ((cs.drop off).take ((i+1) * 2)++(cs.drop (off+i * 2)).take ((n - i) * 2)) 61,false,some 2⟩).put m.next ⟨.cells (setRange ((cs.drop off).take ((i+1) * 2)++(cs.drop (off+i * 2)).take ((n - i) * 2)) (i * 2+0) ((vs.drop voff).take 2)) 61,false,some 2⟩).get d:=by
   intro d
   simp only [Nat.add_zero]
   rw [Mem.get_put,Mem.get_add,Mem.get_add,Mem.next_kill,i_cut cs off i n _ hVl hin hcl]
   by_cases hd:d=m.next
   ·rw [if_pos hd,if_pos hd]
   ·rw [if_neg hd,if_neg hd,if_neg hd]
  exact ⟨_,φ1,rfl,.sliceLoose m.next 0 (n+1) (n+1) off' cap' 2 ⟨l.blk,off',some 2,l.size⟩ e1 rfl (fun _=>rfl) (Nat.le_refl _) hfit hroom,Inv.ext hg rfl i2,Frm.ext hg rfl ((fd.trans f1).trans f2)⟩
 ·obtain ⟨OL,hOL,rOL⟩:=hd.loadCells (P:=IP) hb hl off (i * 2) (by omega)
  obtain ⟨i0,hi0,hz0,hzs,hzb⟩:=info_parts i_f61
  have hold:(Builtin.firstCells i0.size i (.slice (some ⟨l.blk,off',none⟩) i cap')).run IP w.drew=.ok OL.toArray w.drew:=by
   rw [hzs,hoff']; simpa [Builtin.firstCells] using hOL
  have hik:i+(n+1 - i)=n+1:=by omega
  have hrz:∀ ty,_:=fun ty=>Lib.run_append_grow_zeros (P:=IP) w 32 3 ty 61 i0 _ .i64 .i64 i_t32 i_t3 hi0 hz0 (some ⟨l.blk,off',none⟩) i cap' OL hold (n+1 - i) (by omega) (by omega) (by omega) (by omega) (by rw [hzb]; omega) (by rw [hzb,hik]; exact growslice_fits (by omega) (by omega))
  rw [hik] at hrz
  have hG:=grownCap_ge w (n+1) cap' 61
  generalize grownCap w (n+1) cap' 61=G at hrz hG
  generalize hZ1:Builtin.zeroCells (Value.agg #[Value.string { data:=#[] },Value.string { data:=#[] }]).cells (n+1 - i)=Z1 at hrz
  generalize hZ2:Builtin.zeroCells (Value.agg #[Value.string { data:=#[] },Value.string { data:=#[] }]).cells (G - (n+1))=Z2 at hrz
  have hZ1s:Z1.size=(n+1 - i) * 2:=by rw [← hZ1]; simp [Builtin.zeroCells,Value.cells]
  have hZl:Z1.toList.length=(n+1 - i) * 2:=by rw [Array.length_toList]; exact hZ1s
  have hZ2s:Z2.size=(G - (n+1)) * 2:=by rw [← hZ2]; simp [Builtin.zeroCells,Value.cells]
  have hZp:VRs φ Z1.toList Z1.toList:=by
   refine VRs.plain (List.all_eq_true.2 fun v hv=>?_)
   rw [← hZ1] at hv
   simp only [Builtin.zeroCells,Value.cells,Array.toList_map,List.mem_map] at hv
   obtain ⟨k,_,rfl⟩:=hv
   have:k % 2=0∨k % 2=1:=by omega
   rcases this with h|h<;>simp [h,Fx.plain]
  have hOl:OL.length=i * 2:=by rw [← rOL.1,List.length_take,List.length_drop]; omega
  obtain ⟨φ1,i1,f1,e1⟩:=hd.allocLoose (c:=(cs.drop off).take (i * 2)++Z1.toList) (C:=OL++Z1.toList) Z2.toList 61 2 (rOL.append hZp)
  have harr:OL.toArray++Z1++Z2=(OL++Z1.toList++Z2.toList).toArray:=by apply Array.toList_inj.1; simp
  rw [harr] at hrz
  have hlen:(OL++Z1.toList++Z2.toList).length=G * 2:=by
   simp only [List.length_append,Array.length_toList,hOl,hZ1s,hZ2s]; omega
  rw [hlen] at e1
  have e1':φ1 m.next=some ⟨w.heap.size,0,some 2,G * 2⟩:=e1
  generalize hw1:({ w.drew with heap:=w.drew.heap.push (.cells (OL++Z1.toList++Z2.toList).toArray 61) }:World)=w1 at i1 f1
  have hrz':∀ ty,(Builtin.append_ #[32,3] ty #[.slice (some ⟨l.blk,off',none⟩) i cap',.int .i64 ((n:Int)+((1:Nat):Int) - (i:Int))]).run IP w=.ok (.slice (some ⟨w.heap.size,0,none⟩) (n+1) G) w1:=fun ty=>by
   have h1:(n:Int)+((1:Nat):Int) - (i:Int)=((n+1 - i:Nat):Int):=by omega
   rw [h1,← hw1]
   exact hrz ty
  have hgv1:(m.add ⟨.cells ((cs.drop off).take (i * 2)++Z1.toList) 61,false,some 2⟩).get vb=some ⟨.cells vs e',false,none⟩:=by rw [Mem.get_add_other _ _ hvn]; exact hv
  obtain ⟨VL,hVL,rVL⟩:=i1.loadCells (P:=IP) hgv1 (f1.ren _ _ hlv) voff 2 hvl
  obtain ⟨w2,hrun2,i2,f2⟩:=Inv.storeCells (P:=IP) e1' (i * 2) ((vs.drop voff).take 2) VL 0 _ _ w1 i1 (Mem.get_add_self ..) rVL (fun v hv=>List.all_eq_true.1 honev v hv) (by rw [hVl,List.length_append,hZl,List.length_take,List.length_drop]; omega)
  rw [Nat.add_zero] at i2 f2
  simp only [Nat.zero_add] at hrun2
  generalize hc2:setRange ((cs.drop off).take (i * 2)++Z1.toList) (i * 2) ((vs.drop voff).take 2)=c2 at i2 f2
  have hc2l:c2.length=(n+1) * 2:=by
   rw [← hc2,length_setRange,List.length_append,hZl,List.length_take,List.length_drop]; omega
  have d2:Inv φ1 ((m.add ⟨.cells ((cs.drop off).take (i * 2)++Z1.toList) 61,false,some 2⟩).put m.next ⟨.cells c2 61,false,some 2⟩) w2.drew:=i2.drawn rfl
  have fd2:Frm φ1 ((m.add ⟨.cells ((cs.drop off).take (i * 2)++Z1.toList) 61,false,some 2⟩).put m.next ⟨.cells c2 61,false,some 2⟩) w2 φ1 ((m.add ⟨.cells ((cs.drop off).take (i * 2)++Z1.toList) 61,false,some 2⟩).put m.next ⟨.cells c2 61,false,some 2⟩) w2.drew:=Frm.drawn rfl rfl rfl rfl
  have hgb2:((m.add ⟨.cells ((cs.drop off).take (i * 2)++Z1.toList) 61,false,some 2⟩).put m.next ⟨.cells c2 61,false,some 2⟩).get b=some ⟨.cells cs 61,false,some 2⟩:=by
   rw [Mem.get_put,if_neg (by omega),Mem.get_add_other _ _ hbn]; exact hb
  obtain ⟨TL2,hTL2,rTL2⟩:=d2.loadCells (P:=IP) hgb2 (f1.ren _ _ hl) (off+i * 2) ((n - i) * 2) (by omega)
  obtain ⟨w3,hrun3,i3,f3⟩:=Inv.storeCells (P:=IP) e1' ((i+1) * 2) ((cs.drop (off+i * 2)).take ((n - i) * 2)) TL2 0 _ _ w2.drew d2 (Mem.get_put_self ..) rTL2 (i_all hone hin) (by rw [hc2l,hTl]; omega)
  rw [Nat.add_zero] at i3 f3
  simp only [Nat.zero_add] at hrun3
  have hcall:=ins_grow l.blk off' n cap' i lv.blk (lv.base+voff) 1 vc w.heap.size G w w1 w2 w3 hin (by omega) (by omega) (by omega) (by omega) hG hrz'
   (fun ty dc=>by
    have:=run_copy_n (P:=IP) (dT:=32) (sT:=32) (ty:=ty) (dCap:=dc) (sCap:=vc) (b:=w.heap.size) (o:=i * 2) (dLen:=n+1 - i) (sLen:=1) (a:=⟨lv.blk,lv.base+voff,none⟩) i_t32 i_i61 (cs:=VL) (by rw [hmin2]; exact hVL) hrun2
    rw [hmin2] at this; exact this)
   (fun ty dc sc=>by
    have:=run_copy_n (P:=IP) (dT:=32) (sT:=32) (ty:=ty) (dCap:=dc) (sCap:=sc) (b:=w.heap.size) (o:=(i+1) * 2) (dLen:=n+1 - (i+1)) (sLen:=n - i) (a:=⟨l.blk,off'+i * 2,none⟩) i_t32 i_i61 (cs:=TL2) (by rw [hmin3,hoA]; exact hTL2) hrun3
    rw [hmin3] at this; exact this)
  refine Calls.mono hcall ?_
  rintro e w' ⟨rfl,rfl⟩
  obtain ⟨i4,f4⟩:=i3.kill b
  have hfin:setRange c2 ((i+1) * 2) ((cs.drop (off+i * 2)).take ((n - i) * 2))=(cs.drop off).take (i * 2)++((vs.drop voff).take 2++(cs.drop (off+i * 2)).take ((n - i) * 2)):=by
   have hl1:((cs.drop off).take (i * 2)).length=i * 2:=by rw [List.length_take,List.length_drop]; omega
   have h1:=setRange_append ((cs.drop off).take (i * 2)) (Z1.toList.take 2) (Z1.toList.drop 2) ((vs.drop voff).take 2) (by rw [hVl,List.length_take,hZl]; omega)
   rw [List.take_append_drop,hl1,hc2] at h1
   have h2:=setRange_append ((cs.drop off).take (i * 2)++(vs.drop voff).take 2) (Z1.toList.drop 2) [] ((cs.drop (off+i * 2)).take ((n - i) * 2)) (by rw [hTl,List.length_drop,hZl]; omega)
   rw [List.append_nil,List.append_nil,List.length_append,hl1,hVl,show i * 2+2=(i+1) * 2 by omega,List.append_assoc,List.append_assoc] at h2
   rw [h1,h2]
  have hg:∀ d,((m.kill b).add ⟨.cells ((cs.drop off).take (i * 2)++((vs.drop voff).take 2++(cs.drop (off+i * 2)).take ((n - i) * 2))) 61,false,some 2⟩).get d =
    ((((m.add ⟨.cells ((cs.drop off).take (i * 2)++Z1.toList) 61,false,some 2⟩).put m.next ⟨.cells c2 61,false,some 2⟩).put m.next ⟨.cells (setRange c2 ((i+1) * 2) ((cs.drop (off+i * 2)).take ((n - i) * 2))) 61,false,some 2⟩).kill b).get d:=by
   intro d
   rw [Mem.get_kill,Mem.get_put,Mem.get_put,Mem.get_add,Mem.get_add,Mem.get_kill,Mem.next_kill,hfin]
   by_cases hd:d=m.next
   ·rw [if_pos hd,if_neg (by omega),if_pos hd]
   ·rw [if_neg hd,if_neg hd,if_neg hd,if_neg hd]
  exact ⟨_,φ1,rfl,.sliceLoose m.next 0 (n+1) (n+1) 0 G 2 ⟨w.heap.size,0,some 2,G * 2⟩ e1' rfl (fun _=>rfl) (Nat.le_refl _) hG (by simp),Inv.ext hg rfl i4,Frm.ext hg rfl ((((fd.trans f1).trans f2).trans fd2).trans (f3.trans f4))⟩
end
end Go.Fx.Tryz
namespace Go.Fx.Tryz
open Go Go.Fx
set_option linter.unusedVariables false
abbrev u:Value:=undef
noncomputable def fn124:AFunc:=fnOf P 124
theorem fn124_eq:tab 124=some fn124:=by kernel_rfl
theorem C124 (S:CallF) (hS:∀ l m,S 124 l m=none) (x0 x1 x2:Value) (m:Mem):Call S tab 124 [x0,x1,x2] m=(runSliceS 2 x0 (some x1) none m).bind fun v1=>(runLenSlice x2).bind fun v2=>(arith .eql v2 (.int .i64 0)).bind fun v3=>cnd v3 (some (x0,m)) ((runLenSlice x0).bind fun v4=>(arith .eql x1 v4).bind fun v5=>cnd v5 ((runSrc 2 x2 m).bind fun p6=>(runAppend 61 2 32 x0 p6.1 p6.2 m).bind fun p7=>some (p7.1,p7.2)) ((arith .add v4 v2).bind fun v8=>(runCap x0 m).bind fun v9=>(arith .gtr v8 v9).bind fun v10=>cnd v10 ((runSliceS 2 x0 none (some x1) m).bind fun v11=>(arith .add v4 v2).bind fun v12=>(arith .sub v12 x1).bind fun v13=>(runAppendN 61 2 32 (.agg #[(.string ⟨#[]⟩),(.string ⟨#[]⟩)]) v11 v13 m).bind fun p14=>(runSliceS 2 p14.1 (some x1) none p14.2).bind fun v15=>(runSrc 2 x2 p14.2).bind fun p16=>(runCopy 2 v15 p16.1 p16.2 p14.2).bind fun p17=>(arith .add x1 v2).bind fun v18=>(runSliceS 2 p14.1 (some v18) none p17.2).bind fun v19=>(runSliceS 2 x0 (some x1) none p17.2).bind fun v20=>(runSrc 2 v20 p17.2).bind fun p21=>(runCopy 2 v19 p21.1 p21.2 p17.2).bind fun p22=>some (p14.1,p22.2)) ((arith .add v4 v2).bind fun v23=>(runSliceS 2 x0 none (some v23) m).bind fun v24=>(arith .add x1 v2).bind fun v25=>(runSliceS 2 v24 (some v25) none m).bind fun v26=>none))) :=
 (Call_ev (fn:=fn124) fn124_eq [x0,x1,x2] m (hS _ _)).trans (by kernel_rfl)
end Go.Fx.Tryz
namespace Go.Fx
open Go
set_option linter.unusedSimpArgs false
set_option linter.unusedVariables false
def W (o:O) (Q:Value→Mem→Prop):Prop:=∃ v m,o=some (v,m)∧Q v m
theorem W_some {v:Value} {m:Mem} {Q:Value→Mem→Prop}:W (some (v,m)) Q↔Q v m :=
 ⟨fun ⟨_,_,h,hq⟩=>by cases h; exact hq,fun h=>⟨v,m,rfl,h⟩⟩
theorem W_bind {o:O} {k:Value × Mem→O} {Q:Value→Mem→Prop}:W (o.bind k) Q↔W o fun v m=>W (k (v,m)) Q:=by
 cases o with
 | none=>exact ⟨fun ⟨_,_,h,_⟩=>(by cases h),fun ⟨_,_,h,_⟩=>(by cases h)⟩
 | some p=>exact ⟨fun h=>⟨p.1,p.2,rfl,h⟩,fun ⟨_,_,h,hq⟩=>(by cases h; exact hq)⟩
theorem W_nw {m:Mem} {x:ABlk} {k:Value→Mem→O} {Q:Value→Mem→Prop}:W (nw m x k) Q↔W (k (.pointer (some ⟨m.next,0,none⟩)) (m.add x)) Q:=Iff.rfl
theorem W_nws {m:Mem} {x:ABlk} {n:Nat} {k:Value→Mem→O} {Q:Value→Mem→Prop}:W (nws m x n k) Q↔W (k (.slice (some ⟨m.next,0,none⟩) n n) (m.add x)) Q:=Iff.rfl
theorem W_nwAt {b:Nat} {m:Mem} {x:ABlk} {n:Option Nat} {k:Value→Mem→O} {Q:Value→Mem→Prop}:W (nwAt b m x n k) Q↔W (k (newVal b n) (m.put b x)) Q:=Iff.rfl
theorem W.mono {o:O} {Q R:Value→Mem→Prop} (h:W o Q) (hr:∀ v m,Q v m→R v m):W o R:=let ⟨v,m,e,q⟩:=h; ⟨v,m,e,hr v m q⟩
theorem W.bind {o:O} {k:Value × Mem→O} {Q R:Value→Mem→Prop} (h:W o Q) (hr:∀ v m,Q v m→W (k (v,m)) R):W (o.bind k) R:=W_bind.2 (h.mono hr)
theorem W.bindO {α:Type} {o:Option α} {a:α} {k:α→O} {R:Value→Mem→Prop} (h:o=some a) (hr:W (k a) R):W (o.bind k) R:=by subst h; exact hr
theorem W.of_eq {o o':O} {Q:Value→Mem→Prop} (h:o=o') (hw:W o' Q):W o Q:=h ▸ hw
theorem cnd_true (a b:O):cnd (.bool true) a b=a:=rfl
theorem cnd_false (a b:O):cnd (.bool false) a b=b:=rfl
theorem gdo_tt (o:O) (m:Mem):gdo (.bool true) true o m=o:=rfl
theorem gdo_ff (o:O) (m:Mem):gdo (.bool false) false o m=o:=rfl
theorem gdo_tf (o:O) (m:Mem):gdo (.bool true) false o m=some (undef,m):=rfl
theorem gdo_ft (o:O) (m:Mem):gdo (.bool false) true o m=some (undef,m):=rfl
theorem gdo_u (w:Bool) (o:O) (m:Mem):gdo undef w o m=some (undef,m):=by cases w<;>rfl
theorem W_chk {ms:List Mem} {rq:List Rq} {o:O} {Q:Value→Mem→Prop}:W (chk ms rq o) Q↔rq.all (okReq ms)=true∧W o Q:=by
 unfold chk
 split
 ·rename_i h; simp [h]
 ·rename_i h; exact ⟨fun ⟨_,_,h,_⟩=>(by cases h),fun ⟨h',_⟩=>absurd h' h⟩
theorem ar_lss (k:IntKind) (a b:Int):arith .lss (.int k a) (.int k b)=some (.bool (decide (a<b))):=by cases k<;>rfl
theorem ar_leq (k:IntKind) (a b:Int):arith .leq (.int k a) (.int k b)=some (.bool (decide (a≤b))):=by cases k<;>rfl
theorem ar_gtr (k:IntKind) (a b:Int):arith .gtr (.int k a) (.int k b)=some (.bool (decide (b<a))):=by cases k<;>rfl
theorem ar_geq (k:IntKind) (a b:Int):arith .geq (.int k a) (.int k b)=some (.bool (decide (b≤a))):=by cases k<;>rfl
theorem ar_eql (k:IntKind) (a b:Int):arith .eql (.int k a) (.int k b)=some (.bool (decide (a=b))):=by cases k<;>simp [arith,iop]<;>rfl
theorem ar_neq (k:IntKind) (a b:Int):arith .neq (.int k a) (.int k b)=some (.bool (decide (¬ a=b))):=by
 cases k<;>simp only [arith,iop,if_true]<;>(congr 2; by_cases h:a=b<;>simp [h])
theorem ar_add (k:IntKind) (a b:Int):arith .add (.int k a) (.int k b)=some (.int k (k.wrap (a+b))):=by cases k<;>rfl
theorem ar_sub (k:IntKind) (a b:Int):arith .sub (.int k a) (.int k b)=some (.int k (k.wrap (a - b))):=by cases k<;>rfl
theorem ar_mul (k:IntKind) (a b:Int):arith .mul (.int k a) (.int k b)=some (.int k (k.wrap (a * b))):=by cases k<;>rfl
theorem wrap64 {a:Int} (h0:-(2 ^ 63)≤a) (h1:a<2 ^ 63):IntKind.i64.wrap a=a:=wrap_in h0 (by omega)
theorem wrapU {k:IntKind} {a:Int} (hs:k.signed=false) (h0:0≤a) (h1:a<2 ^ k.bits):k.wrap a=a:=by
 simp only [IntKind.wrap,hs,Bool.false_and,Bool.false_eq_true,if_false]
 exact Int.emod_eq_of_lt h0 h1
theorem wrapU64 {a:Int} (h0:0≤a) (h1:a<2 ^ 64):IntKind.u64.wrap a=a:=wrapU rfl h0 h1
theorem wrapU8 {a:Int} (h0:0≤a) (h1:a<2 ^ 8):IntKind.u8.wrap a=a:=wrapU rfl h0 h1
theorem i64_add {a b:Int} (h0:-(2 ^ 63)≤a+b) (h1:a+b<2 ^ 63):arith .add (.int .i64 a) (.int .i64 b)=some (.int .i64 (a+b)):=by rw [ar_add,wrap64 h0 h1]
theorem i64_sub {a b:Int} (h0:-(2 ^ 63)≤a - b) (h1:a - b<2 ^ 63):arith .sub (.int .i64 a) (.int .i64 b)=some (.int .i64 (a - b)):=by rw [ar_sub,wrap64 h0 h1]
theorem i64_succ {i:Nat} (h:i<2 ^ 62):arith .add (.int .i64 (i:Int)) (.int .i64 1)=some (.int .i64 ((i+1:Nat):Int)):=by rw [i64_add (by omega) (by omega)]; simp
theorem i64_addN {i j:Nat} (h:i+j<2 ^ 62):arith .add (.int .i64 (i:Int)) (.int .i64 (j:Int))=some (.int .i64 ((i+j:Nat):Int)):=by rw [i64_add (by omega) (by omega)]; simp
theorem conv_u64 {a:Int} (k:IntKind) (h0:0≤a) (h1:a<2 ^ 64):runConv .u64 (.int k a)=some (.int .u64 a):=by simp only [runConv,wrapU64 h0 h1]
theorem conv_i64 {a:Int} (k:IntKind) (h0:-(2 ^ 63)≤a) (h1:a<2 ^ 63):runConv .i64 (.int k a)=some (.int .i64 a):=by simp only [runConv,wrap64 h0 h1]
theorem un_not (b:Bool):runUn .not (.bool b)=some (.bool !b):=rfl
theorem un_notd (p:Prop) [Decidable p]:runUn .not (.bool (decide p))=some (.bool (decide (¬ p))):=by by_cases h:p<;>simp [h,runUn]
theorem asB_b (b:Bool):asB (.bool b)=some b:=rfl
theorem max_i (k:IntKind) (a b:Int):foldV max2 (.int k a) [.int k b]=some (.int k (if b > a then b else a)):=rfl
theorem min_i (k:IntKind) (a b:Int):foldV min2 (.int k a) [.int k b]=some (.int k (if b<a then b else a)):=rfl
theorem Upd.add' {fp:List Nat} {m m':Mem} (h:Upd fp m m') (x:ABlk):Upd fp m (m'.add x):=h.trans (Upd.add _ _ _)
theorem Upd.put' {fp:List Nat} {m m':Mem} (h:Upd fp m m') {b:Nat} (x:ABlk) (hb:b∈fp∨m.next≤b):Upd fp m (m'.put b x) :=
 ⟨h.next,fun c hc hn=>by rw [Mem.get_put,if_neg (by rintro rfl; exact hb.elim hn (fun h=>by omega))]; exact h.same c hc hn⟩
theorem Upd.then' {fp gp:List Nat} {m m' m'':Mem} (h:Upd fp m m') (h':Upd gp m' m'') (hs:∀ b∈gp,b∈fp∨m.next≤b):Upd fp m m'':=h.trans_new h' hs
theorem Upd.nil' {fp:List Nat} {m m':Mem} (h:Upd [] m m'):Upd fp m m':=h.mono (fun b hb=>by simp at hb)
theorem Upd.then0 {fp:List Nat} {m m' m'':Mem} (h:Upd fp m m') (h':Upd [] m' m''):Upd fp m m'':=h.trans_new h' (fun b hb=>by simp at hb)
def TAp {α:Type} (E:Enc α) (e:TypeId) (m:Mem) (v:Value) (l:List α):Prop :=
 (v=.slice none 0 0∧l=[])∨∃ b cap rest lo,v=.slice (some ⟨b,0,none⟩) l.length cap∧b<m.next∧m.get b=some ⟨.cells (E.flat l++rest) e,false,lo⟩∧(lo=none∨lo=some E.size)∧rest.length=(cap - l.length) * E.size∧l.length≤cap
section
variable {α:Type} {E:Enc α} {e:TypeId}
theorem TAp.nil (m:Mem):TAp E e m (.slice none 0 0) []:=.inl ⟨rfl,rfl⟩
theorem TAp.tsl {m:Mem} {v:Value} {l:List α} (h:TAp E e m v l):TSl E m v l:=by
 rcases h with ⟨rfl,rfl⟩|⟨b,cap,rest,lo,rfl,hb,hg,hlo,hr,hc⟩
 ·exact TSl.nil m
 ·exact ⟨E.flat_len l,.inr ⟨b,0,cap,rfl,hc,.inr ⟨_,cellsAt_of_get hg,by rw [List.length_append,E.flat_len]; omega,by rw [List.drop_zero,← E.flat_len,List.take_left']; rfl⟩⟩⟩
theorem TAp.lt {m:Mem} {v:Value} {l:List α} (h:TAp E e m v l):∀ b∈blkOf v,b<m.next:=by
 rcases h with ⟨rfl,rfl⟩|⟨b,cap,rest,lo,rfl,hb,_⟩
 ·intro c hc; simp [blkOf] at hc
 ·intro c hc; simp [blkOf] at hc; subst hc; exact hb
theorem TAp.upd {fp:List Nat} {m m':Mem} {v:Value} {l:List α} (h:TAp E e m v l) (hu:Upd fp m m') (hk:∀ b∈blkOf v,b∉fp):TAp E e m' v l:=by
 rcases h with h|⟨b,cap,rest,lo,rfl,hb,hg,hlo,hr,hc⟩
 ·exact .inl h
 ·exact .inr ⟨b,cap,rest,lo,rfl,Nat.lt_of_lt_of_le hb hu.next,by rw [hu.same b hb (hk b (by simp [blkOf]))]; exact hg,hlo,hr,hc⟩
theorem TAp.upd0 {m m':Mem} {v:Value} {l:List α} (h:TAp E e m v l) (hu:Upd [] m m'):TAp E e m' v l:=h.upd hu (fun b _ hb=>by simp at hb)
theorem TAp.one {m:Mem} {v:Value} {l:List α} (h:TAp E e m v l):v.cells=#[v]∧v.oneCell'=true:=by
 rcases h with ⟨rfl,rfl⟩|⟨b,cap,rest,lo,rfl,_⟩<;>exact ⟨rfl,rfl⟩
theorem TAp.fresh (m:Mem) (l:List α):TAp E e (m.add ⟨.cells (E.flat l) e,false,none⟩) (.slice (some ⟨m.next,0,none⟩) l.length l.length) l :=
 .inr ⟨m.next,l.length,[],none,rfl,by simp,by rw [Mem.get_add_self]; simp,.inl rfl,by simp,Nat.le_refl _⟩
theorem TAp.append {m:Mem} {v:Value} {l k:List α} {eb:Nat} (hs:0<E.size) (h:TAp E e m v l) (hb:(l.length+k.length) * eb≤2 ^ 47) (hn:l.length+k.length≤2 ^ 47) :
  ∃ v' m',runAppend e E.size eb v k.length (E.flat k) m=some (v',m')∧TAp E e m' v' (l++k)∧Upd (blkOf v) m m'∧∀ b∈blkOf v',b∈blkOf v∨m.next≤b:=by
 have hE:=E.flat_len k
 have hA:=E.flat_all k
 rcases h with ⟨rfl,rfl⟩|⟨b,cap,rest,lo,rfl,hbl,hg,hlo,hr,hc⟩
 ·have hc0:¬ ¬ ((0+k.length) * eb≤2 ^ 47∧(0+k.length)≤2 ^ 47∧(E.flat k).length=k.length * E.size∧(E.flat k).all (·.oneCell')=true):=by
   simp only [List.length_nil] at hb hn
   simp only [Decidable.not_not]; exact ⟨hb,hn,hE,hA⟩
  by_cases hk0:k=[]
  ·subst hk0
   exact ⟨.slice none 0 0,m,by simp only [runAppend,if_neg hc0]; rfl,TAp.nil m,Upd.refl _ _,fun b hb=>by simp [blkOf] at hb⟩
  ·have hk1:k.length≠0:=by simpa using hk0
   refine ⟨.slice (some ⟨m.next,0,none⟩) k.length k.length,m.add ⟨.cells (E.flat k) e,false,some E.size⟩,?_,.inr ⟨m.next,k.length,[],some E.size,by simp,by simp,by rw [Mem.get_add_self]; simp,.inr rfl,by simp,by simp⟩,Upd.add _ _ _,fun b hb=>by simp [blkOf] at hb; exact .inr (by omega)⟩
   have hk':¬ (0+k.length≤0):=by omega
   simp only [runAppend,if_neg hc0,if_neg hk',and_self,if_true]
 ·have hc0:¬ ¬ ((l.length+k.length) * eb≤2 ^ 47∧(l.length+k.length)≤2 ^ 47∧(E.flat k).length=k.length * E.size∧(E.flat k).all (·.oneCell')=true):=by
   simp only [Decidable.not_not]; exact ⟨hb,hn,hE,hA⟩
  by_cases hfit:l.length+k.length≤cap
  ·by_cases hz:k.length * E.size=0
   ·have:k=[]:=by
     rcases Nat.mul_eq_zero.1 hz with h|h
     ·simpa using h
     ·omega
    subst this
    refine ⟨.slice (some ⟨b,0,none⟩) (l.length+0) cap,m,?_,.inr ⟨b,cap,rest,lo,by simp,hbl,by simpa using hg,hlo,by simpa using hr,by simpa using hc⟩,Upd.refl _ _,fun c hc=>.inl hc⟩
    simp only [List.length_nil] at hc0 hfit hz
    simp only [runAppend,List.length_nil,if_neg hc0,if_pos hfit,if_pos hz]
   ·have hle:k.length * E.size≤(cap - l.length) * E.size:=Nat.mul_le_mul_right _ (by omega)
    have hlen:0+(l.length+k.length) * E.size≤(E.flat l++rest).length:=by rw [List.length_append,E.flat_len,hr,Nat.add_mul]; omega
    have hset:setRange (E.flat l++rest) (0+l.length * E.size) (E.flat k)=E.flat (l++k)++rest.drop (k.length * E.size):=by
     have:=setRange_append (E.flat l) (rest.take (k.length * E.size)) (rest.drop (k.length * E.size)) (E.flat k) (by rw [List.length_take,hE,hr]; omega)
     rw [List.take_append_drop,E.flat_len] at this
     rw [Nat.zero_add,this,E.flat_append,List.append_assoc]
    refine ⟨.slice (some ⟨b,0,none⟩) (l.length+k.length) cap,m.put b ⟨.cells (E.flat (l++k)++rest.drop (k.length * E.size)) e,false,lo⟩,?_,.inr ⟨b,cap,rest.drop (k.length * E.size),lo,by simp,hbl,by rw [Mem.get_put_self],hlo,?_,by simp; omega⟩,Upd.put _ _ (by simp [blkOf]),fun c hc=>.inl hc⟩
    ·have how:m.ownAt b=some (E.flat l++rest,e,lo):=by simp [Mem.ownAt,hg]
     have hcap:cap≠0:=by
      rintro rfl
      have:k.length=0:=by omega
      rw [this] at hz; simp at hz
     simp only [runAppend,if_neg hc0,if_pos hfit,if_neg hz,how,Option.bind_some]
     rw [if_pos ⟨hlen,hcap⟩,hset]
    ·rw [List.length_drop,hr,List.length_append,← Nat.sub_sub,Nat.sub_mul (cap - l.length)]
  ·have hle:0+l.length * E.size≤(E.flat l++rest).length:=by rw [List.length_append,E.flat_len]; omega
   have hpre:((E.flat l++rest).drop 0).take (l.length * E.size)=E.flat l:=by rw [List.drop_zero,← E.flat_len,List.take_left']; rfl
   rcases hlo with rfl|rfl
   ·refine ⟨.slice (some ⟨m.next,0,none⟩) (l.length+k.length) (l.length+k.length),m.add ⟨.cells (E.flat (l++k)) e,false,some E.size⟩,?_,.inr ⟨m.next,l.length+k.length,[],some E.size,by simp,by simp,by rw [Mem.get_add_self]; simp,.inr rfl,by simp,by simp⟩,Upd.add _ _ _,fun c hc=>by simp [blkOf] at hc; exact .inr (by omega)⟩
    simp only [runAppend,if_neg hc0,if_neg hfit,hg,hpre,hle,if_true,E.flat_append]
   ·refine ⟨.slice (some ⟨m.next,0,none⟩) (l.length+k.length) (l.length+k.length),(m.kill b).add ⟨.cells (E.flat (l++k)) e,false,some E.size⟩,?_,.inr ⟨m.next,l.length+k.length,[],some E.size,by simp,by simp,by rw [Mem.get_add,Mem.next_kill,if_pos rfl]; simp,.inr rfl,by simp,by simp⟩,(Upd.kill (fp:=[b]) m (by simp)).trans (Upd.add _ _ _),fun c hc=>by simp [blkOf] at hc; exact .inr (by omega)⟩
    simp only [runAppend,if_neg hc0,if_neg hfit,hg,hpre,hle,hc,and_self,if_true,E.flat_append]
end
theorem TAp.from {α:Type} {E:Enc α} {e:TypeId} {m:Mem} {v:Value} {l:List α} (h:TAp E e m v l) {k:Nat} (hk:k≤l.length) :
  ∃ v',(∀ m',(∀ b∈blkOf v,m'.get b=m.get b)→runSliceS E.size v (some (.int .i64 (k:Int))) none m'=some v')∧TSl E m v' (l.drop k)∧blkOf v'=blkOf v:=by
 rcases h with ⟨rfl,rfl⟩|⟨b,cap,rest,lo,rfl,hb,hg,hlo,hr,hc⟩
 ·obtain rfl:k=0:=by simpa using hk
  exact ⟨.slice none 0 0,fun m' _=>by simp [runSliceS,boundsV,boundV],TSl.nil m,rfl⟩
 ·have hkn:m.known b=.exact∨m.known b=.loose E.size:=by
   rcases hlo with rfl|rfl
   ·left; simp [Mem.known,hg]
   ·right; simp [Mem.known,hg]
  refine ⟨.slice (some ⟨b,if cap=k then 0 else 0+k * E.size,none⟩) (l.length - k) (cap - k),fun m' hm'=>?_,⟨E.flat_len _,.inr ⟨b,_,cap - k,by rw [List.length_drop],by rw [List.length_drop]; omega,?_⟩⟩,by simp [blkOf]⟩
  ·have hbd:boundsV l.length cap (some (.int .i64 (k:Int))) none=some (k,l.length):=by
    have:(0:Int)≤(k:Int)∧(k:Int)≤(l.length:Int):=by omega
    simp only [boundsV,boundV,Option.bind_some,if_pos this,Option.map_some]
    simp
   have hkn':m'.known b=m.known b:=by simp only [Mem.known]; rw [hm' b (by simp [blkOf])]
   simp only [runSliceS,hbd,Option.bind_some,hkn']
   rw [if_pos (.inr hkn)]
  ·by_cases h0:l.length - k=0
   ·left; rw [List.length_drop]; exact h0
   ·right
    have hck:¬ cap=k:=by omega
    rw [if_neg hck]
    refine ⟨_,cellsAt_of_get hg,?_,?_⟩
    ·rw [List.length_append,E.flat_len,List.length_drop,Nat.zero_add,← Nat.add_mul]
     have:(k+(l.length - k))=l.length:=by omega
     rw [this]; omega
    ·rw [Nat.zero_add,List.length_drop,List.drop_append,E.flat_drop,E.flat_len,Nat.sub_eq_zero_of_le (Nat.mul_le_mul_right _ hk),List.drop_zero]
     have:(l.length - k) * E.size=(E.flat (l.drop k)).length:=by rw [E.flat_len,List.length_drop]
     rw [this,List.take_left']
     rfl
theorem TSl.upto' {α:Type} {E:Enc α} {m:Mem} {v:Value} {l:List α} (h:TSl E m v l) {k:Nat} (hk:k≤l.length) :
  ∃ v',(∀ m',runSliceS E.size v none (some (.int .i64 (k:Int))) m'=some v')∧TSl E m v' (l.take k)∧blkOf v'=blkOf v:=by
 obtain ⟨v',h1,h2,h3⟩:=h.upto hk
 refine ⟨v',fun m'=>?_,h2,h3⟩
 rw [← h1]
 obtain ⟨_,⟨rfl,_⟩|⟨b,off,cap,rfl,hc,_⟩⟩:=h
 ·rfl
 ·have:(0:Int)≤(k:Int)∧(k:Int)≤(cap:Int):=by omega
  simp only [runSliceS,boundsV,boundV,Option.bind_some,if_pos this,Option.map_some,true_or,if_true]
end Go.Fx
namespace Go.Fx
open Go
set_option linter.unusedSimpArgs false
set_option linter.unusedVariables false
set_option linter.unusedVariables false
abbrev str (l:List UInt8):Value:=.string ⟨l.toArray⟩
theorem str_eta (s:ByteArray):Value.string s=str s.data.toList:=by
 cases s with
 | mk d=>simp [str]
def encB:Enc UInt8:=⟨1,fun b=>[.int .u8 b.toNat],fun _=>rfl,fun _=>rfl⟩
theorem encB_size:encB.size=1:=rfl
def encS:Enc (List UInt8):=⟨1,fun l=>[str l],fun _=>rfl,fun _=>rfl⟩
theorem len_str (l:List UInt8):runLenStr (str l)=some (.int .i64 l.length):=by simp [runLenStr,str,ByteArray.size]
theorem src_str (l:List UInt8) (m:Mem):runSrc 1 (str l) m=some (l.length,encB.flat l):=by
 simp only [runSrc,str,ByteArray.size,List.size_toArray]
 congr 2
 simp only [Enc.flat,encB]
 induction l with
 | nil=>rfl
 | cons a l ih=>simp at ih ⊢; exact ih
theorem idx_str {l:List UInt8} {i:Nat} {b:UInt8} (h:l[i]? = some b):runIndexStr (str l) (.int .i64 (i:Int))=some (.int .u8 b.toNat):=by
 have hs:(⟨l.toArray⟩:ByteArray)[i]? = some b:=by
  have hi:i<l.length:=by
   rcases Nat.lt_or_ge i l.length with h'|h'
   ·exact h'
   ·rw [List.getElem?_eq_none h'] at h; cases h
  rw [getElem?_pos (⟨l.toArray⟩:ByteArray) i (by simpa [ByteArray.size] using hi)]
  rw [List.getElem?_eq_getElem hi] at h
  simpa [ByteArray.getElem_eq_getElem_data] using h
 simp only [runIndexStr,str]
 rw [if_pos (by omega),Int.toNat_natCast,hs]
 rfl
theorem slice_str_from {l:List UInt8} {a:Nat} (ha:a≤l.length) (ka:IntKind):runSliceStr (str l) (some (.int ka (a:Int))) none=some (str (l.drop a)):=by
 have h2:(0:Int)≤(a:Int)∧(a:Int)≤((⟨l.toArray⟩:ByteArray).size:Int):=by simp [ByteArray.size]; omega
 simp only [runSliceStr,boundsV,boundV,Option.bind_some,Int.toNat_natCast,if_pos h2,Option.map_some]
 congr 1
 simp only [str,ByteArray.size,List.size_toArray]
 rw [List.take_of_length_le (by simp)]
theorem slice_str_upto {l:List UInt8} {b:Nat} (hb:b≤l.length) (kb:IntKind):runSliceStr (str l) none (some (.int kb (b:Int)))=some (str (l.take b)):=by
 have h1:(0:Int)≤(b:Int)∧(b:Int)≤((⟨l.toArray⟩:ByteArray).size:Int):=by simp [ByteArray.size]; omega
 simp only [runSliceStr,boundsV,boundV,if_pos h1,Option.bind_some,Int.toNat_natCast,Option.map_some]
 simp [str]
theorem cat_str {a b:List UInt8} (h:a.length+b.length<2 ^ 62):arith .add (str a) (str b)=some (str (a++b)):=by
 have hs:¬ ((((⟨a.toArray⟩:ByteArray).size+(⟨b.toArray⟩:ByteArray).size:Nat):Int) > IntKind.i64.max):=by
  have:IntKind.i64.max=9223372036854775807:=rfl
  simp only [ByteArray.size,List.size_toArray,this]
  omega
 show sop .add _ _=_
 simp only [sop,if_neg hs]
 congr 2
theorem eql_str (a b:List UInt8):arith .eql (str a) (str b)=some (.bool (decide (a=b))):=by
 show sop .eql _ _=_
 simp only [sop]
 congr 2
 by_cases h:a=b<;>simp [h]
theorem neq_str (a b:List UInt8):arith .neq (str a) (str b)=some (.bool (decide (¬ a=b))):=by
 show sop .neq _ _=_
 simp only [sop]
 congr 2
 by_cases h:a=b<;>simp [h]
theorem strOf_flat:∀ l:List UInt8,strOf (encB.flat l)=some l
 | []=>rfl
 | b::l=>by
  rw [encB.flat_cons]
  show strOf (.int .u8 b.toNat::encB.flat l)=_
  simp only [strOf,strOf_flat l,Option.map_some]
  congr 2
  simp
theorem b2s_ok {m:Mem} {v:Value} {l:List UInt8} (h:TSl encB m v l):runB2S v m=some (str l):=by
 obtain ⟨_,⟨rfl,h0⟩|⟨b,off,cap,rfl,hc,h3⟩⟩:=h
 ·have:l=[]:=by simpa using h0
  subst this; rfl
 ·rcases h3 with h3|⟨c,h4,h5,h6⟩
  ·have:l=[]:=by simpa using h3
   subst this; simp [runB2S]; rfl
  ·by_cases h0:l.length=0
   ·have:l=[]:=by simpa using h0
    subst this; simp [runB2S]; rfl
   ·have h7:(c.drop off).take l.length=encB.flat l:=by rw [h6,encB_size,Nat.mul_one]
    have h8:off+l.length≤c.length:=by rw [encB_size,Nat.mul_one] at h5; exact h5
    simp only [runB2S,if_neg h0,h4,Option.bind_some,if_pos h8,h7,strOf_flat,Option.map_some]
theorem app_new {α:Type} {E:Enc α} {e e':TypeId} {m:Mem} {v:Value} {l:List α} {eb:Nat} (k:List α) (hs:0<E.size) (h:TAp E e m v l) (hn:(l.length+k.length) * (eb+1)≤2 ^ 47) {K:Value × Mem→O} {Q:Value→Mem→Prop}
  (hK:∀ v' m',TAp E e m' v' (l++k)→Upd (blkOf v) m m'→(∀ b∈blkOf v',b∈blkOf v∨m.next≤b)→W (K (v',m')) Q) :
  W ((runSrc E.size (.slice (some ⟨m.next,0,none⟩) k.length k.length) (m.add ⟨.cells (E.flat k) e',false,none⟩)).bind fun p=>(runAppend e E.size eb v p.1 p.2 (m.add ⟨.cells (E.flat k) e',false,none⟩)).bind K) Q:=by
 have hsrc:runSrc E.size (.slice (some ⟨m.next,0,none⟩) k.length k.length) (m.add ⟨.cells (E.flat k) e',false,none⟩)=some (k.length,E.flat k):=(TAp.fresh (E:=E) (e:=e') m k).tsl.src
 rw [hsrc]
 have h1:(l.length+k.length) * eb≤(l.length+k.length) * (eb+1):=Nat.mul_le_mul_left _ (by omega)
 have h2:l.length+k.length≤(l.length+k.length) * (eb+1):=Nat.le_mul_of_pos_right _ (by omega)
 obtain ⟨v',m',h1,h2,h3,h4⟩:=(h.upd0 (Upd.add [] m ⟨.cells (E.flat k) e',false,none⟩)).append (k:=k) (eb:=eb) hs (by omega) (by omega)
 refine W.bindO rfl (W.bindO h1 (hK v' m' h2 (((Upd.add [] m _).nil').trans h3) fun b hb=>?_))
 rcases h4 b hb with h|h
 ·exact .inl h
 ·exact .inr (by simp at h; omega)
theorem app_src {α:Type} {E:Enc α} {e:TypeId} {m:Mem} {v x:Value} {l:List α} {eb:Nat} (k:List α) (hs:0<E.size) (h:TAp E e m v l) (hx:runSrc E.size x m=some (k.length,E.flat k)) (hn:(l.length+k.length) * (eb+1)≤2 ^ 47) {K:Value × Mem→O} {Q:Value→Mem→Prop}
  (hK:∀ v' m',TAp E e m' v' (l++k)→Upd (blkOf v) m m'→(∀ b∈blkOf v',b∈blkOf v∨m.next≤b)→W (K (v',m')) Q) :
  W ((runSrc E.size x m).bind fun p=>(runAppend e E.size eb v p.1 p.2 m).bind K) Q:=by
 rw [hx]
 have h1:(l.length+k.length) * eb≤(l.length+k.length) * (eb+1):=Nat.mul_le_mul_left _ (by omega)
 have h2:l.length+k.length≤(l.length+k.length) * (eb+1):=Nat.le_mul_of_pos_right _ (by omega)
 obtain ⟨v',m',h1,h2,h3,h4⟩:=h.append (k:=k) (eb:=eb) hs (by omega) (by omega)
 exact W.bindO rfl (W.bindO h1 (hK v' m' h2 h3 h4))
theorem W.le {o o':O} {Q:Value→Mem→Prop} (h:W o Q) (hle:∀ r,o=some r→o'=some r):W o' Q:=by
 obtain ⟨v,m,e,q⟩:=h
 exact ⟨v,m,hle _ e,q⟩
end Go.Fx
namespace Go.Fx
open Go
set_option linter.unusedSimpArgs false
set_option linter.unusedVariables false
set_option linter.unusedVariables false
theorem st0:(∀ {α β:Type} (a:α) (f:α→Option β),(some a).bind f=f a) ∧
  (∀ {v:Value} {m:Mem} {Q:Value→Mem→Prop},W (some (v,m)) Q↔Q v m) ∧
  (∀ {m:Mem} {x:ABlk} {k:Value→Mem→O} {Q:Value→Mem→Prop},W (nw m x k) Q↔W (k (.pointer (some ⟨m.next,0,none⟩)) (m.add x)) Q) ∧
  (∀ {m:Mem} {x:ABlk} {n:Nat} {k:Value→Mem→O} {Q:Value→Mem→Prop},W (nws m x n k) Q↔W (k (.slice (some ⟨m.next,0,none⟩) n n) (m.add x)) Q) ∧
  (∀ {b:Nat} {m:Mem} {x:ABlk} {n:Option Nat} {k:Value→Mem→O} {Q:Value→Mem→Prop},W (nwAt b m x n k) Q↔W (k (newVal b n) (m.put b x)) Q) ∧
  (∀ a b:O,cnd (.bool true) a b=a)∧(∀ a b:O,cnd (.bool false) a b=b) ∧
  (∀ (o:O) (m:Mem),gdo (.bool true) true o m=o)∧(∀ (o:O) (m:Mem),gdo (.bool false) false o m=o) ∧
  (∀ (o:O) (m:Mem),gdo (.bool true) false o m=some (undef,m))∧(∀ (o:O) (m:Mem),gdo (.bool false) true o m=some (undef,m)) ∧
  (∀ (w:Bool) (o:O) (m:Mem),gdo undef w o m=some (undef,m)) ∧
  (∀ (k:IntKind) (a b:Int),arith .lss (.int k a) (.int k b)=some (.bool (decide (a<b)))) ∧
  (∀ (k:IntKind) (a b:Int),arith .leq (.int k a) (.int k b)=some (.bool (decide (a≤b)))) ∧
  (∀ (k:IntKind) (a b:Int),arith .gtr (.int k a) (.int k b)=some (.bool (decide (b<a)))) ∧
  (∀ (k:IntKind) (a b:Int),arith .geq (.int k a) (.int k b)=some (.bool (decide (b≤a)))) ∧
  (∀ (k:IntKind) (a b:Int),arith .eql (.int k a) (.int k b)=some (.bool (decide (a=b)))) ∧
  (∀ (k:IntKind) (a b:Int),arith .neq (.int k a) (.int k b)=some (.bool (decide (¬ a=b)))) ∧
  (∀ b:Bool,asB (.bool b)=some b)∧(∀ b:Bool,runUn .not (.bool b)=some (.bool !b)) ∧
  (∀ (p:Prop) [Decidable p],runUn .not (.bool (decide p))=some (.bool (decide (¬ p)))) ∧
  (∀ (k:IntKind) (a b:Int),foldV max2 (.int k a) [.int k b]=some (.int k (if b > a then b else a))) ∧
  (∀ (k:IntKind) (a b:Int),foldV min2 (.int k a) [.int k b]=some (.int k (if b<a then b else a))) ∧
  ((!true)=false)∧((!false)=true)∧(∀ h:Decidable True,@decide True h=true)∧(∀ h:Decidable False,@decide False h=false) ∧
  (∀ {p:Prop} [Decidable p] [Decidable (¬ p)],decide (¬ p)=!decide p) ∧
  (∀ {α:Type} {h:Decidable True} (t e:α),@ite α True h t e=t)∧(∀ {α:Type} {h:Decidable False} (t e:α),@ite α False h t e=e) ∧
  ((false=true)=False)∧((¬ True)=False)∧((¬ False)=True)∧((true=false)=False) :=
 ⟨Option.bind_some,W_some,W_nw,W_nws,W_nwAt,cnd_true,cnd_false,gdo_tt,gdo_ff,gdo_tf,gdo_ft,gdo_u,ar_lss,ar_leq,ar_gtr,ar_geq,ar_eql,ar_neq,asB_b,un_not,un_notd,max_i,min_i,Bool.not_true,Bool.not_false,fun _=>decide_true _,fun _=>decide_false _,decide_not,if_true,if_false,Bool.false_eq_true,not_true_eq_false,not_false_eq_true,Bool.true_eq_false⟩
end Go.Fx
namespace Go.Fx.Tryz
open Go Go.Fx
set_option linter.unusedVariables false
set_option linter.unusedSimpArgs false
def aInsert2 (l:List Value) (m:Mem):Option (Value × Mem):=match l with
 | [.slice a n c,.int .i64 i,.slice (some ⟨vb,voff,none⟩) 1 vc] =>
  if i=(n:Int) then (runSliceS 2 (.slice a n c) (some (.int .i64 i)) none m).bind fun _=>(runSrc 2 (.slice (some ⟨vb,voff,none⟩) 1 vc) m).bind fun p=>runAppend 61 2 32 (.slice a n c) p.1 p.2 m
  else aInsert l m
 | _=>none
theorem ok_insert2 {l:List Value} {m m':Mem} {v:Value} (h:aInsert2 l m=some (v,m')) {φ:Go.Fx.Ren} {w:World} {ARGS:Array Value} (hi:Inv φ m w) (ha:VRs φ l ARGS.toList):Calls1 P φ m w 124 ARGS v m':=by
 unfold aInsert2 at h
 split at h
 rotate_left
 ·cases h
 rename_i a n c i vb voff vc
 split at h
 ·rename_i hin
  subst hin
  simp only [Option.bind_eq_some_iff] at h
  obtain ⟨q,hq,p,hp,h⟩:=h
  have hcall:Call noS tab 124 [.slice a n c,.int .i64 n,.slice (some ⟨vb,voff,none⟩) 1 vc] m=some (v,m'):=by
   have e1:runLenSlice (.slice (some ⟨vb,voff,none⟩) 1 vc)=some (.int .i64 1):=rfl
   have e2:decide ((1:Int)=0)=false:=rfl
   have e3:decide ((n:Int)=(n:Int))=true:=by simp
   have hlen:runLenSlice (.slice a n c)=some (.int .i64 n):=rfl
   rw [C124 noS (fun _ _=>rfl)]
   simp -implicitDefEqProofs only [st0,newVal,reduceIte,hq,e1,e2,hlen,e3,hp,h]
  obtain ⟨N,hN⟩:=Call_iff.1 hcall
  exact (sound_call mixed (noS_ok P) noS_good tabOk tabGood N).fn _ _ m v m' (by decide) hN φ w ARGS hi ha
 ·exact ok_insert h hi ha
end Go.Fx.Tryz
namespace Go.Proofs
open Go.Shelf
def Tryz.lays105_ren:Go.Shelf.Ren:=⟨fun|105=>68|212=>115|99=>116|165=>117|166=>118|170=>119|169=>120|263=>163|264=>164|206=>165|240=>166|241=>167|276=>208|277=>209|n=>n,fun|9=>9|3=>3|4=>4|20=>20|0=>0|46=>37|109=>189|5=>5|72=>193|76=>196|51=>252|146=>253|53=>131|148=>255|70=>191|37=>128|75=>195|127=>257|164=>293|80=>198|n=>n,fun|n=>n⟩
theorem Tryz.lays105:Go.Proofs.Lays.n105 Tryz.prog Tryz.lays105_ren:={
 mixed:=by kernel_rfl
 f99:=Tryz.func116.trans (congrArg some (by kernel_rfl))
 f105:=Tryz.func68.trans (congrArg some (by kernel_rfl))
 f165:=Tryz.func117.trans (congrArg some (by kernel_rfl))
 f166:=Tryz.func118.trans (congrArg some (by kernel_rfl))
 f169:=Tryz.func120.trans (congrArg some (by kernel_rfl))
 f170:=Tryz.func119.trans (congrArg some (by kernel_rfl))
 f206:=Tryz.func165.trans (congrArg some (by kernel_rfl))
 f212:=Tryz.func115.trans (congrArg some (by kernel_rfl))
 f240:=Tryz.func166.trans (congrArg some (by kernel_rfl))
 f241:=Tryz.func167.trans (congrArg some (by kernel_rfl))
 f263:=Tryz.func163.trans (congrArg some (by kernel_rfl))
 f264:=Tryz.func164.trans (congrArg some (by kernel_rfl))
 f276:=Tryz.func208.trans (congrArg some (by kernel_rfl))
 f277:=Tryz.func209.trans (congrArg some (by kernel_rfl))
 t0:=Tryz.underlying0
 a0:=Tryz.isAgg0
 z0:=Tryz.sizeOf0
 v0:=Tryz.zeroValue0
 t3:=Tryz.underlying3
 a3:=Tryz.isAgg3
 z3:=Tryz.sizeOf3
 v3:=Tryz.zeroValue3
 t4:=Tryz.underlying4
 a4:=Tryz.isAgg4
 z4:=Tryz.sizeOf4
 v4:=Tryz.zeroValue4
 t5:=Tryz.underlying5
 a5:=Tryz.isAgg5
 z5:=Tryz.sizeOf5
 v5:=Tryz.zeroValue5
 t9:=Tryz.underlying9
 a9:=Tryz.isAgg9
 z9:=Tryz.sizeOf9
 v9:=Tryz.zeroValue9
 t20:=Tryz.underlying20
 a20:=Tryz.isAgg20
 z20:=Tryz.sizeOf20
 v20:=Tryz.zeroValue20
 t37:=Tryz.underlying128
 a37:=Tryz.isAgg128
 z37:=Tryz.sizeOf128
 v37:=Tryz.zeroValue128
 t46:=Tryz.underlying37
 a46:=Tryz.isAgg37
 z46:=Tryz.sizeOf37
 v46:=Tryz.zeroValue37
 t51:=Tryz.underlying252
 a51:=Tryz.isAgg252
 z51:=Tryz.sizeOf252
 v51:=Tryz.zeroValue252
 t53:=Tryz.underlying131
 a53:=Tryz.isAgg131
 z53:=Tryz.sizeOf131
 v53:=Tryz.zeroValue131
 t70:=Tryz.underlying191
 a70:=Tryz.isAgg191
 z70:=Tryz.sizeOf191
 v70:=Tryz.zeroValue191
 t72:=Tryz.underlying193
 a72:=Tryz.isAgg193
 z72:=Tryz.sizeOf193
 v72:=Tryz.zeroValue193
 t75:=Tryz.underlying195
 a75:=Tryz.isAgg195
 z75:=Tryz.sizeOf195
 v75:=Tryz.zeroValue195
 t76:=Tryz.underlying196
 a76:=Tryz.isAgg196
 z76:=Tryz.sizeOf196
 v76:=Tryz.zeroValue196
 t109:=Tryz.underlying189
 a109:=Tryz.isAgg189
 z109:=Tryz.sizeOf189
 v109:=Tryz.zeroValue189
 t127:=Tryz.underlying257
 a127:=Tryz.isAgg257
 z127:=Tryz.sizeOf257
 v127:=Tryz.zeroValue257
 t146:=Tryz.underlying253
 a146:=Tryz.isAgg253
 z146:=Tryz.sizeOf253
 v146:=Tryz.zeroValue253
 t148:=Tryz.underlying255
 a148:=Tryz.isAgg255
 z148:=Tryz.sizeOf255
 v148:=Tryz.zeroValue255
 t164:=Tryz.underlying293
 a164:=Tryz.isAgg293
 z164:=Tryz.sizeOf293
 v164:=Tryz.zeroValue293 }
def Tryz.lays160_ren:Go.Shelf.Ren:=⟨fun|160=>153|232=>194|231=>193|227=>195|234=>197|233=>196|236=>199|235=>198|228=>223|271=>226|151=>225|197=>224|120=>254|152=>253|260=>252|137=>265|119=>266|224=>267|225=>268|217=>271|266=>272|n=>n,fun|9=>9|4=>4|3=>3|5=>5|117=>281|116=>280|0=>0|124=>284|21=>21|105=>306|46=>37|119=>341|139=>344|138=>343|n=>n,fun|3=>1|4=>2|n=>n⟩
theorem Tryz.lays160:Go.Proofs.Lays.n160 Tryz.prog Tryz.lays160_ren:={
 mixed:=by kernel_rfl
 f119:=Tryz.func266.trans (congrArg some (by kernel_rfl))
 f120:=Tryz.func254.trans (congrArg some (by kernel_rfl))
 f137:=Tryz.func265.trans (congrArg some (by kernel_rfl))
 f151:=Tryz.func225.trans (congrArg some (by kernel_rfl))
 f152:=Tryz.func253.trans (congrArg some (by kernel_rfl))
 f160:=Tryz.func153.trans (congrArg some (by kernel_rfl))
 f197:=Tryz.func224.trans (congrArg some (by kernel_rfl))
 f217:=Tryz.func271.trans (congrArg some (by kernel_rfl))
 f224:=Tryz.func267.trans (congrArg some (by kernel_rfl))
 f225:=Tryz.func268.trans (congrArg some (by kernel_rfl))
 f227:=Tryz.func195.trans (congrArg some (by kernel_rfl))
 f228:=Tryz.func223.trans (congrArg some (by kernel_rfl))
 f231:=Tryz.func193.trans (congrArg some (by kernel_rfl))
 f232:=Tryz.func194.trans (congrArg some (by kernel_rfl))
 f233:=Tryz.func196.trans (congrArg some (by kernel_rfl))
 f234:=Tryz.func197.trans (congrArg some (by kernel_rfl))
 f235:=Tryz.func198.trans (congrArg some (by kernel_rfl))
 f236:=Tryz.func199.trans (congrArg some (by kernel_rfl))
 f260:=Tryz.func252.trans (congrArg some (by kernel_rfl))
 f266:=Tryz.func272.trans (congrArg some (by kernel_rfl))
 f271:=Tryz.func226.trans (congrArg some (by kernel_rfl))
 t0:=Tryz.underlying0
 a0:=Tryz.isAgg0
 z0:=Tryz.sizeOf0
 v0:=Tryz.zeroValue0
 t3:=Tryz.underlying3
 a3:=Tryz.isAgg3
 z3:=Tryz.sizeOf3
 v3:=Tryz.zeroValue3
 t4:=Tryz.underlying4
 a4:=Tryz.isAgg4
 z4:=Tryz.sizeOf4
 v4:=Tryz.zeroValue4
 t5:=Tryz.underlying5
 a5:=Tryz.isAgg5
 z5:=Tryz.sizeOf5
 v5:=Tryz.zeroValue5
 t9:=Tryz.underlying9
 a9:=Tryz.isAgg9
 z9:=Tryz.sizeOf9
 v9:=Tryz.zeroValue9
 t21:=Tryz.underlying21
 a21:=Tryz.isAgg21
 z21:=Tryz.sizeOf21
 v21:=Tryz.zeroValue21
 t46:=Tryz.underlying37
 a46:=Tryz.isAgg37
 z46:=Tryz.sizeOf37
 v46:=Tryz.zeroValue37
 t105:=Tryz.underlying306
 a105:=Tryz.isAgg306
 z105:=Tryz.sizeOf306
 v105:=Tryz.zeroValue306
 t116:=Tryz.underlying280
 a116:=Tryz.isAgg280
 z116:=Tryz.sizeOf280
 t117:=Tryz.underlying281
 a117:=Tryz.isAgg281
 z117:=Tryz.sizeOf281
 v117:=Tryz.zeroValue281
 t119:=Tryz.underlying341
 a119:=Tryz.isAgg341
 z119:=Tryz.sizeOf341
 t124:=Tryz.underlying284
 a124:=Tryz.isAgg284
 z124:=Tryz.sizeOf284
 v124:=Tryz.zeroValue284
 t138:=Tryz.underlying343
 a138:=Tryz.isAgg343
 z138:=Tryz.sizeOf343
 v138:=Tryz.zeroValue343
 t139:=Tryz.underlying344
 a139:=Tryz.isAgg344
 z139:=Tryz.sizeOf344
 v139:=Tryz.zeroValue344
 g3:=by kernel_rfl
 g4:=by kernel_rfl }
def Tryz.lays156_ren:Go.Shelf.Ren:=⟨fun|156=>186|165=>117|166=>118|169=>120|240=>166|241=>167|276=>208|277=>209|n=>n,fun|31=>68|9=>9|3=>3|4=>4|0=>0|20=>20|72=>193|76=>196|70=>191|37=>128|75=>195|127=>257|164=>293|5=>5|80=>198|n=>n,fun|n=>n⟩
theorem Tryz.lays156:Go.Proofs.Lays.n156 Tryz.prog Tryz.lays156_ren:={
 mixed:=by kernel_rfl
 f156:=Tryz.func186.trans (congrArg some (by kernel_rfl))
 f165:=Tryz.func117.trans (congrArg some (by kernel_rfl))
 f166:=Tryz.func118.trans (congrArg some (by kernel_rfl))
 f169:=Tryz.func120.trans (congrArg some (by kernel_rfl))
 f240:=Tryz.func166.trans (congrArg some (by kernel_rfl))
 f241:=Tryz.func167.trans (congrArg some (by kernel_rfl))
 f276:=Tryz.func208.trans (congrArg some (by kernel_rfl))
 f277:=Tryz.func209.trans (congrArg some (by kernel_rfl))
 t0:=Tryz.underlying0
 a0:=Tryz.isAgg0
 z0:=Tryz.sizeOf0
 v0:=Tryz.zeroValue0
 t3:=Tryz.underlying3
 a3:=Tryz.isAgg3
 z3:=Tryz.sizeOf3
 v3:=Tryz.zeroValue3
 t4:=Tryz.underlying4
 a4:=Tryz.isAgg4
 z4:=Tryz.sizeOf4
 v4:=Tryz.zeroValue4
 t9:=Tryz.underlying9
 a9:=Tryz.isAgg9
 z9:=Tryz.sizeOf9
 v9:=Tryz.zeroValue9
 t20:=Tryz.underlying20
 a20:=Tryz.isAgg20
 z20:=Tryz.sizeOf20
 v20:=Tryz.zeroValue20
 t31:=Tryz.underlying68
 a31:=Tryz.isAgg68
 z31:=Tryz.sizeOf68
 v31:=Tryz.zeroValue68
 t37:=Tryz.underlying128
 a37:=Tryz.isAgg128
 z37:=Tryz.sizeOf128
 v37:=Tryz.zeroValue128
 t70:=Tryz.underlying191
 a70:=Tryz.isAgg191
 z70:=Tryz.sizeOf191
 v70:=Tryz.zeroValue191
 t72:=Tryz.underlying193
 a72:=Tryz.isAgg193
 z72:=Tryz.sizeOf193
 v72:=Tryz.zeroValue193
 t75:=Tryz.underlying195
 a75:=Tryz.isAgg195
 z75:=Tryz.sizeOf195
 v75:=Tryz.zeroValue195
 t76:=Tryz.underlying196
 a76:=Tryz.isAgg196
 z76:=Tryz.sizeOf196
 v76:=Tryz.zeroValue196
 t127:=Tryz.underlying257
 a127:=Tryz.isAgg257
 z127:=Tryz.sizeOf257
 v127:=Tryz.zeroValue257
 t164:=Tryz.underlying293
 a164:=Tryz.isAgg293
 z164:=Tryz.sizeOf293
 v164:=Tryz.zeroValue293 }
theorem Tryz.extra105:Builder.Extra Tryz.prog Tryz.lays105_ren:={
 sizeBuilder:=by kernel_rfl
 liesBuilder:=by kernel_rfl
 t5:=by kernel_rfl
 a5:=fun w=>by kernel_rfl
 z5:=fun w=>by kernel_rfl
 v5:=fun w=>by kernel_rfl
 infoByte:=by kernel_rfl
 cellsByte:=by kernel_rfl
 sizeByte:=by kernel_rfl
 neB5:=by decide }
theorem Tryz.extra156:Builder.Extra Tryz.prog Tryz.lays156_ren:={
 sizeBuilder:=by kernel_rfl
 liesBuilder:=by kernel_rfl
 t5:=by kernel_rfl
 a5:=fun w=>by kernel_rfl
 z5:=fun w=>by kernel_rfl
 v5:=fun w=>by kernel_rfl
 infoByte:=by kernel_rfl
 cellsByte:=by kernel_rfl
 sizeByte:=by kernel_rfl
 neB5:=by decide }
end Go.Proofs
