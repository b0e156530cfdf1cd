/- Parts of a proof: HookR. Conditions: none. -/
import Derived.Test.YtnngjdfadfblmaaGreatDoorQd12
namespace Go.Fx.Tryz
open Go Go.Fx Go.Proofs Go.RowKit
set_option linter.unusedVariables false
def aRepeat (l:List Value) (m:Mem):Option (Value × Mem):=match l with
 | [.string s,.int .i64 c]=>if 0≤c∧c≤1000000∧s.size≤1000000 then some (.string ⟨(Lib.repeatL s.data.toList c.toNat).toArray⟩,m) else none
 | _=>none
theorem ok_repeat {l:List Value} {m m':Mem} {v:Value} (h:aRepeat l m=some (v,m')) {φ:Go.Fx.Ren} {w:World} {ARGS:Array Value} (hi:Inv φ m w) (ha:VRs φ l ARGS.toList):Calls1 Tryz.prog φ m w 68 ARGS v m':=by
 unfold aRepeat at h
 split at h
 ·rename_i s c
  split at h
  ·rename_i hc
   cases h
   obtain ⟨A,B,rfl,hA,hB⟩:=ha.two
   cases hA; cases hB
   obtain ⟨c,rfl⟩:=Int.eq_ofNat_of_zero_le hc.1
   have hm:s.size * c≤1000000 * 1000000:=Nat.mul_le_mul hc.2.2 (by omega)
   exact calls1_below hi (.string _) (Any.strings_Repeat Tryz.lays105 Tryz.extra105 s c w (by omega) (by omega))
  ·cases h
 ·cases h
def aTrim (l:List Value) (m:Mem):Option (Value × Mem):=match l with
 | [.string s,.string ⟨⟨[c]⟩⟩]=>if c.toNat<128∧s.size≤1000000 then some (.string ⟨(Lib.trimB s.data.toList c).toArray⟩,m) else none
 | _=>none
theorem ok_trim {l:List Value} {m m':Mem} {v:Value} (h:aTrim l m=some (v,m')) {φ:Go.Fx.Ren} {w:World} {ARGS:Array Value} (hi:Inv φ m w) (ha:VRs φ l ARGS.toList):Calls1 Tryz.prog φ m w 153 ARGS v m':=by
 unfold aTrim at h
 split at h
 ·rename_i s c
  split at h
  ·rename_i hc
   cases h
   obtain ⟨A,B,rfl,hA,hB⟩:=ha.two
   cases hA; cases hB
   refine calls1_below hi (.string _) ((Any.strings_Trim_one Tryz.lays160 s c hc.1 w (by omega)).mono ?_)
   rintro e w' ⟨rfl,hw|hw⟩
   ·exact ⟨rfl,hw ▸ Below.refl _ _⟩
   ·exact ⟨rfl,hw ▸ ⟨rfl,rfl,rfl,Nat.le_refl _,fun _ _=>rfl⟩⟩
  ·cases h
 ·cases h
def strsOf:List Value→Option (List ByteArray)
 | []=>some []
 | .string s::r=>(strsOf r).map (s::·)
 | _::_=>none
theorem strsOf_map:∀ (c:List Value) (xs:List ByteArray),strsOf c=some xs→c=xs.map .string
 | [],xs,h=>by cases h; rfl
 | v::r,xs,h=>by
  cases v<;>simp only [strsOf,Option.map_eq_some_iff] at h<;>try (cases h; done)
  obtain ⟨l,h1,rfl⟩:=h
  rw [List.map_cons,← strsOf_map r l h1]
def aJoin (l:List Value) (m:Mem):Option (Value × Mem):=match l with
 | [.slice (some ⟨b,off,none⟩) n c,.string sep]=>(m.cellsAt b).bind fun cs=>(strsOf ((cs.drop off).take n)).bind fun xs =>
   if xs.length=n∧n≠0∧n≤c∧n≤1000000∧(Lib.join (xs.map (·.data.toList)) sep.data.toList).length≤1000000 then some (.string ⟨(Lib.join (xs.map (·.data.toList)) sep.data.toList).toArray⟩,m) else none
 | _=>none
theorem ok_join {l:List Value} {m m':Mem} {v:Value} (h:aJoin l m=some (v,m')) {φ:Go.Fx.Ren} {w:World} {ARGS:Array Value} (hi:Inv φ m w) (ha:VRs φ l ARGS.toList):Calls1 Tryz.prog φ m w 186 ARGS v m':=by
 unfold aJoin at h
 split at h
 rotate_left
 ·cases h
 rename_i b off n c sep
 simp only [Option.bind_eq_some_iff] at h
 obtain ⟨cs,hcs,xs,hxs,h⟩:=h
 split at h
 rotate_left
 ·cases h
 rename_i hc
 cases h
 obtain ⟨hn,hn0,hcap,hbig,hlen⟩:=hc
 obtain ⟨A,B,rfl,hA,hB⟩:=ha.two
 cases hB
 obtain ⟨e,ro,lo,hg⟩:=Mem.cellsAt_get hcs
 have hmap:=strsOf_map _ _ hxs
 have key:∀ (lc:Loc) (o c':Nat),φ b=some lc→o=lc.base+off→n≤c'→Calls1 Tryz.prog φ m w 186 #[.slice (some ⟨lc.blk,o,none⟩) n c',.string sep] (.string ⟨(Lib.join (xs.map (·.data.toList)) sep.data.toList).toArray⟩) m:=by
  intro lc o c' hl ho hcc
  subst ho
  refine calls1_below hi (.string _) ?_
  have:=Any.strings_Join Tryz.lays156 Tryz.extra156 lc.blk (lc.base+off) c' xs sep w (fun j x hj=>?_) (hi.blk_lt hl) (by omega) (by omega) (by omega)
  ·rw [hn] at this; exact this
  ·have hv:cs[off+j]? = some (.string x):=by
    have h1:((cs.drop off).take n)[j]? = some (.string x):=by rw [hmap,List.getElem?_map,hj]; rfl
    rw [List.getElem?_take] at h1
    split at h1
    ·rwa [List.getElem?_drop] at h1
    ·cases h1
   obtain ⟨V,hV,rV⟩:=hi.load hg hl hv
   cases rV
   rw [Nat.add_assoc]; exact hV
 cases hA with
 | sliceEx _ _ _ _ lc hl hlo=>exact key lc _ c hl rfl hcap
 | sliceZero=>exact absurd rfl hn0
 | sliceLoose _ _ _ _ off' cap' s lc hl hlo hoff hle hcc hroom=>exact key lc off' cap' hl (hoff (by omega)) (by omega)
def S:CallF:=fun f l m=>if f=68 then aRepeat l m else if f=153 then aTrim l m else if f=124 then aInsert2 l m else if f=186 then aJoin l m else none
theorem Sok:CallOk P S:=by
 refine ⟨fun f args m v m' hf h φ w ARGS hi ha=>?_,fun N args m v m' h=>?_⟩
 ·unfold S at h
  split at h
  ·rename_i e; subst e; exact ok_repeat h hi ha
  split at h
  ·rename_i e; subst e; exact ok_trim h hi ha
  split at h
  ·rename_i e; subst e; exact ok_insert2 h hi ha
  split at h
  ·rename_i e; subst e; exact ok_join h hi ha
  cases h
 ·unfold S at h
  rw [if_neg (ynum N _ (by decide)),if_neg (ynum N _ (by decide)),if_neg (ynum N _ (by decide)),if_neg (ynum N _ (by decide))] at h
  cases h
theorem Sgood:∀ f args m r,f<yBase→S f args m=some r→goodFn P f=true:=by
 intro f args m r _ h
 unfold S at h
 split at h
 ·rename_i e; subst e; kernel_rfl
 split at h
 ·rename_i e; subst e; kernel_rfl
 split at h
 ·rename_i e; subst e; kernel_rfl
 split at h
 ·rename_i e; subst e; kernel_rfl
 cases h
end Go.Fx.Tryz
