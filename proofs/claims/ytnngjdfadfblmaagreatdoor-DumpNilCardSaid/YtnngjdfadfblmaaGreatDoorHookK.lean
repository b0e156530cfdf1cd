/- slices.Sorted(maps.Keys(m)), at keys that are texts and at keys that are numbers: met by the library's contracts, whatever order the run-time draws. -/
import Derived.Test.YtnngjdfadfblmaaGreatDoorKeys
import Derived.Test.YtnngjdfadfblmaaGreatDoorChecked
import Derived.Test.YtnngjdfadfblmaaGreatDoorFxKeys
namespace Go.Fx.Tryz
open Go Go.Fx Go.Proofs Go.RowKit Go.Shelf
set_option linter.unusedVariables false
set_option linter.unusedSimpArgs false

noncomputable abbrev KP : Program := Tryz.prog
theorem k_str : KP.underlying 9 = some TypeDesc.string := by kernel_rfl
theorem k_int : KP.underlying 3 = some (TypeDesc.int IntKind.i64) := by kernel_rfl

theorem sortsS (m : Nat) : AnyZ.SortsIn KP Tryz.sortedS_ren Fence.wide m :=
  ⟨fun blk off cap ss W hH hblk hsz => callsIn_wide.2 (AnyM.slices_Sort_string Tryz.sortS blk off cap ss W hH hblk hsz),
   fun p cap W => callsIn_wide.2 (AnyM.slices_Sort_string_none Tryz.sortS p cap W)⟩
theorem sortsI (m : Nat) : AnyZI.SortsIn KP Tryz.sortedI_ren Fence.wide m :=
  ⟨fun blk off cap ss W hH hblk hsz => callsIn_wide.2 (AnyM.slices_Sort_int Tryz.sortI blk off cap ss W hH hblk hsz),
   fun p cap W => callsIn_wide.2 (AnyM.slices_Sort_int_none Tryz.sortI p cap W)⟩

abbrev strV (l : List UInt8) : Value := .string ⟨l.toArray⟩
abbrev intV (n : Int) : Value := .int .i64 n

/-- slices.Sorted of a map's keys: texts. -/
def aSortS (l : List Value) (m : Mem) : Option (Value × Mem) := match l with
  | [.func (.func K) ⟨[]⟩ ⟨[.pointer (some ⟨bx, 0, none⟩)]⟩] => match m.get bx with
    | some ⟨.cells [.map (some mb)] _, false, none⟩ => match m.get mb with
      | some ⟨.map es clock, _, _⟩ => match keysS es with
        | some ks => if K = 180 ∧ es.length ≤ 1000000 ∧ ks.all (fun k => Nat.ble k.length 1000000) = true ∧ bornOk es clock = true ∧ nodupB eqB ks = true then
            (match ks with
              | [] => some (.slice none 0 0, m)
              | k :: r => some (.slice (some ⟨m.next, 0, none⟩) (k :: r).length (k :: r).length, m.add ⟨.cells ((sortG leb (k :: r)).map strV) 9, false, some 1⟩))
          else none
        | none => none
      | _ => none
    | _ => none
  | _ => none
/-- .. numbers. -/
def aSortI (l : List Value) (m : Mem) : Option (Value × Mem) := match l with
  | [.func (.func K) ⟨[]⟩ ⟨[.pointer (some ⟨bx, 0, none⟩)]⟩] => match m.get bx with
    | some ⟨.cells [.map (some mb)] _, false, none⟩ => match m.get mb with
      | some ⟨.map es clock, _, _⟩ => match keysZ es with
        | some ks => if K = 170 ∧ es.length ≤ 1000000 ∧ ks.all (fun k => decide (-9223372036854775808 ≤ k) && decide (k ≤ 9223372036854775807)) = true ∧ bornOk es clock = true ∧ nodupB eqZ ks = true then
            (match ks with
              | [] => some (.slice none 0 0, m)
              | k :: r => some (.slice (some ⟨m.next, 0, none⟩) (k :: r).length (k :: r).length, m.add ⟨.cells ((sortG leZ (k :: r)).map intV) 3, false, some 1⟩))
          else none
        | none => none
      | _ => none
    | _ => none
  | _ => none

theorem VR.closure {φ : Go.Fx.Ren} {K : FuncId} {bx : Nat} {ARGS : Array Value} (h : VRs φ [.func (.func K) ⟨[]⟩ ⟨[.pointer (some ⟨bx, 0, none⟩)]⟩] ARGS.toList) :
    ∃ l, φ bx = some l ∧ ARGS = #[.func (.func K) #[] #[.pointer (some ⟨l.blk, l.base + 0, none⟩)]] := by
  obtain ⟨A, rfl, hA⟩ := VRs.one' h
  cases hA with
  | func _ _ vs _ ys hu _ h1 hs =>
    obtain rfl : vs = #[] := by
      have : vs.size = 0 := hu.symm
      exact Array.eq_empty_of_size_eq_zero this
    obtain ⟨ys⟩ := ys
    match ys, h1 with
    | [Y], _ =>
      have := hs 0 _ Y rfl rfl
      cases this with
      | ptr _ _ l hl => exact ⟨l, hl, rfl⟩

theorem mergeS_len (l : List (List UInt8)) : (sortG leb l).length = l.length := (sortG_perm leb l).length_eq
theorem mergeZ_len (l : List Int) : (sortG leZ l).length = l.length := (sortG_perm leZ l).length_eq

set_option maxRecDepth 100000 in
theorem ok_sortS {l : List Value} {m m' : Mem} {v : Value} (h : aSortS l m = some (v, m')) {φ : Go.Fx.Ren} {w : World} {ARGS : Array Value} (hi : Inv φ m w) (ha : VRs φ l ARGS.toList) : Calls1 KP φ m w 130 ARGS v m' := by
  unfold aSortS at h
  split at h
  rotate_left
  · cases h
  rename_i K bx
  split at h
  rotate_left
  · cases h
  rename_i mb e hbx
  split at h
  rotate_left
  · cases h
  rename_i es clock ro lo hmb
  split at h
  rotate_left
  · cases h
  rename_i ks hks
  split at h
  rotate_left
  · cases h
  rename_i hc
  obtain ⟨rfl, hlen, hkl, hborn, hnd⟩ := hc
  have hkm := keysS_map es ks hks
  obtain ⟨lx, hlx, rfl⟩ := VR.closure ha
  obtain ⟨lx', hlx', okx⟩ := hi.live bx _ hbx
  rw [hlx] at hlx'; cases hlx'
  have hbase : lx.base = 0 := okx.1.2 rfl rfl
  obtain ⟨V, hV, rV⟩ := hi.load hbx hlx (off := 0) rfl
  cases rV with
  | map _ lm hlm =>
  have hkls : ks.length = es.length := by have := congrArg List.length hkm; simpa using this.symm
  obtain ⟨D, hown, hperm⟩ := owns_keys (P := KP) hi hmb hlm (k := 9) (fun v => match v with | .string s => .string s.data.toList | _ => .bool false) (fun x hx => by
      have : x.key ∈ es.map (·.key) := List.mem_map.2 ⟨x, hx, rfl⟩
      rw [hkm] at this
      obtain ⟨q, hq, e⟩ := List.mem_map.1 this
      have hq' := List.all_eq_true.1 hkl q hq
      have hle : q.length ≤ 1000000 := Nat.le_of_ble_eq_true hq'
      rw [← e]
      have hs : (⟨q.toArray⟩ : ByteArray).size ≤ maxLen := by show q.toArray.size ≤ _; unfold maxLen; simp; omega
      simp [keyOf, k_str, mapKey, hs]) hlen hborn (by
      rw [hkm]
      refine List.pairwise_map.2 ((nodupB_iff eqB_iff _ hnd).imp fun {a b} hab e => hab ?_)
      simpa using e)
  have hpk : (strKeys (.map D)).Perm ks := by
    have h1 : strKeys (.map D) = (D.map (·.1)).map Go.strOf := by simp [strKeys]
    rw [h1]
    refine (hperm.map Go.strOf).trans ?_
    have h2 : ((es.map fun x => (match x.key with | .string s => Lit.string s.data.toList | _ => .bool false)).map Go.strOf) = ks := by
      have e1 : (es.map fun x => (match x.key with | .string s => Lit.string s.data.toList | _ => .bool false)) = (es.map (·.key)).map (fun v => match v with | .string s => Lit.string s.data.toList | _ => .bool false) := by rw [List.map_map]; rfl
      rw [e1, hkm, List.map_map, List.map_map]
      refine (List.map_congr_left fun x _ => ?_).trans (List.map_id ks)
      simp [Go.strOf]
    rw [h2]
  have hsize : Maps.size (DataW.map D) = es.length := by
    have := hperm.length_eq
    simp only [List.length_map] at this
    exact this
  have hcell : w.cell? ⟨lx.blk, 0, none⟩ = some (.map (some lm.blk)) := by rw [← hV, hbase]
  have hseq : SeqGives Fence.wide 2 KP 180 #[.pointer (some ⟨lx.blk, 0, none⟩)] encStr (fun ss => ss.Perm (strKeys (.map D))) (Maps.size (.map D)) w :=
    AnyZ.keys_gives (ρ := Tryz.keysS_ren) { Tryz.keysS with } Fence.wide _ trivial rfl (by omega) lx.blk lm.blk es.length (.map D) w (hi.blk_lt hlx) hcell hown
  have cS := AnyZ.sorted_in Tryz.sortedS Fence.wide 5 trivial trivial trivial trivial rfl (by omega) (sortsS _) (enters_of Tryz.func179 (by kernel_rfl) rfl) 180 #[.pointer (some ⟨lx.blk, 0, none⟩)] trivial (enters_of Tryz.func180 (by kernel_rfl) rfl) _ _ (by rw [hsize]; unfold maxLen; omega) (by rw [hsize]; omega) _ hseq
  have cC := callsIn_wide.1 cS
  have hA : (⟨lx.blk, lx.base + 0, none⟩ : Addr) = ⟨lx.blk, 0, none⟩ := by rw [hbase]
  rw [hA]
  match ks, h, hpk with
  | [], h, hpk =>
    cases h
    refine calls1_below hi .sliceNil ?_
    refine Calls.mono cC ?_
    rintro e w' ⟨v, ss, rfl, hS, hrow, hnil, hb⟩
    have : ss = [] := by
      have := (hS.trans hpk).length_eq
      simpa using this
    rw [hnil.2 this]
    exact ⟨rfl, hb⟩
  | k :: r, h, hpk =>
    cases h
    refine calls1_row (n := (k :: r).length) hi (by simp [Fx.plain]) ?_
    refine Calls.mono cC ?_
    rintro e w' ⟨v, ss, rfl, hS, hrow, hnil, hb⟩
    have hp2 := hS.trans hpk
    have hl2 : ss.length = (k :: r).length := hp2.length_eq
    rw [hl2, sortB_eq hp2] at hrow
    rcases hrow.2 with ⟨_, h0⟩ | ⟨g, cap, cur, rfl, hbg, hgb, r1, r2, r3, r4⟩
    · simp at h0
    · exact ⟨g, cap, cur, rfl, hbg, hgb, r1, r3, by rw [r4], hb⟩

set_option maxRecDepth 100000 in
theorem ok_sortI {l : List Value} {m m' : Mem} {v : Value} (h : aSortI l m = some (v, m')) {φ : Go.Fx.Ren} {w : World} {ARGS : Array Value} (hi : Inv φ m w) (ha : VRs φ l ARGS.toList) : Calls1 KP φ m w 122 ARGS v m' := by
  unfold aSortI at h
  split at h
  rotate_left
  · cases h
  rename_i K bx
  split at h
  rotate_left
  · cases h
  rename_i mb e hbx
  split at h
  rotate_left
  · cases h
  rename_i es clock ro lo hmb
  split at h
  rotate_left
  · cases h
  rename_i ks hks
  split at h
  rotate_left
  · cases h
  rename_i hc
  obtain ⟨rfl, hlen, hkl, hborn, hnd⟩ := hc
  have hkm := keysZ_map es ks hks
  obtain ⟨lx, hlx, rfl⟩ := VR.closure ha
  obtain ⟨lx', hlx', okx⟩ := hi.live bx _ hbx
  rw [hlx] at hlx'; cases hlx'
  have hbase : lx.base = 0 := okx.1.2 rfl rfl
  obtain ⟨V, hV, rV⟩ := hi.load hbx hlx (off := 0) rfl
  cases rV with
  | map _ lm hlm =>
  obtain ⟨D, hown, hperm⟩ := owns_keys (P := KP) hi hmb hlm (k := 3) (fun v => match v with | .int .i64 n => .int .i64 n | _ => .bool false) (fun x hx => by
      have : x.key ∈ es.map (·.key) := List.mem_map.2 ⟨x, hx, rfl⟩
      rw [hkm] at this
      obtain ⟨q, hq, e⟩ := List.mem_map.1 this
      have hq' := List.all_eq_true.1 hkl q hq
      simp only [Bool.and_eq_true, decide_eq_true_eq] at hq'
      rw [← e]
      have hw : (Lit.int .i64 q).wf = true := by simp [Lit.wf, IntKind.min, IntKind.max, IntKind.signed, IntKind.bits]; omega
      simp [keyOf, k_int, mapKey, hw]) hlen hborn (by
      rw [hkm]
      refine List.pairwise_map.2 ((nodupB_iff (fun a b => by simp [eqZ]) _ hnd).imp fun {a b} hab e => hab ?_)
      simpa using e)
  have hpk : (intKeys (.map D)).Perm ks := by
    have h1 : intKeys (.map D) = (D.map (·.1)).map Go.intOf := by simp [intKeys]
    rw [h1]
    refine (hperm.map Go.intOf).trans ?_
    have h2 : ((es.map fun x => (match x.key with | .int .i64 n => Lit.int .i64 n | _ => .bool false)).map Go.intOf) = ks := by
      have e1 : (es.map fun x => (match x.key with | .int .i64 n => Lit.int .i64 n | _ => .bool false)) = (es.map (·.key)).map (fun v => match v with | .int .i64 n => Lit.int .i64 n | _ => .bool false) := by rw [List.map_map]; rfl
      rw [e1, hkm, List.map_map, List.map_map]
      refine (List.map_congr_left fun x _ => ?_).trans (List.map_id ks)
      simp [Go.intOf]
    rw [h2]
  have hsize : Maps.size (DataW.map D) = es.length := by
    have := hperm.length_eq
    simp only [List.length_map] at this
    exact this
  have hcell : w.cell? ⟨lx.blk, 0, none⟩ = some (.map (some lm.blk)) := by rw [← hV, hbase]
  have hseq : SeqGives Fence.wide 2 KP 170 #[.pointer (some ⟨lx.blk, 0, none⟩)] encZ (fun ss => ss.Perm (intKeys (.map D))) (Maps.size (.map D)) w :=
    AnyZI.keys_gives (ρ := Tryz.keysI_ren) { Tryz.keysI with } Fence.wide _ trivial rfl (by omega) lx.blk lm.blk es.length (.map D) w (hi.blk_lt hlx) hcell hown
  have cS := AnyZI.sorted_in Tryz.sortedI Fence.wide 5 trivial trivial trivial trivial rfl (by omega) (sortsI _) (enters_of Tryz.func169 (by kernel_rfl) rfl) 170 #[.pointer (some ⟨lx.blk, 0, none⟩)] trivial (enters_of Tryz.func170 (by kernel_rfl) rfl) _ _ (by rw [hsize]; unfold maxLen; omega) (by rw [hsize]; omega) _ hseq
  have cC := callsIn_wide.1 cS
  have hA : (⟨lx.blk, lx.base + 0, none⟩ : Addr) = ⟨lx.blk, 0, none⟩ := by rw [hbase]
  rw [hA]
  match ks, h, hpk with
  | [], h, hpk =>
    cases h
    refine calls1_below hi .sliceNil ?_
    refine Calls.mono cC ?_
    rintro e w' ⟨v, ss, rfl, hS, hrow, hnil, hb⟩
    have : ss = [] := by
      have := (hS.trans hpk).length_eq
      simpa using this
    rw [hnil.2 this]
    exact ⟨rfl, hb⟩
  | k :: r, h, hpk =>
    cases h
    refine calls1_row (n := (k :: r).length) hi (by simp [Fx.plain]) ?_
    refine Calls.mono cC ?_
    rintro e w' ⟨v, ss, rfl, hS, hrow, hnil, hb⟩
    have hp2 := hS.trans hpk
    have hl2 : ss.length = (k :: r).length := hp2.length_eq
    rw [hl2, sortZ_eq hp2] at hrow
    rcases hrow.2 with ⟨_, h0⟩ | ⟨g, cap, cur, rfl, hbg, hgb, r1, r2, r3, r4⟩
    · simp at h0
    · exact ⟨g, cap, cur, rfl, hbg, hgb, r1, r3, by rw [r4], hb⟩
end Go.Fx.Tryz
