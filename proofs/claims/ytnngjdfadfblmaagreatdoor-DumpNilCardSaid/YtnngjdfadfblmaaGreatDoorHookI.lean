/- slices.Insert at []Pair: the library's own text, walked where there is room and where there is none. -/
import Derived.Test.YtnngjdfadfblmaaGreatDoorInsF
import Derived.Test.YtnngjdfadfblmaaGreatDoorFxHook
import Derived.Shelf.Spec.SlicesInsertGrow
namespace Go.Fx.Tryz
open Go Go.Fx Go.Proofs Go.RowKit Go.Lib
set_option linter.unusedVariables false
set_option linter.unusedSimpArgs false

noncomputable abbrev IP : Program := Tryz.prog
section
theorem i_t32 : IP.underlying 32 = some (TypeDesc.slice 61) := by kernel_rfl
theorem i_t3 : IP.underlying 3 = some (TypeDesc.int IntKind.i64) := by kernel_rfl
theorem i_t4 : IP.underlying 4 = some TypeDesc.bool := by kernel_rfl
theorem i_a32 : ∀ w, (isAgg 32).run IP w = .ok false w := fun w => by kernel_rfl
theorem i_z32 : ∀ w, (Go.sizeOf 32).run IP w = .ok 1 w := fun w => by kernel_rfl
theorem i_z61 : ∀ w, (Go.sizeOf 61).run IP w = .ok 2 w := fun w => by kernel_rfl
theorem i_i61 : (IP.info? 61).map (·.size) = some 2 := by kernel_rfl
theorem i_f61 : (IP.info? 61).map (fun i => (i.zero, i.size, i.bytes)) = some (some (Value.agg #[Value.string { data := #[] }, Value.string { data := #[] }]), 2, 32) := by kernel_rfl
theorem i_mixed : IP.follows .mixedOrders = true := by kernel_rfl
theorem i_ntmps : insFn.ntmps = 95 := rfl

/-- A copy, where the source's cells and the store's run are known. -/
theorem run_copy_n {P : Program} {w w' : World} {dT sT ty elem : TypeId} {s b o dLen dCap sLen sCap : Nat} {a : Addr} {cs : List Value} (hu : P.underlying dT = some (.slice elem)) (hs : (P.info? elem).map (·.size) = some s)
    (hl : (Go.loadCells a (Nat.min sLen dLen * s)).run P w = .ok cs.toArray w) (hst : (Go.storeCells ⟨b, o, none⟩ cs).run P w = .ok () w') :
    (Builtin.copy_ #[dT, sT] ty #[.slice (some ⟨b, o, none⟩) dLen dCap, .slice (some a) sLen sCap]).run P w = .ok (goInt (Nat.min sLen dLen)) w' := by
  cases hq : P.info? elem with
  | none => simp [hq] at hs
  | some i =>
    have hi : i.size = s := by simpa [hq] using hs
    simp [Builtin.copy_, run_underlying hu, Builtin.lenOf, Builtin.firstCells, sizeOf, typeInfo, hq, hi, hl, hst]

set_option maxHeartbeats 4000000 in
set_option maxRecDepth 100000 in
theorem ins_room (b off n c i vb voff m vc : Nat) (w w1 w2 : World) (hi : i < n) (hm : 0 < m) (hroom : n + m ≤ c) (hc63 : n + m ≤ 4611686018427387904)
    (hov : ∀ lb cb, (callFunc 171 #[.slice (some ⟨vb, voff, none⟩) m vc, .slice (some ⟨b, off + (i + m) * 2, none⟩) lb cb]).run IP w = .ok (.value (.bool false)) w)
    (hcp1 : ∀ ty dc sc, (Builtin.copy_ #[32, 32] ty #[.slice (some ⟨b, off + (i + m) * 2, none⟩) (n + m - (i + m)) dc, .slice (some ⟨b, off + i * 2, none⟩) (n + m - i) sc]).run IP w.drew = .ok (goInt ((n - i : Nat) : Int)) w1)
    (hcp2 : ∀ ty dc, (Builtin.copy_ #[32, 32] ty #[.slice (some ⟨b, off + i * 2, none⟩) (n + m - i) dc, .slice (some ⟨vb, voff, none⟩) m vc]).run IP w1 = .ok (goInt m) w2) :
    Calls IP 124 #[.slice (some ⟨b, off, none⟩) n c, .int .i64 i, .slice (some ⟨vb, voff, none⟩) m vc] w fun e w' =>
      e = .returned (.slice (some ⟨b, off, none⟩) (n + m) c) ∧ w' = w2 := by
  have u3 := run_underlying i_t3; have u4 := run_underlying i_t4; have u32 := run_underlying i_t32
  have t32 := i_t32; have t3 := i_t3; have t4 := i_t4; have a32 := i_a32; have z32 := i_z32; have z61 := i_z61; have mixed := i_mixed
  have hz1 : ¬ ((m : Int) = 0) := by omega
  have hz2 : ¬ ((i : Int) = (n : Int)) := by omega
  have hw1 : IntKind.i64.wrap ((i : Int) + (m : Int)) = (i : Int) + (m : Int) := by rw [IntKind.wrap_i64]; omega
  have hb1 : (0 : Int) ≤ (i : Int) + (m : Int) := by omega
  have hin : i ≤ n := by omega
  have htn : ((i : Int) + (m : Int)).toNat = i + m := by omega
  have hb2 : ¬ (c = i + m) := by omega
  have hb3 : (i : Int) ≤ (n : Int) + (m : Int) := by omega
  have hb4 : ¬ (c = i) := by omega
  go_enter ins_fn, i_ntmps
  go_wp2_with (simp only [hov])
  go_region_law_o (refine step_copy_runI rfl _ _ 32 32 rfl _ _ (by simp [Act.eval, Act.put]) (by simp [Act.eval, Act.put]) (hcp1 _ _ _) ?_)
  go_wp2_with (at_builtin; refine wpList_copy_runI _ rfl _ _ 32 32 rfl _ _ rfl rfl (hcp2 _ _) ?_)
  go_ret
  exact ⟨rfl, rfl⟩

set_option maxHeartbeats 4000000 in
set_option maxRecDepth 100000 in
theorem ins_grow (b off n c i vb voff m vc N G : Nat) (w w1 w2 w3 : World) (hi : i < n) (hm : 0 < m) (hnc : n ≤ c) (hroom : c < n + m) (hc63 : n + m ≤ 4611686018427387904) (hGn : n + m ≤ G)
    (hrz : ∀ ty, (Builtin.append_ #[32, 3] ty #[.slice (some ⟨b, off, none⟩) i c, .int .i64 ((n : Int) + (m : Int) - (i : Int))]).run IP w = .ok (.slice (some ⟨N, 0, none⟩) (n + m) G) w1)
    (hcpA : ∀ ty dc, (Builtin.copy_ #[32, 32] ty #[.slice (some ⟨N, i * 2, none⟩) (n + m - i) dc, .slice (some ⟨vb, voff, none⟩) m vc]).run IP w1 = .ok (goInt m) w2)
    (hcpB : ∀ ty dc sc, (Builtin.copy_ #[32, 32] ty #[.slice (some ⟨N, (i + m) * 2, none⟩) (n + m - (i + m)) dc, .slice (some ⟨b, off + i * 2, none⟩) (n - i) sc]).run IP w2.drew = .ok (goInt ((n - i : Nat) : Int)) w3) :
    Calls IP 124 #[.slice (some ⟨b, off, none⟩) n c, .int .i64 i, .slice (some ⟨vb, voff, none⟩) m vc] w fun e w' =>
      e = .returned (.slice (some ⟨N, 0, none⟩) (n + m) G) ∧ w' = w3 := by
  have u3 := run_underlying i_t3; have u4 := run_underlying i_t4; have u32 := run_underlying i_t32
  have t32 := i_t32; have t3 := i_t3; have t4 := i_t4; have a32 := i_a32; have z32 := i_z32; have z61 := i_z61; have mixed := i_mixed
  have hz1 : ¬ ((m : Int) = 0) := by omega
  have hz2 : ¬ ((i : Int) = (n : Int)) := by omega
  have hz3 : (c : Int) < (n : Int) + (m : Int) := by omega
  have hGi : ¬ (G = i) := by omega
  have hGim : ¬ (G = i + m) := by omega
  have hci : ¬ (c = i) := by omega
  have hw1 : IntKind.i64.wrap ((i : Int) + (m : Int)) = (i : Int) + (m : Int) := by rw [IntKind.wrap_i64]; omega
  have hb1 : (0 : Int) ≤ (i : Int) + (m : Int) := by omega
  have hin : i ≤ n := by omega
  have htn : ((i : Int) + (m : Int)).toNat = i + m := by omega
  have hb3 : (i : Int) ≤ (n : Int) := by omega
  go_enter ins_fn, i_ntmps
  go_wp2_with (first
    | (at_builtin; refine Lib.wpList_append_run _ rfl _ _ _ _ rfl _ _ rfl rfl _ _ (hrz _) ?_)
    | (at_builtin; refine wpList_copy_runI _ rfl _ _ 32 32 rfl _ _ rfl rfl (hcpA _ _) ?_))
  go_region_law_o (refine step_copy_runI rfl _ _ 32 32 rfl (.slice (some ⟨N, (i + m) * 2, none⟩) (n + m - (i + m)) (G - (i + m))) (.slice (some ⟨b, off + i * 2, none⟩) (n - i) (c - i)) (by simp [Act.eval, Act.put]) (by simp [Act.eval, Act.put]) (hcpB 3 (G - (i + m)) (c - i)) ?_)
  go_wp2
  go_ret
  exact ⟨rfl, rfl⟩

theorem VRs.three {φ : Go.Fx.Ren} {a b c : Value} {ARGS : Array Value} (h : VRs φ [a, b, c] ARGS.toList) : ∃ A B C, ARGS = #[A, B, C] ∧ VR φ a A ∧ VR φ b B ∧ VR φ c C := by
  obtain ⟨l⟩ := ARGS
  obtain ⟨h1, h2⟩ := h
  match l, h1 with
  | [A, B, C], _ => exact ⟨A, B, C, rfl, h2 0 a A rfl rfl, h2 1 b B rfl rfl, h2 2 c C rfl rfl⟩

/-- slices.Insert of one pair, not at the end. -/
def aInsert (l : List Value) (m : Mem) : Option (Value × Mem) := match l with
  | [.slice (some ⟨b, off, none⟩) n c, .int .i64 i, .slice (some ⟨vb, voff, none⟩) 1 vc] =>
    match m.get b with
    | some ⟨.cells cs e, false, some 2⟩ =>
      match m.get vb with
      | some ⟨.cells vs _, false, none⟩ =>
        if 0 ≤ i ∧ i < n ∧ n ≤ c ∧ off + n * 2 ≤ cs.length ∧ e = 61 ∧ n ≤ 1099511627776 ∧ b ≠ vb ∧ voff + 2 ≤ vs.length ∧ ((cs.drop off).take (n * 2)).all (·.oneCell') = true ∧ ((vs.drop voff).take 2).all (·.oneCell') = true then
          some (.slice (some ⟨m.next, 0, none⟩) (n + 1) (n + 1), (m.kill b).add ⟨.cells ((cs.drop off).take (i.toNat * 2) ++ ((vs.drop voff).take 2 ++ (cs.drop (off + i.toNat * 2)).take ((n - i.toNat) * 2))) 61, false, some 2⟩)
        else none
      | _ => none
    | _ => none
  | _ => none

theorem i_cut (cs : List Value) (off i n : Nat) (vs : List Value) (hv : vs.length = 2) (hin : i < n) (hc : off + n * 2 ≤ cs.length) (X : List Value) :
    setRange ((cs.drop off).take ((i + 1) * 2) ++ X) (i * 2) vs = (cs.drop off).take (i * 2) ++ (vs ++ X) := by
  have hl : ((cs.drop off).take (i * 2)).length = i * 2 := by rw [List.length_take, List.length_drop]; omega
  have h1 : (cs.drop off).take ((i + 1) * 2) = (cs.drop off).take (i * 2) ++ ((cs.drop off).drop (i * 2)).take 2 := by
    rw [show (i + 1) * 2 = i * 2 + 2 by omega, List.take_add]
  have := setRange_append ((cs.drop off).take (i * 2)) (((cs.drop off).drop (i * 2)).take 2) X vs (by rw [List.length_take, List.length_drop, List.length_drop, hv]; omega)
  rw [hl] at this
  rw [h1, List.append_assoc, this]

theorem i_all {cs : List Value} {off n : Nat} (h : ((cs.drop off).take (n * 2)).all (·.oneCell') = true) {i : Nat} (hin : i < n) : ∀ v ∈ (cs.drop (off + i * 2)).take ((n - i) * 2), v.oneCell' = true := by
  intro v hv
  refine List.all_eq_true.1 h v ?_
  obtain ⟨j, hj, rfl⟩ := List.mem_iff_getElem.1 hv
  rw [List.length_take, List.length_drop] at hj
  rw [List.getElem_take, List.getElem_drop]
  have : ((cs.drop off).take (n * 2))[i * 2 + j]'(by rw [List.length_take, List.length_drop]; omega) = cs[off + i * 2 + j]'(by omega) := by
    rw [List.getElem_take, List.getElem_drop]
    congr 1
    omega
  rw [← this]
  exact List.getElem_mem _

theorem i_overlaps {w : World} {φ : Go.Fx.Ren} {m : Mem} (hi : Inv φ m w) {b vb : Nat} {cs vs : List Value} {e e' : TypeId} {l lv : Loc} (hb : m.get b = some ⟨.cells cs e, false, some 2⟩) (hl : φ b = some l) (hv : m.get vb = some ⟨.cells vs e', false, none⟩) (hlv : φ vb = some lv) (hne : b ≠ vb)
    (hcs : cs.length ≠ 0) (o o' k vc lb cb : Nat) :
    (callFunc 171 #[.slice (some ⟨lv.blk, o, none⟩) k vc, .slice (some ⟨l.blk, o', none⟩) lb cb]).run IP w = .ok (.value (.bool false)) w := by
  obtain ⟨k1, hk1, _, C, e1, fz, hC, _, _, hz, _⟩ := hi.live vb _ hv
  rw [hlv] at hk1; cases hk1
  rw [hz rfl (by simp)] at hC
  obtain ⟨D, e2, fz2, hD, hs2, hsz, _⟩ := hi.shape hb hl
  rw [if_neg hcs] at hsz
  rw [run_callFunc_extern ovl_fn (by kernel_rfl) (by kernel_rfl) (by kernel_rfl) (e := Extern.SlicesOverlaps.overlaps #[32, 32] #[4]) (by kernel_rfl),
    Lib.run_overlaps_apart w 32 4 61 i_t32 2 i_z61 ⟨lv.blk, o, none⟩ ⟨l.blk, o', none⟩ k vc lb cb (fun h => hi.apart b vb _ _ l lv hb hv hl hlv rfl hne h.symm) e1 e2 C.size D.size (by simp [World.shape?, hC]) hs2 (by omega) (by simp [World.frozen?, hC]) (by simp [World.frozen?, hC])]
  rfl

theorem ok_insert {l : List Value} {m m' : Mem} {v : Value} (h : aInsert l m = some (v, m')) {φ : Go.Fx.Ren} {w : World} {ARGS : Array Value} (hi : Inv φ m w) (ha : VRs φ l ARGS.toList) : Calls1 IP φ m w 124 ARGS v m' := by
  unfold aInsert at h
  split at h
  rotate_left
  · cases h
  rename_i b off n c i vb voff vc
  split at h
  rotate_left
  · cases h
  rename_i cs e hb
  split at h
  rotate_left
  · cases h
  rename_i vs e' hv
  split at h
  rotate_left
  · cases h
  rename_i hc
  cases h
  obtain ⟨h0, hin, hnc, hcl, rfl, hbig, hne, hvl, hone, honev⟩ := hc
  obtain ⟨A, B, C, rfl, hA, hB, hC⟩ := VRs.three ha
  obtain ⟨i, rfl⟩ := Int.eq_ofNat_of_zero_le h0
  have hin : i < n := by omega
  simp only [Int.ofNat_eq_natCast, Int.toNat_natCast]
  cases hB
  obtain ⟨lv, hlv, okv⟩ := hi.live vb _ hv
  obtain ⟨l, hl, ok⟩ := hi.live b _ hb
  have hlo := ok.1.1
  have hlov := okv.1.1
  have hbn : b < m.next := (hi.below b l hl).1
  have hvn : vb < m.next := (hi.below vb lv hlv).1
  cases hC with
  | sliceLoose _ _ _ _ _ _ _ k hk hko => rw [hlv] at hk; cases hk; rw [hlov] at hko; cases hko
  | sliceEx _ _ _ _ k hk hko =>
  rw [hlv] at hk; cases hk
  cases hA with
  | sliceEx _ _ _ _ k hk hko => rw [hl] at hk; cases hk; rw [hlo] at hko; cases hko
  | sliceZero => omega
  | sliceLoose _ _ _ _ off' cap' s k hk hko hoff hlen hcap hroom =>
  rw [hl] at hk; cases hk
  rw [hlo] at hko; cases hko
  have hoff' : off' = l.base + off := hoff (by omega)
  have hoA : off' + i * 2 = l.base + (off + i * 2) := by omega
  have hoB : off' + (i + 1) * 2 = l.base + off + (i + 1) * 2 := by omega
  have hd : Inv φ m w.drew := hi.drawn rfl
  have fd : Frm φ m w φ m w.drew := Frm.drawn rfl rfl rfl rfl
  obtain ⟨TL, hTL, rTL⟩ := hd.loadCells (P := IP) hb hl (off + i * 2) ((n - i) * 2) (by omega)
  have hTl : ((cs.drop (off + i * 2)).take ((n - i) * 2)).length = (n - i) * 2 := by rw [List.length_take, List.length_drop]; omega
  have hVl : ((vs.drop voff).take 2).length = 2 := by rw [List.length_take, List.length_drop]; omega
  have hov := i_overlaps hi hb hl hv hlv hne (by omega) (lv.base + voff) (off' + (i + 1) * 2) 1 vc
  have hmin1 : Nat.min (n + 1 - i) (n + 1 - (i + 1)) = n - i := by show min _ _ = _; omega
  have hmin2 : Nat.min 1 (n + 1 - i) = 1 := by show min _ _ = _; omega
  have hmin3 : Nat.min (n - i) (n + 1 - (i + 1)) = n - i := by show min _ _ = _; omega
  by_cases hfit : n + 1 ≤ cap'
  · obtain ⟨w1, φ1, hrun1, i1, f1, e1⟩ := hd.appendIn (P := IP) hb hl (off := off) (len := i + 1) (cap := c) (off' := off') (cap' := cap') (n := n - i) hoff (by omega) hroom (by omega) (by omega) rTL (i_all hone hin) hTl
    have hgv1 : ((m.kill b).add ⟨.cells ((cs.drop off).take ((i + 1) * 2) ++ (cs.drop (off + i * 2)).take ((n - i) * 2)) 61, false, some 2⟩).get vb = some ⟨.cells vs e', false, none⟩ := by
      rw [Mem.get_add, Mem.next_kill, if_neg (by omega), Mem.get_kill, if_neg (Ne.symm hne)]; exact hv
    obtain ⟨VL, hVL, rVL⟩ := i1.loadCells (P := IP) hgv1 (f1.ren _ _ hlv) voff 2 hvl
    have hgn1 : ((m.kill b).add ⟨.cells ((cs.drop off).take ((i + 1) * 2) ++ (cs.drop (off + i * 2)).take ((n - i) * 2)) 61, false, some 2⟩).get m.next = some ⟨.cells ((cs.drop off).take ((i + 1) * 2) ++ (cs.drop (off + i * 2)).take ((n - i) * 2)) 61, false, some 2⟩ := by
      rw [Mem.get_add, Mem.next_kill, if_pos rfl]
    obtain ⟨w2, hrun2, i2, f2⟩ := Inv.storeCells (P := IP) e1 (i * 2) ((vs.drop voff).take 2) VL 0 _ _ w1 i1 hgn1 rVL (fun v hv => List.all_eq_true.1 honev v hv) (by rw [hVl, List.length_append, hTl, List.length_take, List.length_drop]; omega)
    have hcall := ins_room l.blk off' n cap' i lv.blk (lv.base + voff) 1 vc w w1 w2 hin (by omega) hfit (by omega) hov
      (fun ty dc sc => by
        have := run_copy_n (P := IP) (dT := 32) (sT := 32) (ty := ty) (dCap := dc) (sCap := sc) (b := l.blk) (o := off' + (i + 1) * 2) (dLen := n + 1 - (i + 1)) (sLen := n + 1 - i) (a := ⟨l.blk, off' + i * 2, none⟩) i_t32 i_i61 (cs := TL) (by rw [hmin1, hoA]; exact hTL) hrun1
        rw [hmin1] at this; exact this)
      (fun ty dc => by
        have := run_copy_n (P := IP) (dT := 32) (sT := 32) (ty := ty) (dCap := dc) (sCap := vc) (b := l.blk) (o := off' + i * 2) (dLen := n + 1 - i) (sLen := 1) (a := ⟨lv.blk, lv.base + voff, none⟩) i_t32 i_i61 (cs := VL) (by rw [hmin2]; exact hVL) hrun2
        rw [hmin2] at this; exact this)
    refine Calls.mono hcall ?_
    rintro e w' ⟨rfl, rfl⟩
    have hg : ∀ d, ((m.kill b).add ⟨.cells ((cs.drop off).take (i * 2) ++ ((vs.drop voff).take 2 ++ (cs.drop (off + i * 2)).take ((n - i) * 2))) 61, false, some 2⟩).get d =
        (((m.kill b).add ⟨.cells ((cs.drop off).take ((i + 1) * 2) ++ (cs.drop (off + i * 2)).take ((n - i) * 2)) 61, false, some 2⟩).put m.next ⟨.cells (setRange ((cs.drop off).take ((i + 1) * 2) ++ (cs.drop (off + i * 2)).take ((n - i) * 2)) (i * 2 + 0) ((vs.drop voff).take 2)) 61, false, some 2⟩).get d := by
      intro d
      simp only [Nat.add_zero]
      rw [Mem.get_put, Mem.get_add, Mem.get_add, Mem.next_kill, i_cut cs off i n _ hVl hin hcl]
      by_cases hd : d = m.next
      · rw [if_pos hd, if_pos hd]
      · rw [if_neg hd, if_neg hd, if_neg hd]
    exact ⟨_, φ1, rfl, .sliceLoose m.next 0 (n + 1) (n + 1) off' cap' 2 ⟨l.blk, off', some 2, l.size⟩ e1 rfl (fun _ => rfl) (Nat.le_refl _) hfit hroom, Inv.ext hg rfl i2, Frm.ext hg rfl ((fd.trans f1).trans f2)⟩
  · obtain ⟨OL, hOL, rOL⟩ := hd.loadCells (P := IP) hb hl off (i * 2) (by omega)
    obtain ⟨i0, hi0, hz0, hzs, hzb⟩ := info_parts i_f61
    have hold : (Builtin.firstCells i0.size i (.slice (some ⟨l.blk, off', none⟩) i cap')).run IP w.drew = .ok OL.toArray w.drew := by
      rw [hzs, hoff']; simpa [Builtin.firstCells] using hOL
    have hik : i + (n + 1 - i) = n + 1 := by omega
    have hrz : ∀ ty, _ := fun ty => Lib.run_append_grow_zeros (P := IP) w 32 3 ty 61 i0 _ .i64 .i64 i_t32 i_t3 hi0 hz0 (some ⟨l.blk, off', none⟩) i cap' OL hold (n + 1 - i) (by omega) (by omega) (by omega) (by omega) (by rw [hzb]; omega) (by rw [hzb, hik]; exact growslice_fits (by omega) (by omega))
    rw [hik] at hrz
    have hG := grownCap_ge w (n + 1) cap' 61
    generalize grownCap w (n + 1) cap' 61 = G at hrz hG
    generalize hZ1 : Builtin.zeroCells (Value.agg #[Value.string { data := #[] }, Value.string { data := #[] }]).cells (n + 1 - i) = Z1 at hrz
    generalize hZ2 : Builtin.zeroCells (Value.agg #[Value.string { data := #[] }, Value.string { data := #[] }]).cells (G - (n + 1)) = Z2 at hrz
    have hZ1s : Z1.size = (n + 1 - i) * 2 := by rw [← hZ1]; simp [Builtin.zeroCells, Value.cells]
    have hZl : Z1.toList.length = (n + 1 - i) * 2 := by rw [Array.length_toList]; exact hZ1s
    have hZ2s : Z2.size = (G - (n + 1)) * 2 := by rw [← hZ2]; simp [Builtin.zeroCells, Value.cells]
    have hZp : VRs φ Z1.toList Z1.toList := by
      refine VRs.plain (List.all_eq_true.2 fun v hv => ?_)
      rw [← hZ1] at hv
      simp only [Builtin.zeroCells, Value.cells, Array.toList_map, List.mem_map] at hv
      obtain ⟨k, _, rfl⟩ := hv
      have : k % 2 = 0 ∨ k % 2 = 1 := by omega
      rcases this with h | h <;> simp [h, Fx.plain]
    have hOl : OL.length = i * 2 := by rw [← rOL.1, List.length_take, List.length_drop]; omega
    obtain ⟨φ1, i1, f1, e1⟩ := hd.allocLoose (c := (cs.drop off).take (i * 2) ++ Z1.toList) (C := OL ++ Z1.toList) Z2.toList 61 2 (rOL.append hZp)
    have harr : OL.toArray ++ Z1 ++ Z2 = (OL ++ Z1.toList ++ Z2.toList).toArray := by apply Array.toList_inj.1; simp
    rw [harr] at hrz
    have hlen : (OL ++ Z1.toList ++ Z2.toList).length = G * 2 := by
      simp only [List.length_append, Array.length_toList, hOl, hZ1s, hZ2s]; omega
    rw [hlen] at e1
    have e1' : φ1 m.next = some ⟨w.heap.size, 0, some 2, G * 2⟩ := e1
    generalize hw1 : ({ w.drew with heap := w.drew.heap.push (.cells (OL ++ Z1.toList ++ Z2.toList).toArray 61) } : World) = w1 at i1 f1
    have hrz' : ∀ ty, (Builtin.append_ #[32, 3] ty #[.slice (some ⟨l.blk, off', none⟩) i cap', .int .i64 ((n : Int) + ((1 : Nat) : Int) - (i : Int))]).run IP w = .ok (.slice (some ⟨w.heap.size, 0, none⟩) (n + 1) G) w1 := fun ty => by
      have h1 : (n : Int) + ((1 : Nat) : Int) - (i : Int) = ((n + 1 - i : Nat) : Int) := by omega
      rw [h1, ← hw1]
      exact hrz ty
    have hgv1 : (m.add ⟨.cells ((cs.drop off).take (i * 2) ++ Z1.toList) 61, false, some 2⟩).get vb = some ⟨.cells vs e', false, none⟩ := by rw [Mem.get_add_other _ _ hvn]; exact hv
    obtain ⟨VL, hVL, rVL⟩ := i1.loadCells (P := IP) hgv1 (f1.ren _ _ hlv) voff 2 hvl
    obtain ⟨w2, hrun2, i2, f2⟩ := Inv.storeCells (P := IP) e1' (i * 2) ((vs.drop voff).take 2) VL 0 _ _ w1 i1 (Mem.get_add_self ..) rVL (fun v hv => List.all_eq_true.1 honev v hv) (by rw [hVl, List.length_append, hZl, List.length_take, List.length_drop]; omega)
    rw [Nat.add_zero] at i2 f2
    simp only [Nat.zero_add] at hrun2
    generalize hc2 : setRange ((cs.drop off).take (i * 2) ++ Z1.toList) (i * 2) ((vs.drop voff).take 2) = c2 at i2 f2
    have hc2l : c2.length = (n + 1) * 2 := by
      rw [← hc2, length_setRange, List.length_append, hZl, List.length_take, List.length_drop]; omega
    have d2 : Inv φ1 ((m.add ⟨.cells ((cs.drop off).take (i * 2) ++ Z1.toList) 61, false, some 2⟩).put m.next ⟨.cells c2 61, false, some 2⟩) w2.drew := i2.drawn rfl
    have fd2 : Frm φ1 ((m.add ⟨.cells ((cs.drop off).take (i * 2) ++ Z1.toList) 61, false, some 2⟩).put m.next ⟨.cells c2 61, false, some 2⟩) w2 φ1 ((m.add ⟨.cells ((cs.drop off).take (i * 2) ++ Z1.toList) 61, false, some 2⟩).put m.next ⟨.cells c2 61, false, some 2⟩) w2.drew := Frm.drawn rfl rfl rfl rfl
    have hgb2 : ((m.add ⟨.cells ((cs.drop off).take (i * 2) ++ Z1.toList) 61, false, some 2⟩).put m.next ⟨.cells c2 61, false, some 2⟩).get b = some ⟨.cells cs 61, false, some 2⟩ := by
      rw [Mem.get_put, if_neg (by omega), Mem.get_add_other _ _ hbn]; exact hb
    obtain ⟨TL2, hTL2, rTL2⟩ := d2.loadCells (P := IP) hgb2 (f1.ren _ _ hl) (off + i * 2) ((n - i) * 2) (by omega)
    obtain ⟨w3, hrun3, i3, f3⟩ := Inv.storeCells (P := IP) e1' ((i + 1) * 2) ((cs.drop (off + i * 2)).take ((n - i) * 2)) TL2 0 _ _ w2.drew d2 (Mem.get_put_self ..) rTL2 (i_all hone hin) (by rw [hc2l, hTl]; omega)
    rw [Nat.add_zero] at i3 f3
    simp only [Nat.zero_add] at hrun3
    have hcall := ins_grow l.blk off' n cap' i lv.blk (lv.base + voff) 1 vc w.heap.size G w w1 w2 w3 hin (by omega) (by omega) (by omega) (by omega) hG hrz'
      (fun ty dc => by
        have := run_copy_n (P := IP) (dT := 32) (sT := 32) (ty := ty) (dCap := dc) (sCap := vc) (b := w.heap.size) (o := i * 2) (dLen := n + 1 - i) (sLen := 1) (a := ⟨lv.blk, lv.base + voff, none⟩) i_t32 i_i61 (cs := VL) (by rw [hmin2]; exact hVL) hrun2
        rw [hmin2] at this; exact this)
      (fun ty dc sc => by
        have := run_copy_n (P := IP) (dT := 32) (sT := 32) (ty := ty) (dCap := dc) (sCap := sc) (b := w.heap.size) (o := (i + 1) * 2) (dLen := n + 1 - (i + 1)) (sLen := n - i) (a := ⟨l.blk, off' + i * 2, none⟩) i_t32 i_i61 (cs := TL2) (by rw [hmin3, hoA]; exact hTL2) hrun3
        rw [hmin3] at this; exact this)
    refine Calls.mono hcall ?_
    rintro e w' ⟨rfl, rfl⟩
    obtain ⟨i4, f4⟩ := i3.kill b
    have hfin : setRange c2 ((i + 1) * 2) ((cs.drop (off + i * 2)).take ((n - i) * 2)) = (cs.drop off).take (i * 2) ++ ((vs.drop voff).take 2 ++ (cs.drop (off + i * 2)).take ((n - i) * 2)) := by
      have hl1 : ((cs.drop off).take (i * 2)).length = i * 2 := by rw [List.length_take, List.length_drop]; omega
      have h1 := setRange_append ((cs.drop off).take (i * 2)) (Z1.toList.take 2) (Z1.toList.drop 2) ((vs.drop voff).take 2) (by rw [hVl, List.length_take, hZl]; omega)
      rw [List.take_append_drop, hl1, hc2] at h1
      have h2 := setRange_append ((cs.drop off).take (i * 2) ++ (vs.drop voff).take 2) (Z1.toList.drop 2) [] ((cs.drop (off + i * 2)).take ((n - i) * 2)) (by rw [hTl, List.length_drop, hZl]; omega)
      rw [List.append_nil, List.append_nil, List.length_append, hl1, hVl, show i * 2 + 2 = (i + 1) * 2 by omega, List.append_assoc, List.append_assoc] at h2
      rw [h1, h2]
    have hg : ∀ d, ((m.kill b).add ⟨.cells ((cs.drop off).take (i * 2) ++ ((vs.drop voff).take 2 ++ (cs.drop (off + i * 2)).take ((n - i) * 2))) 61, false, some 2⟩).get d =
        ((((m.add ⟨.cells ((cs.drop off).take (i * 2) ++ Z1.toList) 61, false, some 2⟩).put m.next ⟨.cells c2 61, false, some 2⟩).put m.next ⟨.cells (setRange c2 ((i + 1) * 2) ((cs.drop (off + i * 2)).take ((n - i) * 2))) 61, false, some 2⟩).kill b).get d := by
      intro d
      rw [Mem.get_kill, Mem.get_put, Mem.get_put, Mem.get_add, Mem.get_add, Mem.get_kill, Mem.next_kill, hfin]
      by_cases hd : d = m.next
      · rw [if_pos hd, if_neg (by omega), if_pos hd]
      · rw [if_neg hd, if_neg hd, if_neg hd, if_neg hd]
    exact ⟨_, φ1, rfl, .sliceLoose m.next 0 (n + 1) (n + 1) 0 G 2 ⟨w.heap.size, 0, some 2, G * 2⟩ e1' rfl (fun _ => rfl) (Nat.le_refl _) hG (by simp), Inv.ext hg rfl i4, Frm.ext hg rfl ((((fd.trans f1).trans f2).trans fd2).trans (f3.trans f4))⟩
end
end Go.Fx.Tryz
