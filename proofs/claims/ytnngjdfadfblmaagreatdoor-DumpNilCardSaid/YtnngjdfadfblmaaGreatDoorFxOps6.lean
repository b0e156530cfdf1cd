/- Slices with a bound on their room, cleared cells, made slices. -/
import Derived.Test.YtnngjdfadfblmaaGreatDoorFxRes
namespace Go.Fx
open Go
set_option linter.unusedSimpArgs false
set_option linter.unusedVariables false

theorem boundV_ok {φ : Ren} {x X : Option Value} {dflt most k : Nat} (hx : ORel φ x X) (h : boundV x dflt most = some k) : (x = none ∧ X = none ∧ k = dflt) ∨ ∃ kd n, x = some (.int kd n) ∧ X = some (.int kd n) ∧ 0 ≤ n ∧ n ≤ most ∧ k = n.toNat := by
  unfold boundV at h
  split at h
  · cases X with
    | none => cases h; exact .inl ⟨rfl, rfl, rfl⟩
    | some _ => exact hx.elim
  · split at h
    · rename_i hn
      cases h
      cases X with
      | none => exact hx.elim
      | some V =>
        simp only [ORel] at hx
        cases hx
        exact .inr ⟨_, _, rfl, rfl, hn.1, hn.2, rfl⟩
    · cases h
  · cases h

theorem run_sliceBounds3 {P : Program} {φ : Ren} {w : World} {len cap cap' : Nat} {lo LO : Option Value} {h H : Value} {kd : IntKind} {k : Int} {l r : Nat} (hlo : ORel φ lo LO) (hh : VR φ h H) (hb : boundsV len k.toNat lo (some h) = some (l, r)) (hk : 0 ≤ k ∧ k ≤ cap) (hc : cap ≤ cap') :
    (Instr.sliceBounds true len cap' LO (some H) (some (.int kd k))).run P w = .ok (l, r, k.toNat) w := by
  simp only [boundsV, Option.bind_eq_some_iff, Option.map_eq_some_iff, Prod.mk.injEq] at hb
  obtain ⟨h1, hh1, l1, hl, rfl, rfl⟩ := hb
  rcases boundV_ok (φ := φ) (x := some h) (X := some H) hh hh1 with ⟨h0, _⟩ | ⟨kd1, n1, e1, e2, g1, g2, rfl⟩
  · cases h0
  · cases e2
    have b1 := run_sliceBound (P := P) (w := w) (k := kd) (n := k) (y := cap) (y' := cap') .slice3Acap ⟨hk.1, hk.2⟩ hc
    have b2 := run_sliceBound (P := P) (w := w) (k := kd1) (n := n1) (y := k.toNat) (y' := k.toNat) .slice3B ⟨g1, g2⟩ (Nat.le_refl _)
    rcases boundV_ok hlo hl with ⟨_, rfl, rfl⟩ | ⟨kd2, n2, _, rfl, g3, g4, rfl⟩
    · simp only [Instr.sliceBounds, Sem.run_bind, Sem.run_pure, Result.andThen_ok, if_true, b1, b2]
    · have b3 := run_sliceBound (P := P) (w := w) (k := kd2) (n := n2) (y := n1.toNat) (y' := n1.toNat) .slice3C ⟨g3, g4⟩ (Nat.le_refl _)
      simp only [Instr.sliceBounds, Sem.run_bind, Sem.run_pure, Result.andThen_ok, if_true, b1, b2, Option.isSome_some, b3]

theorem sound_slice3 {P : Program} {φ : Ren} {m : Mem} {w : World} (hi : Inv φ m w) {t e : TypeId} {i : TypeInfo} {v V u mx MX : Value} {lo hi' LO HI : Option Value} (ht : P.underlying t = some (.slice e)) (hti : P.info? e = some i) (hv : VR φ v V) (hlo : ORel φ lo LO) (hhi : ORel φ hi' HI) (hmx : VR φ mx MX)
    (h : runSlice3 i.size v lo hi' mx m = some u) : ∃ U, (Instr.sliceAt t V LO HI (some MX)).run P w = .ok U w ∧ VR φ u U := by
  unfold runSlice3 at h
  split at h
  · rename_i b off len cap hv' kd k
    cases HI with
    | none => exact hhi.elim
    | some H =>
    simp only [ORel] at hhi
    cases hmx
    split at h
    · rename_i hk0
      obtain ⟨hk1, hk2, hlc⟩ := hk0
      simp only [Option.bind_eq_some_iff] at h
      obtain ⟨⟨l, r⟩, hb, h⟩ := h
      split at h
      · rename_i hk
        cases h
        have hle : l ≤ r ∧ r ≤ k.toNat := by
          simp only [boundsV, Option.bind_eq_some_iff, Option.map_eq_some_iff, Prod.mk.injEq] at hb
          obtain ⟨h1, hh1, l1, hl, rfl, rfl⟩ := hb
          rcases boundV_ok (φ := φ) (x := some hv') (X := some H) hhi hh1 with ⟨h0, _⟩ | ⟨kd1, n1, e1, e2, g1, g2, rfl⟩
          · cases h0
          · rcases boundV_ok hlo hl with ⟨_, _, rfl⟩ | ⟨kd2, n2, _, _, g3, g4, rfl⟩ <;> omega
        cases hv with
        | sliceEx _ _ _ _ q hl hlo' =>
          refine ⟨.slice (some ⟨q.blk, q.base + (if k.toNat = l then off else off + l * i.size), none⟩) (r - l) (k.toNat - l), ?_, .sliceEx _ _ _ _ q hl hlo'⟩
          simp only [Instr.sliceAt, Sem.run_bind, run_und ht, Result.andThen_ok, Instr.slice, run_sliceBounds3 hlo hhi hb ⟨hk1, hk2⟩ (Nat.le_refl _), run_size hti, Sem.run_pure]
          by_cases hc : k.toNat = l
          · simp [hc]
          · simp [hc, add_mk, Nat.add_assoc]
        | sliceZero _ _ A =>
          obtain rfl : k = 0 := by omega
          have hl0 : l = 0 := by have := hle; simp at this; omega
          have hr0 : r = 0 := by have := hle; simp at this; omega
          subst hl0; subst hr0
          refine ⟨.slice (some A) 0 0, ?_, .sliceZero _ _ A⟩
          simp only [Instr.sliceAt, Sem.run_bind, run_und ht, Result.andThen_ok, Instr.slice, run_sliceBounds3 hlo hhi hb ⟨hk1, hk2⟩ (Nat.le_refl _), run_size hti, Sem.run_pure]
          simp
        | sliceLoose _ _ _ _ off' cap' s q hl hlo' hoff hlen hcap hroom =>
          refine ⟨.slice (some ⟨q.blk, if k.toNat = l then off' else off' + l * i.size, none⟩) (r - l) (k.toNat - l), ?_, .sliceLoose _ _ _ _ _ _ s q hl hlo' ?_ (by omega) (Nat.le_refl _) ?_⟩
          · simp only [Instr.sliceAt, Sem.run_bind, run_und ht, Result.andThen_ok, Instr.slice, run_sliceBounds3 hlo hhi hb ⟨hk1, hk2⟩ hcap, run_size hti, Sem.run_pure]
            by_cases hc : k.toNat = l
            · simp [hc]
            · simp [hc, add_mk]
          · intro hne
            have hne' : k.toNat - l ≠ 0 := hne
            show (if k.toNat = l then off' else off' + l * i.size) = q.base + (if k.toNat = l then off else off + l * i.size)
            rw [if_neg (show ¬ k.toNat = l by omega), if_neg (show ¬ k.toNat = l by omega), hoff (by omega)]; omega
          · have hkm : k.toNat * s ≤ cap' * s := Nat.mul_le_mul_right _ (by omega)
            by_cases hc : k.toNat = l
            · rw [if_pos hc, hc, Nat.sub_self, Nat.zero_mul]; omega
            · rw [if_neg hc]
              rcases hk with hk | hk | hk
              · have hk' : l = 0 := hk
                subst hk'; simp; omega
              · have := hi.known_exact hl hk
                rw [hlo'] at this; cases this
              · have := hi.known_loose hl hk
                rw [hlo'] at this; cases this
                have : l * i.size + (k.toNat - l) * i.size = k.toNat * i.size := by rw [← Nat.add_mul]; congr 1; omega
                omega
      · cases h
    · cases h
  · cases h

theorem replicate_flatten_eq (z : Array Value) (s len : Nat) (hs : z.size = s) : ((Array.range (len * s)).map (z[· % z.size]!)).toList = (List.replicate len z.toList).flatten := by
  subst hs
  apply List.ext_getElem?
  intro i
  by_cases hi : i < len * z.size
  · have hz : 0 < z.size := by
      rcases Nat.eq_zero_or_pos z.size with h | h
      · rw [h] at hi; simp at hi
      · exact h
    have h1 : (((Array.range (len * z.size)).map (z[· % z.size]!)).toList)[i]? = some (z[i % z.size]!) := by
      simp [hi]
    rw [h1]
    have hm : i % z.size < z.size := Nat.mod_lt _ hz
    have key : ∀ (n i : Nat), i < n * z.size → ((List.replicate n z.toList).flatten)[i]? = some (z[i % z.size]!) := by
      intro n
      induction n with
      | zero => intro i h; simp at h
      | succ n ih =>
        intro i h
        rw [List.replicate_succ, List.flatten_cons]
        by_cases h2 : i < z.size
        · rw [List.getElem?_append_left (by simpa using h2)]
          rw [Nat.mod_eq_of_lt h2]
          simp [h2]
        · rw [List.getElem?_append_right (by simp; omega)]
          rw [Nat.add_mul] at h
          rw [show z.toList.length = z.size by simp, ih (i - z.size) (by omega)]
          congr 2
          exact (Nat.mod_eq_sub_mod (by omega)).symm
    rw [key len i hi]
  · rw [List.getElem?_eq_none (by simp; omega), List.getElem?_eq_none]
    simp [List.length_flatten]
    omega

theorem all_replicate {p : Value → Bool} {l : List Value} (n : Nat) (h : l.all p = true) : (List.replicate n l).flatten.all p = true := by
  rw [List.all_eq_true] at h ⊢
  intro v hv
  simp only [List.mem_flatten, List.mem_replicate] at hv
  obtain ⟨k, ⟨_, rfl⟩, hv⟩ := hv
  exact h v hv

theorem sound_clear {P : Program} {φ : Ren} {m m' : Mem} {w : World} (hi : Inv φ m w) {t e ty : TypeId} {i : TypeInfo} {z : Value} (ht : P.underlying t = some (.slice e)) (hti : P.info? e = some i) (hz : i.zero = some z) (hp : z.cells.toList.all plain = true) {v V : Value} (hv : VR φ v V) (h : runClear z.cells.toList v m = some m') :
    ∃ w' U, (Builtin.clear_ #[t] ty #[V]).run P w = .ok U w' ∧ VR φ undef U ∧ Inv φ m' w' ∧ Frm φ m w φ m' w' := by
  unfold runClear at h
  split at h
  · cases h
    cases hv
    exact ⟨w, _, by simp [Builtin.clear_, run_und ht]; rfl, VR.undef φ, hi, Frm.refl φ m w⟩
  · rename_i b off len cap
    split at h
    · rename_i h0
      cases h
      subst h0
      refine ⟨w, undef, ?_, VR.undef φ, hi, Frm.refl φ m w⟩
      cases hv <;> (simp [Builtin.clear_, run_und ht]; rfl)
    · rename_i h0
      simp only [Option.bind_eq_some_iff] at h
      obtain ⟨⟨c, e', lo⟩, hq, h⟩ := h
      have hg := Mem.ownAt_get hq
      split at h
      · rename_i hh
        cases h
        obtain ⟨h1, h2, h3⟩ := hh
        simp only [Array.length_toList] at h1
        have hzc : (Builtin.zeroCells z.cells len).toList = (List.replicate len z.cells.toList).flatten := replicate_flatten_eq z.cells z.cells.size len rfl
        have hl2 : (List.replicate len z.cells.toList).flatten.length = len * z.cells.size := by simp [List.length_flatten]
        have run : ∀ (a : Addr) (C : Nat) (w' : World), (Go.storeCells a (List.replicate len z.cells.toList).flatten).run P w = .ok () w' → (Builtin.clear_ #[t] ty #[.slice (some a) len C]).run P w = .ok undef w' := by
          intro a C w' hrun
          cases len with
          | zero => exact absurd rfl h0
          | succ n =>
            simp only [Builtin.clear_, Sem.run_bind, run_und ht, Result.andThen_ok, Sem.run_pure, List.getElem?_toArray, List.getElem?_cons_zero, run_zero hti hz, hzc, hrun]
            rfl
        cases hv with
        | sliceEx _ _ _ _ l hl hlo =>
          obtain ⟨w', hrun, h5, h6⟩ := Inv.storeCells (P := P) hl off _ _ 0 c m w hi hg (VRs.plain (all_replicate len hp)) (fun v hv => List.all_eq_true.1 (all_replicate len h3) v hv) (by omega)
          exact ⟨w', undef, run _ _ w' hrun, VR.undef φ, h5, h6⟩
        | sliceZero _ _ A => exact absurd rfl h0
        | sliceLoose _ _ _ _ off' cap' s l hl hlo hoff hlen' hcap hroom =>
          have : off' = l.base + off := hoff h2
          subst this
          obtain ⟨w', hrun, h5, h6⟩ := Inv.storeCells (P := P) hl off _ _ 0 c m w hi hg (VRs.plain (all_replicate len hp)) (fun v hv => List.all_eq_true.1 (all_replicate len h3) v hv) (by omega)
          exact ⟨w', undef, run _ _ w' hrun, VR.undef φ, h5, h6⟩
      · cases h
  · cases h

theorem wrap_small {n : Int} (h0 : 0 ≤ n) (h : n ≤ 2 ^ 47) : IntKind.i64.wrap n = n := by
  have e : n % (2 ^ IntKind.i64.bits : Int) = n := Int.emod_eq_of_lt h0 (by simp only [IntKind.bits]; omega)
  unfold IntKind.wrap
  simp only [e]
  have : ¬ (n ≥ (2 ^ (IntKind.i64.bits - 1) : Int)) := by simp only [IntKind.bits]; omega
  simp [IntKind.signed, this]

theorem sound_makeS {P : Program} {φ : Ren} {m m' : Mem} {w : World} (hi : Inv φ m w) {t e : TypeId} {i : TypeInfo} {z : Value} (ht : P.underlying t = some (.slice e)) (hti : P.info? e = some i) (hz : i.zero = some z) (hp : z.cells.toList.all plain = true) (hs : z.cells.size = i.size) {n N c C u : Value} (hn : VR φ n N) (hc : VR φ c C)
    (h : runMakeS e i.bytes z.cells.toList n c m = some (u, m')) :
    ∃ V w' φ', (Instr.makeSlice t N C).run P w = .ok V w' ∧ VR φ' u V ∧ Inv φ' m' w' ∧ Frm φ m w φ' m' w' := by
  unfold runMakeS at h
  split at h
  · rename_i k1 n k2 c
    split at h
    · rename_i hh
      obtain ⟨g1, g2, g3, g4⟩ := hh
      cases h
      cases hn; cases hc
      obtain ⟨φ', h1, h2, h3⟩ := hi.allocCells e (VRs.plain (φ := φ) (all_replicate c.toNat hp))
      refine ⟨.slice (some ⟨w.heap.size, 0, none⟩) n.toNat c.toNat, _, φ', ?_, .sliceEx m.next 0 n.toNat c.toNat ⟨w.heap.size, 0, none, 0⟩ h3 rfl, h1, h2⟩
      have hwn := wrap_small g1 (by omega)
      have hwc := wrap_small (n := c) (by omega) g3
      have hrep := replicate_flatten_eq z.cells i.size c.toNat hs
      have hrep' : (Array.range (c.toNat * i.size)).map (z.cells[· % z.cells.size]!) = (List.replicate c.toNat z.cells.toList).flatten.toArray := by
        apply Array.toList_inj.1; rw [hrep]
      have hnc : ¬ (c < n) := by omega
      have hc0 : ¬ (c < 0) := by omega
      have hb : ¬ (2 ^ 48 < (i.bytes : Int) * c) := by omega
      simp only [Instr.makeSlice, Sem.run_bind, run_und ht, Result.andThen_ok, asInt, asIntOf, Sem.run_pure, run_tinfo hti, hwn, hwc, run_size hti]
      have hcond : (decide (c < 0) || decide ((i.bytes : Int) * c > 2 ^ 48) || decide (n < 0) || decide (n > c)) = false := by
        simp only [Bool.or_eq_false_iff, decide_eq_false_iff_not]
        omega
      rw [hcond]
      simp only [Bool.false_eq_true, if_false, Sem.run_bind, Sem.run_pure, Result.andThen_ok, run_askRoom, run_size hti, Sem.run_ite]
      by_cases h0 : c.toNat * i.size = 0
      · rw [if_pos h0]
        have e0 : (Array.range (c.toNat * i.size)).map ((#[] : Array Value)[· % (#[] : Array Value).size]!) = (Array.range (c.toNat * i.size)).map (z.cells[· % z.cells.size]!) := by rw [h0]; simp
        rw [e0, hrep']
        simp [newRow]
      · rw [if_neg h0]
        simp only [run_zero hti hz, Result.andThen_ok]
        rw [hrep']
        simp [newRow]
    · cases h
  · cases h

end Go.Fx
