/- Appends and copies; numbers' least and greatest; parts of tuples. -/
import Derived.Test.YtnngjdfadfblmaaGreatDoorFxOps4
namespace Go.Fx
open Go
set_option linter.unusedSimpArgs false
set_option linter.unusedVariables false

def runAppend (e : TypeId) (size eb : Nat) (v : Value) (n : Nat) (nc : List Value) (m : Mem) : Option (Value × Mem) :=
  match v with
  | .slice a len cap =>
    if ¬ ((len + n) * eb ≤ 2 ^ 47 ∧ (len + n) ≤ 2 ^ 47 ∧ nc.length = n * size ∧ nc.all (·.oneCell') = true) then none
    else if len + n ≤ cap then
      match a with
      | none => if len + n = 0 ∧ cap = 0 then some (.slice none 0 0, m) else none
      | some ⟨b, off, none⟩ =>
        if n * size = 0 then some (.slice (some ⟨b, off, none⟩) (len + n) cap, m)
        else (m.ownAt b).bind fun q =>
          if off + (len + n) * size ≤ q.1.length ∧ cap ≠ 0 then some (.slice (some ⟨b, off, none⟩) (len + n) cap, m.put b ⟨.cells (setRange q.1 (off + len * size) nc) q.2.1, false, q.2.2⟩) else none
      | _ => none
    else
      match a with
      | none => if len = 0 ∧ cap = 0 then some (.slice (some ⟨m.next, 0, none⟩) n n, m.add ⟨.cells nc e, false, some size⟩) else none
      | some ⟨b, off, none⟩ =>
        match m.get b with
        | some ⟨.cells c _, _, none⟩ =>
          if off + len * size ≤ c.length then some (.slice (some ⟨m.next, 0, none⟩) (len + n) (len + n), m.add ⟨.cells ((c.drop off).take (len * size) ++ nc) e, false, some size⟩) else none
        | some ⟨.cells c e', false, some s⟩ =>
          if s = size ∧ e' = e ∧ len ≤ cap ∧ off + len * size ≤ c.length then some (.slice (some ⟨m.next, 0, none⟩) (len + n) (len + n), (m.kill b).add ⟨.cells ((c.drop off).take (len * size) ++ nc) e, false, some size⟩) else none
        | _ => none
      | _ => none
  | _ => none

theorem growBy_le (need : Nat) (h : 257 ≤ need) : ∀ (r c : Nat), c ≤ 2 * need → Builtin.growBy need r c ≤ 2 * need := by
  intro r
  induction r with
  | zero => intro c h; exact h
  | succ r ih =>
    intro c hc
    simp only [Builtin.growBy]
    split
    · exact hc
    · rename_i hlt
      refine ih _ ?_
      have : c < need := by omega
      have : (c + 768) / 4 ≤ (need + 768) / 4 := Nat.div_le_div_right (by omega)
      omega

theorem nextslicecap_le (need old : Nat) (h : old < need) : Builtin.nextslicecap need old ≤ 2 * need := by
  unfold Builtin.nextslicecap
  split
  · omega
  · split
    · omega
    · exact growBy_le need (by omega) 4 old (by omega)

theorem zeroCells_nil (z : Array Value) : Builtin.zeroCells z 0 = #[] := by simp [Builtin.zeroCells]

/-- What the argument's type of an append must be: a slice's or a text's. -/
def srcT (P : Program) (t : TypeId) : Bool :=
  match P.underlying t with
  | some (.slice _) | some .string => true
  | _ => false

/-- The append's run once it is known that a new row is made. -/
theorem run_append_grow {P : Program} {φ : Ren} {m : Mem} {w : World} (hi : Inv φ m w) {ts tx e ty : TypeId} {i : TypeInfo} {z : Value} {size : Nat} {base : Option Addr} {len CAP n : Nat} {X : Value} {old nc : List Value}
    (ht : P.underlying ts = some (.slice e)) (hti : P.info? e = some i) (hsz : i.size = size) (hz : i.zero = some z) (hx : srcT P tx = true) (hlen : (Builtin.lenOf X).run P w = .ok n w)
    (hnew : ∀ w', Inv φ m w' → ∃ NC, (Builtin.firstCells size n X).run P w' = .ok NC.toArray w' ∧ VRs φ nc NC)
    (hold : ∀ w', Inv φ m w' → ∃ OC, (Builtin.firstCells size len (.slice base len CAP)).run P w' = .ok OC.toArray w' ∧ VRs φ old OC)
    (hneed : ¬ len + n ≤ CAP) (hb : (len + n) * i.bytes ≤ 2 ^ 47) (hb' : len + n ≤ 2 ^ 47) (hol : old.length = len * size) (hnl : nc.length = n * size) (hzs : z.cells.size = size) :
    ∃ w' φ' cap', (Builtin.append_ #[ts, tx] ty #[.slice base len CAP, X]).run P w = .ok (.slice (some ⟨w.heap.size, 0, none⟩) (len + n) cap') w' ∧ len + n ≤ cap' ∧ φ' m.next = some ⟨w.heap.size, 0, some size, cap' * size⟩ ∧
      Inv φ' (m.add ⟨.cells (old ++ nc) e, false, some size⟩) w' ∧ Frm φ m w φ' (m.add ⟨.cells (old ++ nc) e, false, some size⟩) w' := by
  have hd : (∃ e2, P.underlying tx = some (.slice e2)) ∨ P.underlying tx = some .string := by
    unfold srcT at hx
    cases hd : P.underlying tx with
    | none => rw [hd] at hx; cases hx
    | some d => rw [hd] at hx; cases d <;> simp at hx ⊢
  have hfor : (Question.appendCap (len + n) CAP e).forced = false := rfl
  have hcut : len + n ≤ (Question.appendCap (len + n) CAP e).cut (w.tape w.drawn (.appendCap (len + n) CAP e)) := by simp [Question.cut]
  generalize hcap : (Question.appendCap (len + n) CAP e).cut (w.tape w.drawn (.appendCap (len + n) CAP e)) = cap' at hcut
  have hi1 : Inv φ m { w with drawn := w.drawn + 1 } := hi.drawn rfl
  obtain ⟨OC, hO, rO⟩ := hold _ hi1
  obtain ⟨NC, hN, rN⟩ := hnew _ hi1
  have hOl : OC.length = len * size := by rw [← rO.1]; exact hol
  have hNl : NC.length = n * size := by rw [← rN.1]; exact hnl
  generalize hR : Builtin.zeroCells z.cells (cap' - (len + n)) = R
  have hRl : R.size = (cap' - (len + n)) * size := by rw [← hR]; simp [Builtin.zeroCells, hzs]
  obtain ⟨φ', h1, h2, h3⟩ := hi1.allocLoose (c := old ++ nc) (C := OC ++ NC) R.toList e size (rO.append rN)
  have hlen2 : (OC ++ NC ++ R.toList).length = cap' * size := by
    simp only [List.length_append, hOl, hNl, Array.length_toList, hRl]
    rw [← Nat.add_mul, ← Nat.add_mul]; congr 1; omega
  rw [hlen2] at h3
  refine ⟨_, φ', cap', ?_, hcut, h3, h1, (Frm.drawn (φ := φ) (m := m) (w := w) (w' := { w with drawn := w.drawn + 1 }) rfl rfl rfl rfl).trans h2⟩
  have hnc := nextslicecap_le (len + n) CAP (by omega)
  have hroom : ¬ (Builtin.nextslicecap (len + n) CAP * i.bytes > 2 ^ 48) := by
    have : Builtin.nextslicecap (len + n) CAP * i.bytes ≤ 2 * (len + n) * i.bytes := Nat.mul_le_mul_right _ hnc
    rw [Nat.mul_assoc] at this
    omega
  have hmax : ¬ (((len + n : Nat) : Int) > IntKind.i64.max) := by
    have : IntKind.i64.max = 9223372036854775807 := by decide
    rw [this]
    omega
  have hA : OC.toArray ++ NC.toArray ++ R = (OC ++ NC ++ R.toList).toArray := by apply Array.toList_inj.1; simp
  rcases hd with ⟨e2, hd⟩ | hd
  · simp only [Builtin.append_, Sem.run_bind, run_und ht, run_size hti, hsz, run_und hd, Result.andThen_ok, Sem.run_pure, List.getElem?_toArray, List.getElem?_cons_zero, List.getElem?_cons_succ, Bool.false_eq_true, if_false, hlen,
      if_neg hneed, Sem.run_ite, run_tinfo hti, if_neg hroom, run_zero hti hz, Bool.not_false, if_true]
    rw [if_neg (fun h => hmax h.1)]
    simp only [run_choose, hfor, hcap, Bool.false_eq_true, if_false, Result.andThen_ok, run_askRoom, hO, hN, newRow, Sem.run_bind, Sem.run_pure, run_newObj, hR, hA]
  · simp only [Builtin.append_, Sem.run_bind, run_und ht, run_size hti, hsz, run_und hd, Result.andThen_ok, Sem.run_pure, List.getElem?_toArray, List.getElem?_cons_zero, List.getElem?_cons_succ, Bool.false_eq_true, if_false, hlen,
      if_neg hneed, Sem.run_ite, run_tinfo hti, if_neg hroom, run_zero hti hz, Bool.not_false, if_true]
    rw [if_neg (fun h => hmax h.1)]
    simp only [run_choose, hfor, hcap, Bool.false_eq_true, if_false, Result.andThen_ok, run_askRoom, hO, hN, newRow, Sem.run_bind, Sem.run_pure, run_newObj, hR, hA]

theorem run_append_in {P : Program} {w w' : World} {ts tx e ty : TypeId} {i : TypeInfo} {base : Option Addr} {len CAP n : Nat} {X : Value} {NC : List Value}
    (ht : P.underlying ts = some (.slice e)) (hti : P.info? e = some i) (hx : srcT P tx = true) (hlen : (Builtin.lenOf X).run P w = .ok n w)
    (hnew : (Builtin.firstCells i.size n X).run P w = .ok NC.toArray w) (hneed : len + n ≤ CAP)
    (hst : ∀ a, base = some a → (Go.storeCells (a.add (len * i.size)) NC).run P w = .ok () w') (hno : base = none → w' = w) :
    (Builtin.append_ #[ts, tx] ty #[.slice base len CAP, X]).run P w = .ok (.slice base (len + n) CAP) w' := by
  have hd : (∃ e2, P.underlying tx = some (.slice e2)) ∨ P.underlying tx = some .string := by
    unfold srcT at hx
    cases hd : P.underlying tx with
    | none => rw [hd] at hx; cases hx
    | some d => rw [hd] at hx; cases d <;> simp at hx ⊢
  rcases hd with ⟨e2, hd⟩ | hd
  · simp only [Builtin.append_, Sem.run_bind, run_und ht, run_size hti, run_und hd, Result.andThen_ok, Sem.run_pure, List.getElem?_toArray, List.getElem?_cons_zero, List.getElem?_cons_succ, Bool.false_eq_true, if_false, hlen,
      if_pos hneed, Sem.run_ite, Bool.not_false, if_true, hnew]
    cases base with
    | none => simp [hno rfl]
    | some a => have := hst a rfl; simp [this]
  · simp only [Builtin.append_, Sem.run_bind, run_und ht, run_size hti, run_und hd, Result.andThen_ok, Sem.run_pure, List.getElem?_toArray, List.getElem?_cons_zero, List.getElem?_cons_succ, Bool.false_eq_true, if_false, hlen,
      if_pos hneed, Sem.run_ite, Bool.not_false, if_true, hnew]
    cases base with
    | none => simp [hno rfl]
    | some a => have := hst a rfl; simp [this]

theorem sound_append {P : Program} {φ : Ren} {m m' : Mem} {w : World} (hi : Inv φ m w) {ts tx e ty : TypeId} {i : TypeInfo} {z : Value} {v V x X u : Value} {n : Nat} {nc : List Value}
    (ht : P.underlying ts = some (.slice e)) (hti : P.info? e = some i) (hz : i.zero = some z) (hzs : z.cells.size = i.size) (hx : srcT P tx = true) (hv : VR φ v V) (hxv : VR φ x X)
    (hsrc : runSrc i.size x m = some (n, nc)) (h : runAppend e i.size i.bytes v n nc m = some (u, m')) :
    ∃ U w' φ', (Builtin.append_ #[ts, tx] ty #[V, X]).run P w = .ok U w' ∧ VR φ' u U ∧ Inv φ' m' w' ∧ Frm φ m w φ' m' w' := by
  obtain ⟨hlen, _, _, hnew⟩ := run_src (P := P) hi hxv hsrc
  unfold runAppend at h
  split at h
  rotate_left
  · cases h
  rename_i a len cap
  split at h
  · cases h
  rename_i hroom
  have hroom := Decidable.not_not.1 hroom
  obtain ⟨hb, hb', hnl, hone⟩ := hroom
  split at h
  · rename_i hneed
    split at h
    · split at h
      · rename_i hz0
        cases h
        obtain ⟨h0, rfl⟩ := hz0
        cases hv
        obtain rfl : n = 0 := by omega
        obtain ⟨NC, hN, _⟩ := hnew w hi
        exact ⟨.slice none 0 0, w, φ, run_append_in ht hti hx hlen hN (by omega) (fun a h => by cases h) (fun _ => rfl), .sliceNil, hi, Frm.refl φ m w⟩
      · cases h
    · rename_i b off
      split at h
      · rename_i hns
        cases h
        obtain ⟨NC, hN, rN⟩ := hnew w hi
        have : NC = [] := by
          have := rN.1
          rw [hnl, hns] at this
          simpa using this.symm
        subst this
        cases hv with
        | sliceEx _ _ _ _ l hl hlo =>
          exact ⟨_, w, φ, run_append_in ht hti hx hlen hN hneed (fun a h => by simp [Go.storeCells]) (fun h => by cases h), .sliceEx _ _ _ _ l hl hlo, hi, Frm.refl φ m w⟩
        | sliceZero _ _ A =>
          obtain rfl : n = 0 := by omega
          exact ⟨_, w, φ, run_append_in ht hti hx hlen hN hneed (fun a h => by simp [Go.storeCells]) (fun h => by cases h), .sliceZero _ _ A, hi, Frm.refl φ m w⟩
        | sliceLoose _ _ _ _ off' cap' s l hl hlo hoff hlen' hcap hroom =>
          exact ⟨_, w, φ, run_append_in ht hti hx hlen hN (by omega) (fun a h => by simp [Go.storeCells]) (fun h => by cases h), .sliceLoose _ _ _ _ off' cap' s l hl hlo hoff hneed hcap hroom, hi, Frm.refl φ m w⟩
      · rename_i hns
        simp only [Option.bind_eq_some_iff] at h
        obtain ⟨⟨c, e', lo⟩, hq, h⟩ := h
        have hg := Mem.ownAt_get hq
        split at h
        · rename_i hc
          cases h
          obtain ⟨hc, hc0⟩ := hc
          obtain ⟨NC, hN, rN⟩ := hnew w hi
          rw [Nat.add_mul] at hc
          cases hv with
          | sliceEx _ _ _ _ l hl hlo =>
            obtain ⟨w', hrun, h4, h5⟩ := Inv.storeCells (P := P) hl (off + len * i.size) nc NC 0 c m w hi hg rN (fun v hv => List.all_eq_true.1 hone v hv) (by simp only at hc; omega)
            refine ⟨_, w', φ, run_append_in ht hti hx hlen hN hneed (fun a h => ?_) (fun h => by cases h), .sliceEx _ _ _ _ l hl hlo, h4, h5⟩
            cases h
            rw [add_mk, Nat.add_assoc]; exact hrun
          | sliceZero _ _ A => exact absurd ((congrArg (· * i.size) (show n = 0 by omega)).trans (Nat.zero_mul _)) hns
          | sliceLoose _ _ _ _ off' cap' s l hl hlo hoff hlen' hcap hroom =>
            have : off' = l.base + off := hoff hc0
            subst this
            obtain ⟨w', hrun, h4, h5⟩ := Inv.storeCells (P := P) hl (off + len * i.size) nc NC 0 c m w hi hg rN (fun v hv => List.all_eq_true.1 hone v hv) (by simp only at hc; omega)
            refine ⟨_, w', φ, run_append_in ht hti hx hlen hN (by omega) (fun a h => ?_) (fun h => by cases h), .sliceLoose _ _ _ _ _ cap' s l hl hlo (fun _ => rfl) hneed hcap hroom, h4, h5⟩
            cases h
            rw [add_mk, Nat.add_assoc]; exact hrun
        · cases h
    · cases h
  · rename_i hneed
    split at h
    · split at h
      · rename_i hz0
        cases h
        obtain ⟨rfl, rfl⟩ := hz0
        cases hv
        obtain ⟨w', φ', cap', h1, h2, h3, h4, h5⟩ := run_append_grow (ty := ty) (base := none) (CAP := 0) (old := []) hi ht hti rfl hz hx hlen hnew (fun w' _ => ⟨[], by simp [Builtin.firstCells], VRs.nil φ⟩) hneed hb hb' (by simp) hnl hzs
        rw [Nat.zero_add] at h1 h2
        refine ⟨_, w', φ', h1, ?_, by simpa using h4, by simpa using h5⟩
        exact .sliceLoose _ _ _ _ 0 cap' i.size _ h3 rfl (fun _ => by simp) (Nat.le_refl _) h2 (by simp)
      · cases h
    · rename_i b off
      split at h
      · rename_i c e' ro hg
        split at h
        · rename_i hc
          cases h
          cases hv with
          | sliceEx _ _ _ _ l hl hlo =>
            obtain ⟨w', φ', cap', h1, h2, h3, h4, h5⟩ := run_append_grow (ty := ty) (base := some ⟨l.blk, l.base + off, none⟩) (CAP := cap) (old := (c.drop off).take (len * i.size)) hi ht hti rfl hz hx hlen hnew
              (fun w' hi' => by
                obtain ⟨Vs, h1, h2⟩ := hi'.loadCells (P := P) hg hl off (len * i.size) hc
                exact ⟨Vs, by simpa [Builtin.firstCells] using h1, h2⟩) hneed hb hb' (by simp; omega) hnl hzs
            refine ⟨_, w', φ', h1, ?_, h4, h5⟩
            exact .sliceLoose _ _ _ _ 0 cap' i.size _ h3 rfl (fun _ => by simp) (Nat.le_refl _) h2 (by simp)
          | sliceZero _ _ A =>
            obtain ⟨w', φ', cap', h1, h2, h3, h4, h5⟩ := run_append_grow (ty := ty) (base := some A) (CAP := 0) (len := 0) (old := (c.drop off).take (0 * i.size)) hi ht hti rfl hz hx hlen hnew
              (fun w' hi' => ⟨[], by simp [Builtin.firstCells, Go.loadCells, Go.loadCellsFrom], by simpa using VRs.nil φ⟩) hneed hb hb' (by simp) hnl hzs
            refine ⟨_, w', φ', h1, ?_, h4, h5⟩
            exact .sliceLoose _ _ _ _ 0 cap' i.size _ h3 rfl (fun _ => by simp) (Nat.le_refl _) h2 (by simp)
          | sliceLoose _ _ _ _ off' cap' s l hl hlo hoff hlen' hcap hroom =>
            obtain ⟨k, hk, ok, _⟩ := hi.live b _ hg
            rw [hl] at hk; cases hk
            replace ok := ok.1; rw [hlo] at ok; cases ok
        · cases h
      · rename_i c e' s hg
        split at h
        · rename_i hc
          cases h
          obtain ⟨rfl, rfl, hlc, hc⟩ := hc
          cases hv with
          | sliceEx _ _ _ _ l hl hlo =>
            obtain ⟨k, hk, ok, _⟩ := hi.live b _ hg
            rw [hl] at hk; cases hk
            replace ok := ok.1; rw [hlo] at ok; cases ok
          | sliceZero _ _ A =>
            obtain ⟨q, hq, _⟩ := hi.live b _ hg
            obtain ⟨w', φ', cap', h1, h2, h3, h4, h5⟩ := run_append_grow (ty := ty) (base := some A) (CAP := 0) (len := 0) (old := (c.drop off).take (0 * i.size)) hi ht hti rfl hz hx hlen hnew
              (fun w' hi' => ⟨[], by simp [Builtin.firstCells, Go.loadCells, Go.loadCellsFrom], by simpa using VRs.nil φ⟩) hneed hb hb' (by simp) hnl hzs
            obtain ⟨h6, h7⟩ := h4.kill b
            have hbn : b ≠ m.next := by have := (hi.below b q hq).1; omega
            have hg' : ∀ d, ((m.kill b).add ⟨.cells ((c.drop off).take (0 * i.size) ++ nc) e', false, some i.size⟩).get d = ((m.add ⟨.cells ((c.drop off).take (0 * i.size) ++ nc) e', false, some i.size⟩).kill b).get d := by
              intro d
              rw [Mem.get_add, Mem.get_kill, Mem.get_kill, Mem.get_add, Mem.next_kill]
              by_cases h1 : d = m.next
              · rw [if_pos h1, if_pos h1, if_neg (fun h => hbn (h.symm.trans h1))]
              · rw [if_neg h1, if_neg h1]
            exact ⟨_, w', φ', h1, .sliceLoose _ _ _ _ 0 cap' i.size _ h3 rfl (fun _ => by simp) (Nat.le_refl _) h2 (by simp), h6.ext hg' rfl, (h5.trans h7).ext hg' rfl⟩
          | sliceLoose _ _ _ _ off' CAP s l hl hlo hoff hlen' hcap hroom =>
            obtain ⟨k, hk, ok, _⟩ := hi.live b _ hg
            rw [hl] at hk; cases hk
            replace ok := ok.1; rw [hlo] at ok; cases ok
            by_cases hfit : len + n ≤ CAP
            · obtain ⟨NC, hN, rN⟩ := hnew w hi
              obtain ⟨w', φ', hrun, h4, h5, h6⟩ := hi.appendIn (P := P) hg hl hoff hlen' hroom hfit hc rN (fun v hv => List.all_eq_true.1 hone v hv) hnl
              have hfin : VR φ' (.slice (some ⟨m.next, 0, none⟩) (len + n) (len + n)) (.slice (some ⟨l.blk, off', none⟩) (len + n) CAP) :=
                VR.sliceLoose m.next 0 (len + n) (len + n) off' CAP i.size ⟨l.blk, off', some i.size, l.size⟩ h6 rfl (fun _ => rfl) (Nat.le_refl _) hfit hroom
              refine ⟨_, w', φ', run_append_in ht hti hx hlen hN hfit (fun a h => ?_) (fun h => by cases h), hfin, h4, h5⟩
              cases h
              rw [add_mk]; exact hrun
            · have hold : ∀ w', Inv φ m w' → ∃ OC, (Builtin.firstCells i.size len (.slice (some ⟨l.blk, off', none⟩) len CAP)).run P w' = .ok OC.toArray w' ∧ VRs φ ((c.drop off).take (len * i.size)) OC := by
                intro w' hi'
                by_cases h0 : cap = 0
                · have : len = 0 := by omega
                  subst this
                  exact ⟨[], by simp [Builtin.firstCells, Go.loadCells, Go.loadCellsFrom], by simpa using VRs.nil φ⟩
                · have := hoff h0
                  subst this
                  obtain ⟨Vs, h1, h2⟩ := hi'.loadCells (P := P) hg hl off (len * i.size) hc
                  exact ⟨Vs, by simpa [Builtin.firstCells] using h1, h2⟩
              obtain ⟨w', φ', cap', h1, h2, h3, h4, h5⟩ := run_append_grow (ty := ty) hi ht hti rfl hz hx hlen hnew hold hfit hb hb' (by simp; omega) hnl hzs
              obtain ⟨h6, h7⟩ := h4.kill b
              have hbn : b ≠ m.next := by have := (hi.below b l hl).1; omega
              have hg' : ∀ d, ((m.kill b).add ⟨.cells ((c.drop off).take (len * i.size) ++ nc) e', false, some i.size⟩).get d = ((m.add ⟨.cells ((c.drop off).take (len * i.size) ++ nc) e', false, some i.size⟩).kill b).get d := by
                intro d
                rw [Mem.get_add, Mem.get_kill, Mem.get_kill, Mem.get_add, Mem.next_kill]
                by_cases h1 : d = m.next
                · rw [if_pos h1, if_pos h1, if_neg (fun h => hbn (h.symm.trans h1))]
                · rw [if_neg h1, if_neg h1]
              exact ⟨_, w', φ', h1, .sliceLoose _ _ _ _ 0 cap' i.size _ h3 rfl (fun _ => by simp) (Nat.le_refl _) h2 (by simp), h6.ext hg' rfl, (h5.trans h7).ext hg' rfl⟩
        · cases h
      · cases h
    · cases h

end Go.Fx
