/- A range over a function, on the abstract machine: the iterator is run as any function, its calls of yield are rounds. -/
import Derived.Test.YtgmkehbebpljjaaGreatDoorFxDen
import Derived.RangeFuncLeaves
import Derived.RangeFuncRecord
namespace Go.Fx
open Go
set_option linter.unusedSimpArgs false
set_option linter.unusedVariables false

/-- A block of one's own that is done with: whatever becomes of it. -/
theorem Inv.dropObj {φ : Ren} {m : Mem} {w : World} (h : Inv φ m w) {b : Nat} {x : ABlk} {l : Loc} (hb : m.get b = some x) (hx : x.ro = false) (hl : φ b = some l) (O : Obj) :
    Inv φ (m.kill b) (w.putObj l.blk O) ∧ Frm φ m w φ (m.kill b) (w.putObj l.blk O) := by
  have hoth : ∀ B, B ≠ l.blk → (w.putObj l.blk O).heap[B]? = w.heap[B]? := fun B hB => World.putObj_heap_other hB
  have hsz : (w.putObj l.blk O).heap.size = w.heap.size := by simp [World.putObj]
  have g : ∀ d (y : ABlk), (m.kill b).get d = some y → d ≠ b ∧ m.get d = some y := by
    intro d y hy
    rw [Mem.get_kill] at hy
    by_cases e : d = b
    · rw [if_pos e] at hy; cases hy
    · rw [if_neg e] at hy; exact ⟨e, hy⟩
  refine ⟨⟨fun d y hy => ?_, fun d e y z k j hy hz => h.apart d e y z k j (g d y hy).2 (g e z hz).2, fun d k hk => by rw [hsz]; exact h.below d k hk⟩,
    ⟨Ren.le_refl φ, by rw [hsz]; exact Nat.le_refl _, fun B _ hno => hoth B (fun e => hno b x l hb hl hx e.symm), fun d y k hy hk hr => .inr ⟨d, y, k, (g d y hy).2, hk, hr, rfl⟩, rfl, rfl, rfl, Nat.le_refl _, fun _ _ => rfl, fun d _ hn => by rw [Mem.get_kill]; split <;> first | rfl | exact hn, fun d y k hy hk => .inr ⟨d, y, k, (g d y hy).2, hk, rfl⟩⟩⟩
  obtain ⟨hne, hy'⟩ := g d y hy
  obtain ⟨k, hk, ok⟩ := h.live d y hy'
  exact ⟨k, hk, ok.congr (hoth _ (fun e => h.apart b d x y l k hb hy' hl hk hx (Ne.symm hne) e.symm))⟩

/-- The same, written anew in a way that can be told. -/
theorem Inv.putO {φ : Ren} {m : Mem} {w : World} (h : Inv φ m w) {b : Nat} {x : ABlk} {l : Loc} (hb : m.get b = some x) (hx : x.ro = false) (hl : φ b = some l) (y : ABlk) (O : Obj) (hy : y.ro = false)
    (ok : BlkOk φ (w.putObj l.blk O) y l) : Inv φ (m.put b y) (w.putObj l.blk O) ∧ Frm φ m w φ (m.put b y) (w.putObj l.blk O) := h.setObj hb hx hl y O hy ok

section limits
variable {P : Program} {S : CallF} {tab : Tab}
theorem sound_Call (hm : P.follows .mixedOrders = true) (hSok : CallOk P S) (hS : ∀ f args m r, f < yBase → S f args m = some r → goodFn P f = true) (htab : TabOk P tab) (hn : ∀ f x, tab f = some x → goodFn P f = true) : CallOk P (Call S tab) := by
  refine ⟨fun f args m v m' hf h => ?_, fun N args m v m' h => ?_⟩
  · obtain ⟨n, hc⟩ := Call_iff.1 h
    exact (sound_call hm hSok hS htab hn n).fn f args m v m' hf hc
  · obtain ⟨n, hc⟩ := Call_iff.1 h
    exact (sound_call hm hSok hS htab hn n).yl N args m v m' hc
theorem Call_good (hS : ∀ f args m r, f < yBase → S f args m = some r → goodFn P f = true) (hn : ∀ f x, tab f = some x → goodFn P f = true) : ∀ f args m r, f < yBase → Call S tab f args m = some r → goodFn P f = true := by
  intro f args m r hf h
  obtain ⟨n, hc⟩ := Call_iff.1 h
  exact call_good hS hn n f args m r hf hc
theorem sound_Exec {ro : Option Nat} (hm : P.follows .mixedOrders = true) (hSok : CallOk P S) (hS : ∀ f args m r, f < yBase → S f args m = some r → goodFn P f = true) (htab : TabOk P tab) (hn : ∀ f x, tab f = some x → goodFn P f = true)
    (c : Code) (ts : List Value) (m : Mem) (a : Act) (w : World) (φ : Ren) (e : AEx) (ts' : List Value) (m' : Mem) (Q : Exit → Act → World → Prop) (hi : Inv φ m w) (ht : VRs φ ts a.tmps.toList)
    (h : Exec S tab (comp P c) ts m = some (e, ts', m')) (hQ : ∀ a' w', St φ m w a ts' m' a' w' → Q e.to a' w') : c.wpIn (rf ro) 0 P Q a w := by
  obtain ⟨n, hc⟩ := Exec_iff.1 h
  exact sound_code (sound_call hm hSok hS htab hn n) (call_good hS hn n) hm n c ts m a w φ e ts' m' Q hi ht hc hQ
end limits

def setPs : List Value → List (Nat × Value) → List Value
  | ts, [] => ts
  | ts, (p, v) :: r => setPs (ts.set p v) r
def pendOf : AEx → Option Code
  | .normal => none
  | .exit id => some (.exit id)
  | .ret => some .ret
def AEx.isN : AEx → Bool
  | .normal => true
  | _ => false

/-- A round: the record N lies in memory, ready. -/
noncomputable def roundX (P : Program) (S : CallF) (tab : Tab) (N : Nat) (args : List Value) (m : Mem) : Option (Value × Mem) :=
  match m.get N with
  | some ⟨.loopR ts ps a b .ready none, false, none⟩ =>
    if args.length = ps.length then
      (Exec S tab (comp P a) (setPs ts (ps.zip args)) m).bind fun r => match r with
        | (.normal, ts2, m2) => match m2.get N with
          | some ⟨.loopR ts' ps' a' b' .ready pe, false, none⟩ =>
            (Exec S tab (comp P b) ts2 (m2.put N ⟨.loopR ts' ps' a' b' .busy pe, false, none⟩)).bind fun r => match r.2.2.get N with
              | some ⟨.loopR ts'' ps'' a'' b'' _ _, false, none⟩ => some (.bool r.1.isN, r.2.2.put N ⟨.loopR ts'' ps'' a'' b'' (if r.1.isN then .ready else .done) (pendOf r.1), false, none⟩)
              | _ => none
          | _ => none
        | _ => none
    else none
  | _ => none

noncomputable def withY (P : Program) (S : CallF) (tab : Tab) (N : Nat) : CallF := fun f args m => if f = yBase + N then roundX P S tab N args m else S f args m

theorem setPs_VRs {φ : Ren} : ∀ (l : List (Nat × Value)) (L : List (Nat × Value)) (ts TS : List Value), VRs φ ts TS → l.length = L.length → (∀ (i : Nat) p q, l[i]? = some p → L[i]? = some q → p.1 = q.1 ∧ VR φ p.2 q.2) →
    VRs φ (setPs ts l) (L.foldl (fun t p => t.set p.1 p.2) TS)
  | [], [], ts, TS, h, _, _ => h
  | p :: l, q :: L, ts, TS, h, hl, hall => by
    obtain ⟨e, hv⟩ := hall 0 p q rfl rfl
    obtain ⟨p1, p2⟩ := p
    obtain ⟨q1, q2⟩ := q
    simp only at e; subst e
    exact setPs_VRs l L _ _ (h.set hv p1) (by simpa using hl) (fun i a b ha hb => hall (i + 1) a b (by simpa using ha) (by simpa using hb))
  | [], _ :: _, _, _, _, hl, _ => by simp at hl
  | _ :: _, [], _, _, _, hl, _ => by simp at hl

theorem foldl_setIf (L : List (Nat × Value)) : ∀ (t : Array Value), (L.foldl (fun t p => t.setIfInBounds p.1 p.2) t).toList = L.foldl (fun t p => t.set p.1 p.2) t.toList := by
  induction L with
  | nil => intro t; rfl
  | cons p L ih => intro t; simp only [List.foldl_cons, ih, Array.toList_setIfInBounds]

section
variable {P : Program} {S : CallF} {tab : Tab}

theorem sound_round (hm : P.follows .mixedOrders = true) (hSok : CallOk P S) (hS : ∀ f args m r, f < yBase → S f args m = some r → goodFn P f = true) (htab : TabOk P tab) (hn : ∀ f x, tab f = some x → goodFn P f = true)
    {N : Nat} {args : List Value} {m m' : Mem} {v : Value} (h : roundX P S tab N args m = some (v, m')) {φ : Ren} {w : World} {ARGS : Array Value} (hi : Inv φ m w) (ha : VRs φ args ARGS.toList) : Yield1 P φ m w N ARGS v m' := by
  unfold roundX at h
  split at h
  · rename_i ts ps a b hN
    split at h
    · rename_i hlen
      simp only [Option.bind_eq_some_iff] at h
      obtain ⟨⟨e1, ts2, m2⟩, hx1, h⟩ := h
      cases e1 with
      | exit _ => cases h
      | ret => cases h
      | normal =>
        simp only at h
        split at h
        · rename_i ts' ps' a' b' pe hN2
          simp only [Option.bind_eq_some_iff] at h
          obtain ⟨⟨e, ts3, m3⟩, hx2, h⟩ := h
          simp only at h
          split at h
          · rename_i ts'' ps'' a'' b'' st3 pe3 hN3
            cases h
            obtain ⟨l, hl, ⟨hbase, hok⟩⟩ := hi.live N _ hN
            obtain ⟨r, hr, hst, hpe, hps, hra, hrb, hrt⟩ := hok
            have hsz : ARGS.size = r.params.size := by
              have h1 := ha.1
              have h2 := congrArg List.length hps
              simp at h1 h2
              omega
            refine ⟨l, e.isN, hl, rfl, r.fn, _, r.assign, r.body, run_yield hr hsz, ?_⟩
            rw [hra, hrb]
            refine roundIn_of_wpIn (F := rf none) trivial ?_
            have htm : VRs φ (setPs ts (ps.zip args)) ((r.params.zip ARGS).foldl (fun tmps (t, a) => tmps.setIfInBounds t a) r.tmps).toList := by
              have e1 : ((r.params.zip ARGS).foldl (fun tmps (t, a) => tmps.setIfInBounds t a) r.tmps) = (ps.zip ARGS.toList).foldl (fun t p => t.setIfInBounds p.1 p.2) r.tmps := by
                rw [← Array.foldl_toList, Array.toList_zip, hps]
              rw [e1, foldl_setIf]
              refine setPs_VRs _ _ _ _ hrt (by simp [ha.1]) (fun i p q hp hq => ?_)
              rw [List.getElem?_zip_eq_some] at hp hq
              obtain ⟨hp1, hp2⟩ := hp
              obtain ⟨hq1, hq2⟩ := hq
              rw [hp1] at hq1
              exact ⟨by simpa using hq1, ha.2 i _ _ hp2 hq2⟩
            refine sound_Exec (ro := some l.blk) hm hSok hS htab hn a _ m _ w φ .normal ts2 m2 _ hi htm hx1 ?_
            rintro a1 w1 ⟨φ1, q1, q2, q3, q4⟩
            have hl1 : φ1 N = some l := q3.ren _ _ hl
            obtain ⟨l', hl', ⟨hbase2, hok2⟩⟩ := q2.live N _ hN2
            rw [hl1] at hl'; cases hl'
            obtain ⟨r2, hr2, hst2, hpe2, hps2, hra2, hrb2, hrt2⟩ := hok2
            have hlt2 : l.blk < w1.heap.size := (Array.getElem?_eq_some_iff.1 hr2).1
            obtain ⟨i2, f2⟩ := q2.putO hN2 rfl hl1 ⟨.loopR ts' ps' a' b' .busy pe, false, none⟩ (.loop { r2 with state := .busy }) rfl
              ⟨hbase2, _, World.putObj_heap_same hlt2, rfl, hpe2, hps2, hra2, hrb2, hrt2⟩
            refine ⟨_, run_beginRound hr2 hst2, ?_⟩
            refine sound_Exec (ro := some l.blk) hm hSok hS htab hn b _ _ _ _ φ1 e ts3 m3 _ i2 q1 hx2 ?_
            rintro a2 w2 ⟨φ2, p1, p2, p3, p4⟩
            have hl2 : φ2 N = some l := p3.ren _ _ hl1
            obtain ⟨l', hl', ⟨hbase3, hok3⟩⟩ := p2.live N _ hN3
            rw [hl2] at hl'; cases hl'
            obtain ⟨r3, hr3, hst3, hpe3, hps3, hra3, hrb3, hrt3⟩ := hok3
            have hlt3 : l.blk < w2.heap.size := (Array.getElem?_eq_some_iff.1 hr3).1
            have hfin : ∀ (j : Option Code), j = pendOf e → j.isNone = e.isN → ∃ v w', (Instr.endRound l.blk j).run P w2 = .ok v w' ∧ (Ending.returned v = .returned (.bool e.isN) ∧ ∃ φ', Inv φ' (m3.put N ⟨.loopR ts'' ps'' a'' b'' (if e.isN then .ready else .done) (pendOf e), false, none⟩) w' ∧ Frm φ m w φ' (m3.put N ⟨.loopR ts'' ps'' a'' b'' (if e.isN then .ready else .done) (pendOf e), false, none⟩) w') := by
              intro j hj hjn
              obtain ⟨i3, f3⟩ := p2.putO hN3 rfl hl2 ⟨.loopR ts'' ps'' a'' b'' (if e.isN then .ready else .done) (pendOf e), false, none⟩ (.loop { r3 with state := if j.isNone then .ready else .done, pending := j }) rfl
                ⟨hbase3, _, World.putObj_heap_same hlt3, by simp [hjn], hj, hps3, hra3, hrb3, hrt3⟩
              exact ⟨_, _, run_endRound j hr3, by rw [hjn], φ2, i3, ((q3.trans f2).trans p3).trans f3⟩
            cases e with
            | normal => exact hfin none rfl rfl
            | exit id => exact hfin (some (.exit id)) rfl rfl
            | ret => exact hfin (some .ret) rfl rfl
          · cases h
        · cases h
    · cases h
  · cases h

theorem withY_ok (hm : P.follows .mixedOrders = true) (hSok : CallOk P S) (hS : ∀ f args m r, f < yBase → S f args m = some r → goodFn P f = true) (htab : TabOk P tab) (hn : ∀ f x, tab f = some x → goodFn P f = true) (N : Nat) : CallOk P (withY P S tab N) := by
  refine ⟨fun f args m v m' hf h φ w ARGS hi ha => ?_, fun K args m v m' h φ w ARGS hi ha => ?_⟩
  · unfold withY at h
    rw [if_neg (show ¬ f = yBase + N from fun e => absurd hf (Nat.not_lt.2 (e ▸ Nat.le_add_right yBase N)))] at h
    exact hSok.fn f args m v m' hf h φ w ARGS hi ha
  · unfold withY at h
    split at h
    · rename_i e
      have e : K = N := Nat.add_left_cancel e
      subst e
      exact sound_round hm hSok hS htab hn h hi ha
    · exact hSok.yl K args m v m' h φ w ARGS hi ha
theorem withY_good (hS : ∀ f args m r, f < yBase → S f args m = some r → goodFn P f = true) (N : Nat) : ∀ f args m r, f < yBase → withY P S tab N f args m = some r → goodFn P f = true := by
  intro f args m r hf h
  unfold withY at h
  rw [if_neg (show ¬ f = yBase + N from fun e => absurd hf (Nat.not_lt.2 (e ▸ Nat.le_add_right yBase N)))] at h
  exact hS f args m r hf h

/-- The statement: its block for deferred calls and its record are laid; the iterator is called with yield; what a round left is taken up. -/
noncomputable def rangeX (P : Program) (S : CallF) (tab : Tab) (g : Operand) (ps : List Nat) (A B : Code) (ts : List Value) (m : Mem) : Option (Out × Nat) :=
  (aval ts g).bind fun v => match v with
    | .func (.func gf) ⟨[]⟩ cap => if Nat.blt gf yBase = true then
        (Call (withY P S tab (m.next + 1)) tab gf (.func (.yield (m.next + 1)) #[] #[] :: cap.toList) ((m.add ⟨.deferR, false, none⟩).add ⟨.loopR ts ps A B .ready none, false, none⟩)).bind fun r =>
          match r.2.get (m.next + 1) with
          | some ⟨.loopR _ _ _ _ st pend, false, none⟩ => if st = .busy then none else match pend with
            | none => some ((.normal, ts, r.2.kill (m.next + 1)), m.next)
            | some .ret => some ((.ret, ts, r.2.kill (m.next + 1)), m.next)
            | some (.exit id) => some ((.exit id, ts, r.2.kill (m.next + 1)), m.next)
            | _ => none
          | _ => none
      else none
    | _ => none

/-- As 'St', with the mark. -/
def StX (o : Option Nat) (φ : Ren) (m : Mem) (w : World) (a : Act) (ts' : List Value) (m' : Mem) (a' : Act) (w' : World) : Prop :=
  ∃ φ', VRs φ' ts' a'.tmps.toList ∧ Inv φ' m' w' ∧ Frm φ m w φ' m' w' ∧ match o with
    | none => a'.defers = a.defers
    | some N => ∃ l : Loc, φ' N = some l ∧ a'.defers = { target := .collected l.blk, args := #[] } :: a.defers

theorem sound_range (hm : P.follows .mixedOrders = true) (hSok : CallOk P S) (hS : ∀ f args m r, f < yBase → S f args m = some r → goodFn P f = true) (htab : TabOk P tab) (hn : ∀ f x, tab f = some x → goodFn P f = true)
    {g : Operand} {ps : Array Tmp} {A B : Code} {ts ts' : List Value} {m m' : Mem} {e : AEx} {N : Nat} (h : rangeX P S tab g ps.toList A B ts m = some ((e, ts', m'), N)) {φ : Ren} {w : World} {a : Act} (hi : Inv φ m w) (ht : VRs φ ts a.tmps.toList)
    {Q : Exit → Act → World → Prop} (hQ : ∀ a' w', StX (some N) φ m w a ts' m' a' w' → Q e.to a' w') : (Code.rangeFunc g ps A B).wpIn (rf none) 0 P Q a w := by
  simp only [rangeX, Option.bind_eq_some_iff] at h
  obtain ⟨v, hv, h⟩ := h
  have hgv := aval_ok ht hv
  generalize hgx : a.eval g = G at hgv
  split at h
  · rename_i gf cap
    split at h
    · rename_i hlt
      simp only [Option.bind_eq_some_iff] at h
      obtain ⟨⟨u, m2⟩, hcall, h⟩ := h
      have hlt' : gf < yBase := by simpa using hlt
      cases hgv with
      | func _ _ vs _ CAP h1 h2 h3 h4 =>
        obtain rfl : vs = #[] := by
          have : vs.size = 0 := by simpa using h1.symm
          exact Array.eq_empty_of_size_eq_zero this
        refine wpIn_rangeFunc ?_
        intro fn hfn
        obtain ⟨i1, f1⟩ := hi.alloc (.deferred (some [])) ⟨.deferR, false, none⟩ ⟨w.heap.size, 0, none, 0⟩ rfl ⟨⟨rfl, fun _ _ => rfl⟩, by simp⟩
        let rec0 : Loop := { state := .ready, pending := none, fn, tmps := a.tmps, params := ps, assign := A, body := B, defers := w.heap.size }
        obtain ⟨i2, f2⟩ := i1.alloc (.loop rec0) ⟨.loopR ts ps.toList A B .ready none, false, none⟩ ⟨w.heap.size + 1, 0, none, 0⟩ (by simp)
          ⟨⟨rfl, fun _ _ => rfl⟩, rec0, by show ((w.heap.push (.deferred (some []))).push (.loop rec0))[w.heap.size + 1]? = _; rw [Array.getElem?_push]; simp, rfl, rfl, rfl, rfl, rfl, (ht.mono f1.ren).mono (Ren.le_set i1.fresh)⟩
        simp only [Mem.next_add] at i2 f2
        generalize hφ2 : ((φ.set m.next ⟨w.heap.size, 0, none, 0⟩).set (m.next + 1) ⟨w.heap.size + 1, 0, none, 0⟩) = φ2 at i2 f2
        have hN1 : φ2 (m.next + 1) = some ⟨w.heap.size + 1, 0, none, 0⟩ := by rw [← hφ2]; exact Ren.set_self ..
        have hN0 : φ2 m.next = some ⟨w.heap.size, 0, none, 0⟩ := by rw [← hφ2, Ren.set_other _ _ (by omega)]; exact Ren.set_self ..
        have hf02 := f1.trans f2
        have hC := (sound_Call hm (withY_ok hm hSok hS htab hn (m.next + 1)) (withY_good hS (m.next + 1)) htab hn).fn gf _ _ u m2 hlt' hcall φ2 _ (#[.func (.yield (w.heap.size + 1)) #[] #[]] ++ CAP) i2 (by
          have hcap := (VRs.of_array h3 h4).mono hf02.ren
          have := VRs.cons (VR.yield (m.next + 1) ⟨w.heap.size + 1, 0, none, 0⟩ hN1) hcap
          simpa using this)
        have hgood := Call_good (withY_good (P := P) (tab := tab) hS (m.next + 1)) hn gf _ _ _ hlt' hcall
        have henter : ∀ (args : Array Value) (w : World), (callFunc gf args).run P w = .ok (.enter gf args) w := by
          intro args w
          unfold goodFn at hgood
          split at hgood
          · rename_i fn0 hfn0
            simp only [Bool.and_eq_true, bne_iff_ne, ne_eq] at hgood
            obtain ⟨c, hb⟩ := Option.isSome_iff_exists.1 hgood.2
            simp [callFunc, hfn0, hgood.1.2, hb]
          · cases hgood
        refine ⟨w.heap.size + 1, [{ target := .collected w.heap.size, args := #[] }], (w.alloc (.deferred (some []))).alloc (.loop rec0), { target := .fn (.func gf) CAP, args := #[.func (.yield (w.heap.size + 1)) #[] #[]] }, (w.alloc (.deferred (some []))).alloc (.loop rec0), gf,
          #[.func (.yield (w.heap.size + 1)) #[] #[]] ++ CAP, (w.alloc (.deferred (some []))).alloc (.loop rec0), run_enterLoop_outer _ _ _ _ _, ?_, fun _ _ => trivial, ?_, rf_depth none _, ?_⟩
        · simp only [resolve, hgx]
          simp [go_sem]
        · simp [invoke, go_sem, henter]
        · refine rf_calls.2 (hC.mono ?_)
          rintro e' w3 ⟨V, φ3, rfl, _, i3, f3⟩
          have hl3 : φ3 (m.next + 1) = some ⟨w.heap.size + 1, 0, none, 0⟩ := f3.ren _ _ hN1
          have hd3 : φ3 m.next = some ⟨w.heap.size, 0, none, 0⟩ := f3.ren _ _ hN0
          simp only at h
          split at h
          · rename_i ts3 ps3 a3 b3 st pend hN3
            split at h
            · cases h
            · rename_i hst
              obtain ⟨l', hl', ⟨hbase3, hok3⟩⟩ := i3.live _ _ hN3
              rw [hl3] at hl'; cases hl'
              obtain ⟨r3, hr3, hst3, hpe3, hrest⟩ := hok3
              obtain ⟨i4, f4⟩ := i3.dropObj hN3 rfl hl3 (.loop { r3 with state := .exhausted })
              have hend := run_endLoop (P := P) hr3 (by rw [hst3]; exact hst)
              generalize w3.putObj (w.heap.size + 1) (.loop { r3 with state := .exhausted }) = w4 at i4 f4 hend
              have key : ∀ (e0 : AEx), m' = m2.kill (m.next + 1) → ts' = ts → N = m.next → StX (some N) φ m w a ts' m' { a with defers := [{ target := .collected w.heap.size, args := #[] }] ++ a.defers } w4 := by
                intro e0 hm' hts hNm
                subst hm'; subst hts; subst hNm
                exact ⟨φ3, (ht.mono hf02.ren).mono f3.ren, i4, (hf02.trans f3).trans f4, ⟨w.heap.size, 0, none, 0⟩, hd3, rfl⟩
              refine ⟨r3.pending, _, hend, ?_⟩
              rw [hpe3]
              split at h
              · cases h
                exact hQ _ _ (key .normal rfl rfl rfl)
              · cases h
                exact wpIn_ret (hQ _ _ (key .ret rfl rfl rfl))
              · cases h
                exact wpIn_exit (hQ _ _ (key .ret rfl rfl rfl))
              · cases h
          · cases h
    · cases h
  · cases h

/- code with one such statement -/
inductive XCode where
  | seqL (a : ACode) (x : XCode)
  | seqR (x : XCode) (b : ACode)
  | block (id : Nat) (x : XCode)
  | range (g : Operand) (ps : List Nat) (A B : Code)

def hasR : Code → Bool
  | .rangeFunc .. => true
  | .seq a b => hasR a || hasR b
  | .block _ a => hasR a
  | _ => false
def compX (P : Program) : Code → Option XCode
  | .rangeFunc g ps A B => some (.range g ps.toList A B)
  | .seq a b => if hasR a then (compX P a).map fun x => .seqR x (comp P b) else (compX P b).map fun x => .seqL (comp P a) x
  | .block id a => (compX P a).map fun x => .block id x
  | _ => none

noncomputable def execX (P : Program) (S : CallF) (tab : Tab) : XCode → List Value → Mem → Option (Out × Option Nat)
  | .seqL a x, ts, m => (Exec S tab a ts m).bind fun r => match r with
    | (.normal, ts', m') => execX P S tab x ts' m'
    | r => some (r, none)
  | .seqR x b, ts, m => (execX P S tab x ts m).bind fun r => match r with
    | ((.normal, ts', m'), o) => (Exec S tab b ts' m').map fun q => (q, o)
    | r => some r
  | .block id x, ts, m => (execX P S tab x ts m).map fun r => (unblock id r.1, r.2)
  | .range g ps A B, ts, m => (rangeX P S tab g ps A B ts m).map fun r => (r.1, some r.2)

theorem St.x {φ : Ren} {m : Mem} {w : World} {a : Act} {ts' : List Value} {m' : Mem} {a' : Act} {w' : World} (h : St φ m w a ts' m' a' w') : StX none φ m w a ts' m' a' w' := h
theorem StX.then {o : Option Nat} {φ : Ren} {m : Mem} {w : World} {a : Act} {ts1 ts' : List Value} {m1 m' : Mem} {a1 a' : Act} {w1 w' : World} (h : St φ m w a ts1 m1 a1 w1)
    (h' : ∀ φ1, VRs φ1 ts1 a1.tmps.toList → Inv φ1 m1 w1 → StX o φ1 m1 w1 a1 ts' m' a' w') : StX o φ m w a ts' m' a' w' := by
  obtain ⟨φ1, q1, q2, q3, q4⟩ := h
  obtain ⟨φ', p1, p2, p3, p4⟩ := h' φ1 q1 q2
  refine ⟨φ', p1, p2, q3.trans p3, ?_⟩
  cases o with
  | none => exact p4.trans q4
  | some N =>
    obtain ⟨l, hl, hd⟩ := p4
    exact ⟨l, hl, by rw [hd, q4]⟩

theorem sound_X (hm : P.follows .mixedOrders = true) (hSok : CallOk P S) (hS : ∀ f args m r, f < yBase → S f args m = some r → goodFn P f = true) (htab : TabOk P tab) (hn : ∀ f x, tab f = some x → goodFn P f = true) :
    ∀ (c : Code) (x : XCode), compX P c = some x → ∀ (ts : List Value) (m : Mem) (a : Act) (w : World) (φ : Ren) (e : AEx) (ts' : List Value) (m' : Mem) (o : Option Nat) (Q : Exit → Act → World → Prop), Inv φ m w → VRs φ ts a.tmps.toList →
      execX P S tab x ts m = some ((e, ts', m'), o) → (∀ a' w', StX o φ m w a ts' m' a' w' → Q e.to a' w') → c.wpIn (rf none) 0 P Q a w := by
  intro c
  induction c with
  | rangeFunc g ps A B =>
    intro x hx ts m a w φ e ts' m' o Q hi ht h hQ
    simp only [compX, Option.some.injEq] at hx
    subst hx
    simp only [execX, Option.map_eq_some_iff] at h
    obtain ⟨⟨⟨e1, ts1, m1⟩, N⟩, h, he⟩ := h
    cases he
    exact sound_range hm hSok hS htab hn h hi ht hQ
  | block id c ih =>
    intro x hx ts m a w φ e ts' m' o Q hi ht h hQ
    simp only [compX, Option.map_eq_some_iff] at hx
    obtain ⟨x, hx, rfl⟩ := hx
    simp only [execX, Option.map_eq_some_iff] at h
    obtain ⟨⟨⟨e1, ts1, m1⟩, o1⟩, h, he⟩ := h
    simp only [Prod.mk.injEq] at he
    obtain ⟨he, rfl⟩ := he
    refine wpIn_block (ih x hx ts m a w φ e1 ts1 m1 o1 _ hi ht h ?_)
    intro a1 w1 hst
    cases e1 with
    | normal => cases he; exact hQ a1 w1 hst
    | exit j =>
      simp only [unblock] at he
      simp only [AEx.to, Exit.inBlock]
      split at he
      · rename_i hj
        cases he
        rw [if_pos hj]; exact hQ a1 w1 hst
      · rename_i hj
        cases he
        rw [if_neg hj]; exact hQ a1 w1 hst
    | ret => cases he; exact hQ a1 w1 hst
  | seq c d ihc ihd =>
    intro x hx ts m a w φ e ts' m' o Q hi ht h hQ
    simp only [compX] at hx
    split at hx
    · simp only [Option.map_eq_some_iff] at hx
      obtain ⟨x, hx, rfl⟩ := hx
      simp only [execX, Option.bind_eq_some_iff] at h
      obtain ⟨⟨⟨e1, ts1, m1⟩, o1⟩, h1, h⟩ := h
      refine wpIn_seq (ihc x hx ts m a w φ e1 ts1 m1 o1 _ hi ht h1 ?_)
      rintro a1 w1 ⟨φ1, q1, q2, q3, q4⟩
      cases e1 with
      | normal =>
        simp only [Option.map_eq_some_iff] at h
        obtain ⟨⟨e2, ts2, m2⟩, h2, h⟩ := h
        cases h
        refine sound_Exec (ro := none) hm hSok hS htab hn d ts1 m1 a1 w1 φ1 e ts' m' Q q2 q1 h2 ?_
        rintro a' w' ⟨φ', p1, p2, p3, p4⟩
        refine hQ a' w' ⟨φ', p1, p2, q3.trans p3, ?_⟩
        cases o with
        | none => exact p4.trans q4
        | some N =>
          obtain ⟨l, hl, hd⟩ := q4
          exact ⟨l, p3.ren _ _ hl, by rw [p4, hd]⟩
      | exit id =>
        simp only [Option.some.injEq, Prod.mk.injEq] at h
        obtain ⟨⟨rfl, rfl, rfl⟩, rfl⟩ := h
        exact hQ a1 w1 ⟨φ1, q1, q2, q3, q4⟩
      | ret =>
        simp only [Option.some.injEq, Prod.mk.injEq] at h
        obtain ⟨⟨rfl, rfl, rfl⟩, rfl⟩ := h
        exact hQ a1 w1 ⟨φ1, q1, q2, q3, q4⟩
    · simp only [Option.map_eq_some_iff] at hx
      obtain ⟨x, hx, rfl⟩ := hx
      simp only [execX, Option.bind_eq_some_iff] at h
      obtain ⟨⟨e1, ts1, m1⟩, h1, h⟩ := h
      refine wpIn_seq (sound_Exec (ro := none) hm hSok hS htab hn c ts m a w φ e1 ts1 m1 _ hi ht h1 ?_)
      intro a1 w1 hst
      cases e1 with
      | normal =>
        simp only at h
        have hst' := hst
        obtain ⟨φ1, q1, q2, q3, q4⟩ := hst
        refine ihd x hx ts1 m1 a1 w1 φ1 e ts' m' o Q q2 q1 h ?_
        rintro a' w' ⟨φ', p1, p2, p3, p4⟩
        refine hQ a' w' ⟨φ', p1, p2, q3.trans p3, ?_⟩
        cases o with
        | none => exact p4.trans q4
        | some N =>
          obtain ⟨l, hl, hd⟩ := p4
          exact ⟨l, hl, by rw [hd, q4]⟩
      | exit id =>
        simp only [Option.some.injEq, Prod.mk.injEq] at h
        obtain ⟨⟨rfl, rfl, rfl⟩, rfl⟩ := h
        exact hQ a1 w1 hst.x
      | ret =>
        simp only [Option.some.injEq, Prod.mk.injEq] at h
        obtain ⟨⟨rfl, rfl, rfl⟩, rfl⟩ := h
        exact hQ a1 w1 hst.x
  | _ =>
    intro x hx
    simp [compX] at hx

structure XFunc where
  ntmps : Nat
  body : XCode
  results : List ARes
def compXF (P : Program) (f : FuncId) : Option XFunc :=
  (P.funcs[f]?).bind fun fn => fn.body.bind fun c => (compX P c).bind fun x => (fn.results.toList.mapM (compRes P)).map fun rs => ⟨fn.ntmps, x, rs⟩

/-- What the function answers; the mark, where there is one, is taken away. -/
noncomputable def leaveX (rs : List ARes) (r : Out × Option Nat) : Option (Value × Mem) :=
  match r with
  | ((.exit _, _, _), _) => none
  | ((_, ts, m), none) => (resVs ts m rs).map fun l => (oneOf l, m)
  | ((_, ts, m), some N) => match m.get N with
    | some ⟨.deferR, false, none⟩ => (resVs ts (m.kill N) rs).map fun l => (oneOf l, m.kill N)
    | _ => none
noncomputable def bodyX (P : Program) (S : CallF) (tab : Tab) (x : XFunc) (args : List Value) (m : Mem) : Option (Value × Mem) :=
  (execX P S tab x.body (args ++ List.replicate (x.ntmps - args.length) undef) m).bind (leaveX x.results)

theorem sound_bodyX (hm : P.follows .mixedOrders = true) (hSok : CallOk P S) (hS : ∀ f args m r, f < yBase → S f args m = some r → goodFn P f = true) (htab : TabOk P tab) (hn : ∀ f x, tab f = some x → goodFn P f = true)
    {f : FuncId} {x : XFunc} (hx : compXF P f = some x) {args : List Value} {m m' : Mem} {v : Value} (h : bodyX P S tab x args m = some (v, m')) {φ : Ren} {w : World} {ARGS : Array Value} (hi : Inv φ m w) (hargs : VRs φ args ARGS.toList) : Calls1 P φ m w f ARGS v m' := by
  simp only [compXF, Option.bind_eq_some_iff, Option.map_eq_some_iff] at hx
  obtain ⟨fn, h1, c, h2, xc, h3, rs, h4, rfl⟩ := hx
  simp only [bodyX, Option.bind_eq_some_iff] at h
  obtain ⟨⟨⟨e, ts, m1⟩, o⟩, hex, h⟩ := h
  refine rf_calls.1 (callsIn_of_wp_marks (F := rf none) (n := 0) h1 h2 trivial ?_)
  have htm : VRs φ (args ++ List.replicate (fn.ntmps - args.length) undef) (ARGS ++ Array.replicate (fn.ntmps - ARGS.size) undef).toList := by
    have hl : args.length = ARGS.size := by simpa using hargs.1
    rw [Array.toList_append, hl, Array.toList_replicate]
    refine hargs.append ⟨rfl, fun i x y hx hy => ?_⟩
    rw [hx] at hy; cases hy
    rw [List.getElem?_replicate] at hx
    split at hx
    · cases hx; exact VR.undef φ
    · cases hx
  refine sound_X hm hSok hS htab hn c xc h3 _ m _ w φ e ts m1 o _ hi htm hex ?_
  rintro a' w' ⟨φ', q1, q2, q3, q4⟩
  have fin : e ≠ .exit 0 → (∀ id, e ≠ .exit id) → LeavesInM (rf none) 0 P fn a'.tmps (fun e w' => ∃ V φ', e = .returned V ∧ VR φ' v V ∧ Inv φ' m' w' ∧ Frm φ m w φ' m' w') a'.defers .returning w' := by
    intro _ hne
    cases o with
    | none =>
      have hv : (resVs ts m1 rs).map (fun l => (oneOf l, m1)) = some (v, m') := by
        cases e with
        | exit id => exact absurd rfl (hne id)
        | normal => exact h
        | ret => exact h
      simp only [Option.map_eq_some_iff, Prod.mk.injEq] at hv
      obtain ⟨l, hl, rfl, rfl⟩ := hv
      obtain ⟨V, hV, hr⟩ := results_ok (P := P) q2 q1 h4 hl
      simp only at q4
      rw [q4]
      exact ⟨V, hV, V, φ', rfl, hr, q2, q3⟩
    | some N =>
      obtain ⟨lo, hlo, hd⟩ := q4
      have hv : (match m1.get N with
        | some ⟨.deferR, false, none⟩ => (resVs ts (m1.kill N) rs).map fun l => (oneOf l, m1.kill N)
        | _ => none) = some (v, m') := by
        cases e with
        | exit id => exact absurd rfl (hne id)
        | normal => exact h
        | ret => exact h
      split at hv
      · rename_i hN
        simp only [Option.map_eq_some_iff, Prod.mk.injEq] at hv
        obtain ⟨l, hl, rfl, rfl⟩ := hv
        obtain ⟨l', hl', ⟨_, hok⟩⟩ := q2.live _ _ hN
        rw [hlo] at hl'; cases hl'
        obtain ⟨i2, f2⟩ := q2.dropObj hN rfl hlo (.deferred none)
        obtain ⟨V, hV, hr⟩ := results_ok (P := P) i2 q1 h4 hl
        rw [hd]
        exact ⟨by simp, .inl ⟨_, _, rfl, run_takeDeferred hok, V, hV, V, φ', rfl, hr, i2, q3.trans f2⟩⟩
      · cases hv
  cases e with
  | normal => exact fin (by simp) (by simp)
  | ret => exact fin (by simp) (by simp)
  | exit id => cases o <;> cases h
end

/-- More hooks, none where the table stands: more answers. -/
theorem Call_ext {S S' : CallF} {tab : Tab} (h : ∀ f a m r, S f a m = some r → S' f a m = some r) (h' : ∀ f, (tab f).isSome = true → ∀ a m r, S' f a m = some r → S f a m = some r) : LeC (Call S tab) (Call S' tab) := by
  have key : ∀ n, LeC (call S tab n) (call S' tab n) := by
    intro n
    induction n with
    | zero => intro f a m r e; exact h _ _ _ _ e
    | succ n ih =>
      intro f a m r e
      simp only [call] at e ⊢
      cases hs : S f a m with
      | some q =>
        rw [hs] at e
        rw [h _ _ _ _ hs]; exact e
      | none =>
        rw [hs] at e
        simp only [Option.bind_eq_some_iff] at e
        obtain ⟨fn, hf, e⟩ := e
        cases hs' : S' f a m with
        | some q =>
          have := h' f (by rw [hf]; rfl) a m q hs'
          rw [hs] at this; cases this
        | none =>
          simp only [Option.bind_eq_some_iff]
          refine ⟨fn, hf, ?_⟩
          simp only [body, Option.bind_eq_some_iff] at e ⊢
          obtain ⟨o, ho, e⟩ := e
          exact ⟨o, exec_mono ih (Nat.le_refl _) ho, e⟩
  intro f a m r e
  obtain ⟨n, hn⟩ := Call_iff.1 e
  exact Call_iff.2 ⟨n, key n _ _ _ _ hn⟩

/-- A hook's answer. -/
theorem Call_hook {S : CallF} {tab : Tab} {f : FuncId} {a : List Value} {m : Mem} {r : Value × Mem} (h : S f a m = some r) : Call S tab f a m = some r := Call_iff.2 ⟨0, h⟩

end Go.Fx
