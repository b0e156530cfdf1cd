/- Closed runs: an evaluator by rounds, whose steps are the functions' printed texts. -/
import Derived.Test.YtnngjdfadfblmaaGreatDoorFxDec
namespace Go.Fx
open Go
set_option linter.unusedSimpArgs false
set_option linter.unusedVariables false

section
variable (call : CallF) (jp : Ks → List Value → Mem → O)

def evG : ACode → Ks → Cont → List Value → Mem → O
  | .skip, _, k, ts, m => k.n ts m
  | .region ops, _, k, ts, m => evOps call ops ts m k.n
  | .draw ops lh, _, k, ts, m => evD call ops lh ts m [] [] k.n
  | .drawF ops lh, _, k, ts, m => evD call (ops.map (setB m.next)) lh ts (m.bump ops.length) [] [] k.n
  | .seq a b, K, k, ts, m =>
    if nN a ≤ 1 || smallC b k.s then evG a (.code b :: K) ⟨evG b K k, k.e, k.r, smallC b k.s⟩ ts m
    else evG a (.code b :: K) ⟨jp (strip (.code b :: K)), k.e, k.r, true⟩ ts m
  | .cond c a b, K, k, ts, m => evX ts c fun v => cnd v (evG a K k ts m) (evG b K k ts m)
  | .block id a, K, k, ts, m =>
    if nN a + nE id a ≤ 1 || k.s then evG a (.blk id :: K) ⟨k.n, fun j => if j = id then k.n else k.e j, k.r, k.s⟩ ts m
    else evG a (.blk id :: K) ⟨jp (strip K), fun j => if j = id then jp (strip K) else k.e j, k.r, true⟩ ts m
  | .loop a, K, _, ts, m => jp (.loop a :: K) ts m
  | .exit id, _, k, ts, m => k.e id ts m
  | .ret, _, k, ts, m => k.r ts m
  | .stop, _, _, _, _ => none

variable (rs : List ARes)
def contG : Ks → Cont
  | [] => ⟨fin rs, fun _ _ _ => none, fin rs, true⟩
  | .code c :: K => if smallC c (contG K).s then ⟨evG call jp c K (contG K), (contG K).e, (contG K).r, true⟩ else ⟨jp (strip (.code c :: K)), (contG K).e, (contG K).r, true⟩
  | .blk id :: K => ⟨(contG K).n, fun j => if j = id then (contG K).n else (contG K).e j, (contG K).r, (contG K).s⟩
  | .loop a :: K => ⟨jp (.loop a :: K), (contG K).e, (contG K).r, true⟩

def evPtG : Ks → List Value → Mem → O
  | .loop a :: K => evG call jp a (.loop a :: K) ⟨jp (.loop a :: K), (contG call jp rs K).e, (contG call jp rs K).r, true⟩
  | .code c :: K => evG call jp c K (contG call jp rs K)
  | K => (contG call jp rs K).n
end

theorem evC_evG (S : CallF) (tab : Tab) (rs : List ARes) : ∀ (c : ACode) (K : Ks) (k : Cont) (ts : List Value) (m : Mem), evC S tab rs c K k ts m = evG (Call S tab) (jmp S tab rs) c K k ts m := by
  intro c
  induction c with
  | seq a b iha ihb =>
    intro K k ts m
    simp only [evC, evG]
    have hb : evC S tab rs b K k = evG (Call S tab) (jmp S tab rs) b K k := by funext ts m; exact ihb K k ts m
    rw [iha, iha, hb]
  | cond c a b iha ihb => intro K k ts m; simp only [evC, evG, iha, ihb]
  | block id a ih => intro K k ts m; simp only [evC, evG, ih]
  | _ => intro K k ts m; rfl

theorem contOf_contG (S : CallF) (tab : Tab) (rs : List ARes) : ∀ K : Ks, contOf S tab rs K = contG (Call S tab) (jmp S tab rs) rs K
  | [] => rfl
  | .code c :: K => by
    have ih := contOf_contG S tab rs K
    have : evC S tab rs c K = evG (Call S tab) (jmp S tab rs) c K := by funext k ts m; exact evC_evG S tab rs c K k ts m
    simp only [contOf, contG, ih, this]
  | .blk id :: K => by simp only [contOf, contG, contOf_contG S tab rs K]
  | .loop a :: K => by simp only [contOf, contG, contOf_contG S tab rs K]

theorem evPt_evPtG (S : CallF) (tab : Tab) (rs : List ARes) (K : Ks) (ts : List Value) (m : Mem) : evPt S tab rs K ts m = evPtG (Call S tab) (jmp S tab rs) rs K ts m := by
  cases K with
  | nil => rfl
  | cons f K => cases f <;> simp only [evPt, evPtG, contOf_contG, evC_evG]

/- more answers -/
def Le (a b : O) : Prop := ∀ r, a = some r → b = some r
theorem Le.refl (a : O) : Le a a := fun _ h => h
theorem le_bind {α : Type} {a : Option α} {f g : α → O} (h : ∀ x, Le (f x) (g x)) : Le (a.bind f) (a.bind g) := by
  intro r hr
  cases a with
  | none => cases hr
  | some x => exact h x r hr
theorem le_bind' {α : Type} {a b : Option α} {f g : α → O} (hab : ∀ x, a = some x → b = some x) (h : ∀ x, Le (f x) (g x)) : Le (a.bind f) (b.bind g) := by
  intro r hr
  cases a with
  | none => cases hr
  | some x => rw [hab x rfl]; exact h x r hr

def LeF (call call' : CallF) : Prop := ∀ f l m, Le (call f l m) (call' f l m)
def LeJ (jp jp' : Ks → List Value → Mem → O) : Prop := ∀ K ts m, Le (jp K ts m) (jp' K ts m)
structure LeK (k k' : Cont) : Prop where
  n : ∀ ts m, Le (k.n ts m) (k'.n ts m)
  e : ∀ j ts m, Le (k.e j ts m) (k'.e j ts m)
  r : ∀ ts m, Le (k.r ts m) (k'.r ts m)
  s : k.s = k'.s

theorem stepOp_le {call call' : CallF} (h : LeF call call') (ts : List Value) (m : Mem) (op : AOp) : ∀ r, stepOp call ts m op = some r → stepOp call' ts m op = some r := by
  intro r hr
  cases op <;> first
    | exact hr
    | (simp only [stepOp, Option.bind_eq_some_iff] at hr ⊢
       first
         | (obtain ⟨l, hl, hr⟩ := hr; exact ⟨l, hl, h _ _ _ _ hr⟩)
         | (obtain ⟨v, hv, p, hp, l, hl, hr⟩ := hr; exact ⟨v, hv, p, hp, l, hl, h _ _ _ _ hr⟩))

theorem evOp_le {call call' : CallF} (h : LeF call call') (ts : List Value) (m : Mem) {k k' : Value → Mem → O} (hk : ∀ v m, Le (k v m) (k' v m)) (op : AOp) : Le (evOp call ts m k op) (evOp call' ts m k' op) := by
  rw [evOp_eq, evOp_eq]
  exact le_bind' (stepOp_le h ts m op) fun p => hk _ _

theorem gdo_le {a b : Option (Value × Mem)} (h : ∀ x, a = some x → b = some x) (v : Value) (w : Bool) (m : Mem) : ∀ x, gdo v w a m = some x → gdo v w b m = some x := by
  intro x hx
  unfold gdo at hx ⊢
  split at hx
  · rename_i hw; rw [if_pos hw]; exact h x hx
  · rename_i hw; rw [if_neg hw]; exact hx

theorem evOps_le {call call' : CallF} (h : LeF call call') : ∀ (ops : List AOper) (ts : List Value) (m : Mem) {k k' : List Value → Mem → O}, (∀ ts m, Le (k ts m) (k' ts m)) → Le (evOps call ops ts m k) (evOps call' ops ts m k')
  | [], ts, m, k, k', hk => hk ts m
  | ⟨d, op, none⟩ :: r, ts, m, k, k', hk => by
    simp only [evOps]
    exact evOp_le h ts m (fun v m => evOps_le h r _ _ hk) op
  | ⟨d, op, some (t, w)⟩ :: r, ts, m, k, k', hk => by
    simp only [evOps]
    exact le_bind' (gdo_le (fun x hx => evOp_le h ts m (fun v m => Le.refl _) op x hx) _ _ _) fun p => evOps_le h r _ _ hk

theorem chk_le (ms : List Mem) (rq : List Rq) {a b : O} (h : Le a b) : Le (chk ms rq a) (chk ms rq b) := by
  intro r hr
  unfold chk at hr ⊢
  split at hr
  · rename_i hc; rw [if_pos hc]; exact h r hr
  · cases hr

theorem evD_le {call call' : CallF} (h : LeF call call') : ∀ (ops : List AOper) (lh : List (Nat × Nat)) (ts : List Value) (m : Mem) (ms : List Mem) (rq : List Rq) {k k' : List Value → Mem → O}, (∀ ts m, Le (k ts m) (k' ts m)) → Le (evD call ops lh ts m ms rq k) (evD call' ops lh ts m ms rq k')
  | [], lh, ts, m, ms, rq, k, k', hk => by simp only [evD]; exact chk_le _ _ (hk ts m)
  | ⟨d, op, none⟩ :: r, lh, ts, m, ms, rq, k, k', hk => by
    simp only [evD]
    split
    · exact evOp_le h ts m (fun v m => evD_le h r _ _ _ _ _ hk) op
    · rw [evReq_eq, evReq_eq]
      exact le_bind fun q => le_bind fun v => evD_le h r _ _ _ _ _ hk
    · exact evOp_le h ts m (fun v _ => evD_le h r _ _ _ _ _ hk) op
  | ⟨d, op, some (t, w)⟩ :: r, lh, ts, m, ms, rq, k, k', hk => by
    simp only [evD]
    split
    · exact le_bind' (gdo_le (fun x hx => evOp_le h ts m (fun v m => Le.refl _) op x hx) _ _ _) fun p => evD_le h r _ _ _ _ _ hk
    · exact le_bind fun p => evD_le h r _ _ _ _ _ hk
    · exact le_bind' (gdo_le (fun x hx => evOp_le h ts m (fun v m => Le.refl _) op x hx) _ _ _) fun p => evD_le h r _ _ _ _ _ hk

theorem evG_le {call call' : CallF} (h : LeF call call') {jp jp' : Ks → List Value → Mem → O} (hj : LeJ jp jp') : ∀ (c : ACode) (K : Ks) (k k' : Cont), LeK k k' → ∀ ts m, Le (evG call jp c K k ts m) (evG call' jp' c K k' ts m) := by
  intro c
  induction c with
  | skip => intro K k k' hk ts m; exact hk.n ts m
  | exit id => intro K k k' hk ts m; exact hk.e id ts m
  | ret => intro K k k' hk ts m; exact hk.r ts m
  | stop => intro K k k' hk ts m; exact Le.refl _
  | region ops => intro K k k' hk ts m; exact evOps_le h ops ts m hk.n
  | draw ops lh => intro K k k' hk ts m; exact evD_le h ops lh ts m _ _ hk.n
  | drawF ops lh => intro K k k' hk ts m; exact evD_le h _ lh ts _ _ _ hk.n
  | loop a ih => intro K k k' hk ts m; exact hj _ ts m
  | cond c a b iha ihb =>
    intro K k k' hk ts m
    simp only [evG, evX_eq]
    refine le_bind fun v => ?_
    intro r hr
    unfold cnd at hr ⊢
    split at hr
    · exact iha K k k' hk ts m r hr
    · exact ihb K k k' hk ts m r hr
    · cases hr
  | seq a b iha ihb =>
    intro K k k' hk ts m
    simp only [evG, ← hk.s]
    split
    · refine iha _ _ _ ?_ ts m
      exact LeK.mk (fun ts m => ihb K k k' hk ts m) (fun j => hk.e j) hk.r rfl
    · refine iha _ _ _ ?_ ts m
      exact LeK.mk (fun ts m => hj _ ts m) (fun j => hk.e j) hk.r rfl
  | block id a ih =>
    intro K k k' hk ts m
    simp only [evG, ← hk.s]
    split
    · refine ih _ _ _ ?_ ts m
      refine LeK.mk hk.n (fun j ts m => ?_) hk.r rfl
      simp only
      split
      · exact hk.n ts m
      · exact hk.e j ts m
    · refine ih _ _ _ ?_ ts m
      refine LeK.mk (fun ts m => hj _ ts m) (fun j ts m => ?_) hk.r rfl
      simp only
      split
      · exact hj _ ts m
      · exact hk.e j ts m

theorem contG_le {call call' : CallF} (h : LeF call call') {jp jp' : Ks → List Value → Mem → O} (hj : LeJ jp jp') (rs : List ARes) : ∀ K : Ks, LeK (contG call jp rs K) (contG call' jp' rs K)
  | [] => ⟨fun _ _ => Le.refl _, fun _ _ _ => Le.refl _, fun _ _ => Le.refl _, rfl⟩
  | .code c :: K => by
    have ih := contG_le h hj rs K
    simp only [contG, ← ih.s]
    split
    · exact ⟨fun ts m => evG_le h hj c K _ _ ih ts m, ih.e, ih.r, rfl⟩
    · exact ⟨fun ts m => hj _ ts m, ih.e, ih.r, rfl⟩
  | .blk id :: K => by
    have ih := contG_le h hj rs K
    simp only [contG]
    refine ⟨ih.n, fun j ts m => ?_, ih.r, ih.s⟩
    simp only
    split
    · exact ih.n ts m
    · exact ih.e j ts m
  | .loop a :: K => by
    have ih := contG_le h hj rs K
    simp only [contG]
    exact ⟨fun ts m => hj _ ts m, ih.e, ih.r, rfl⟩

theorem evPtG_le {call call' : CallF} (h : LeF call call') {jp jp' : Ks → List Value → Mem → O} (hj : LeJ jp jp') (rs : List ARes) (K : Ks) (ts : List Value) (m : Mem) : Le (evPtG call jp rs K ts m) (evPtG call' jp' rs K ts m) := by
  cases K with
  | nil => exact (contG_le h hj rs []).n ts m
  | cons f K =>
    have ih := contG_le h hj rs K
    cases f with
    | code c => exact evG_le h hj c K _ _ ih ts m
    | loop a =>
      refine evG_le h hj a _ _ _ ?_ ts m
      exact LeK.mk (fun ts m => hj _ ts m) (fun j => ih.e j) ih.r rfl
    | blk id => exact (contG_le h hj rs (.blk id :: K)).n ts m

theorem le_call {c c' : Bool → Nat → List Value → Mem → O} (h : ∀ b f l m, Le (c b f l m) (c' b f l m)) {b : Bool} {f : Nat} {l : List Value} {m : Mem} {k k' : Value × Mem → O} (hk : ∀ p, Le (k p) (k' p)) : Le ((c b f l m).bind k) ((c' b f l m).bind k') := le_bind' (h b f l m) hk
theorem le_gdo {a b : O} (h : Le a b) {v : Value} {w : Bool} {m : Mem} {k k' : Value × Mem → O} (hk : ∀ p, Le (k p) (k' p)) : Le ((gdo v w a m).bind k) ((gdo v w b m).bind k') := le_bind' (gdo_le h v w m) hk
theorem le_cnd {v : Value} {a b a' b' : O} (h1 : Le a a') (h2 : Le b b') : Le (cnd v a b) (cnd v a' b') := by
  intro r hr
  unfold cnd at hr ⊢
  split at hr
  · exact h1 r hr
  · exact h2 r hr
  · cases hr
theorem le_ite {c : Prop} [Decidable c] {a b : O} (h : Le a b) : Le (if c then a else none) (if c then b else none) := by
  intro r hr
  split at hr
  · rename_i hc; rw [if_pos hc]; exact h r hr
  · cases hr
theorem le_nw {m : Mem} {x : ABlk} {k k' : Value → Mem → O} (h : ∀ v m, Le (k v m) (k' v m)) : Le (nw m x k) (nw m x k') := h _ _
theorem le_nws {m : Mem} {x : ABlk} {n : Nat} {k k' : Value → Mem → O} (h : ∀ v m, Le (k v m) (k' v m)) : Le (nws m x n k) (nws m x n k') := h _ _
theorem le_nwAt {b : Nat} {m : Mem} {x : ABlk} {n : Option Nat} {k k' : Value → Mem → O} (h : ∀ v m, Le (k v m) (k' v m)) : Le (nwAt b m x n k) (nwAt b m x n k') := h _ _

/- rounds -/
abbrev RunT := Bool → Nat → List Value → Mem → O
abbrev BodyT := RunT → List Value → Mem → O
inductive BT where
  | nil
  | node (k : Nat) (b : BodyT) (l r : BT)
def BT.find : BT → Nat → Option BodyT
  | .nil, _ => none
  | .node k b l r, i => bif Nat.beq i k then some b else bif Nat.blt i k then l.find i else r.find i
def GoodB (FN : RunT) (w : Bool) (k : Nat) (b : BodyT) : Prop := ∀ r : RunT, (∀ b i l m, Le (r b i l m) (FN b i l m)) → ∀ l m, Le (b r l m) (FN w k l m)
inductive BT.Good (FN : RunT) (w : Bool) : BT → Prop where
  | nil : BT.Good FN w .nil
  | node {k : Nat} {b : BodyT} {l r : BT} (h : GoodB FN w k b) (hl : l.Good FN w) (hr : r.Good FN w) : BT.Good FN w (.node k b l r)
theorem BT.Good.find {FN : RunT} {w : Bool} {i : Nat} {b : BodyT} : ∀ {t : BT}, t.Good FN w → t.find i = some b → GoodB FN w i b := by
  intro t ht
  induction ht with
  | nil => intro h; cases h
  | @node k b' l r h _ _ ihl ihr =>
    intro hf
    simp only [BT.find] at hf
    cases e : Nat.beq i k with
    | true =>
      rw [e] at hf
      simp only [cond_true, Option.some.injEq] at hf
      subst hf
      have := Nat.eq_of_beq_eq_true e
      subst this
      exact h
    | false =>
      rw [e] at hf
      simp only [cond_false] at hf
      cases e2 : Nat.blt i k with
      | true => rw [e2] at hf; exact ihl hf
      | false => rw [e2] at hf; exact ihr hf
def rounds (t p : BT) : Nat → RunT
  | 0 => fun _ _ _ _ => none
  | n + 1 => fun w i l m => match (match w with | true => t.find i | false => p.find i) with
    | some b => b (rounds t p n) l m
    | none => none
theorem rounds_le {FN : RunT} {t p : BT} (ht : t.Good FN true) (hp : p.Good FN false) : ∀ n w i l m, Le (rounds t p n w i l m) (FN w i l m)
  | 0, _, _, _, _ => fun r h => by cases h
  | n + 1, w, i, l, m => by
    intro r hr
    simp only [rounds] at hr
    split at hr
    · rename_i b hb
      cases w with
      | true => exact ht.find hb _ (rounds_le ht hp n) l m r hr
      | false => exact hp.find hb _ (rounds_le ht hp n) l m r hr
    · cases hr

end Go.Fx
