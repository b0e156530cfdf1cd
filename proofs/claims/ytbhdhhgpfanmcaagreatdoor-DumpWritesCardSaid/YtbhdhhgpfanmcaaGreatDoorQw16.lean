/- Parts of a proof: TreeJ, TreeK, TreeL, TreeN. Conditions: none. -/
import Derived.Test.YtbhdhhgpfanmcaaGreatDoorQw15
set_option linter.unusedSimpArgs false
set_option linter.unusedVariables false
namespace Go.Fx.Tryz
open Go Go.Fx
theorem ex3 (a b c:Value):qG 0 (.tuple #[a,b,c])=some a/\qG 1 (.tuple #[a,b,c])=some b/\qG 2 (.tuple #[a,b,c])=some c:=⟨rfl,rfl,rfl⟩
theorem Vi {lo : Nat} {v : Value} {n : Nd} {m : Mem} (h : TN lo m v n) (hf : n.Fit) (hn : if n.leaf then 2 ≤ n.pairs.length else 3 ≤ n.keys.length ∧ n.kids.length = n.keys.length + 1) :
    W (Call S tab 170 [v] m) fun r m' => (∃ va vb, r = .tuple #[va, vb, str (qz n).2.2] ∧ TN m.next m' va (qz n).1 ∧ TN m.next m' vb (qz n).2.1) ∧ Upd [] m m' := by
  obtain ⟨sp, sk, si, rfl, a1, a2, a3⟩ := h.ex;rw [qmi];simp only [st0, qS];have u1 : Upd [] m (m.add (qg n.leaf sp sk si)) := Upd.add _ _ _;have g1 : (m.add (qg n.leaf sp sk si)).get m.next = some (qg n.leaf sp sk si) := Mem.qf ..;have n1 : (m.add (qg n.leaf sp sk si)).next = m.next + 1 := rfl;generalize (m.add (qg n.leaf sp sk si)) = m1 at u1 g1 n1;have u2 : Upd [] m1 (m1.add (qg false (.slice none 0 0) (.slice none 0 0) (.slice none 0 0))) := Upd.add _ _ _;have h2 : (m1.add (qg false (.slice none 0 0) (.slice none 0 0) (.slice none 0 0))).get m1.next = some (qg false (.slice none 0 0) (.slice none 0 0) (.slice none 0 0)) := Mem.qf ..;have n2 : (m1.add (qg false (.slice none 0 0) (.slice none 0 0) (.slice none 0 0))).next = m1.next + 1 := rfl;have g2 := qq u2 (by omega) g1;generalize (m1.add (qg false (.slice none 0 0) (.slice none 0 0) (.slice none 0 0))) = m2 at u2 h2 n2 g2;have u3 : Upd [] m2 (m2.add (qg false (.slice none 0 0) (.slice none 0 0) (.slice none 0 0))) := Upd.add _ _ _;have o3 : (m2.add (qg false (.slice none 0 0) (.slice none 0 0) (.slice none 0 0))).get m2.next = some (qg false (.slice none 0 0) (.slice none 0 0) (.slice none 0 0)) := Mem.qf ..;have n3 : (m2.add (qg false (.slice none 0 0) (.slice none 0 0) (.slice none 0 0))).next = m2.next + 1 := rfl;have g3 := qq u3 (by omega) g2;have h3 := qq u3 (by omega) h2;generalize (m2.add (qg false (.slice none 0 0) (.slice none 0 0) (.slice none 0 0))) = m3 at u3 o3 n3 g3 h3;have u03 : Upd [] m m3 := (u1.qu u2).qu u3;unfold qz;cases hl : n.leaf with
  | true =>
    rw [hl, if_pos rfl] at hn;rw [hl] at g3;have e1 : ((n.pairs.length : Int) > 1) = True := eq_true (by omega);simp only [st0, fa, qF g3 (o := 0 + 0) rfl, qF g3 (o := 0 + 1) rfl, zf a1];have e2 : decide ((1 : Int) < (n.pairs.length : Int)) = true := by simp; omega
    simp only [st0, e2];refine qh.2 ((VV hf.pl hn hf.ps (a1.qn u03)).mono fun v4 m4 ⟨⟨va, vb, r4, ta, tb⟩, u4⟩ => ?_);subst r4;obtain ⟨pa, ka, ia, rfl, qa1, qa2, qa3⟩ := ta.ex;obtain ⟨pb, kb, ib, rfl, qb1, qb2, qb3⟩ := tb.ex;have h4 := qq u4 (by omega) h3;have o4 := qq u4 (by omega) o3;have x4 := u4.next;simp only [st0, (ex3 _ _ _).1, (ex3 _ _ _).2.1, (ex3 _ _ _).2.2, qX h4 _ qa1.one.2 qa2.one.2 qa3.one.2];have u5 : Upd [m1.next] m4 (m4.put m1.next (qg (Nd.lf (n.pairs.take (zs n.pairs))).leaf pa ka ia)) := Upd.put _ _ (by simp);have h5 : (m4.put m1.next (qg (Nd.lf (n.pairs.take (zs n.pairs))).leaf pa ka ia)).get m1.next = _ := Mem.qe ..;have o5 : (m4.put m1.next (qg (Nd.lf (n.pairs.take (zs n.pairs))).leaf pa ka ia)).get m2.next = _ := (Mem.qs m4 _ (by omega)).trans o4;generalize (m4.put m1.next (qg (Nd.lf (n.pairs.take (zs n.pairs))).leaf pa ka ia)) = m5 at u5 h5 o5;simp only [st0, qX o5 _ qb1.one.2 qb2.one.2 qb3.one.2];have u6 : Upd [m2.next] m5 (m5.put m2.next (qg (Nd.lf (n.pairs.drop (zs n.pairs))).leaf pb kb ib)) := Upd.put _ _ (by simp);have o6 : (m5.put m2.next (qg (Nd.lf (n.pairs.drop (zs n.pairs))).leaf pb kb ib)).get m2.next = _ := Mem.qe ..;have h6 : (m5.put m2.next (qg (Nd.lf (n.pairs.drop (zs n.pairs))).leaf pb kb ib)).get m1.next = _ := (Mem.qs m5 _ (by omega)).trans h5;generalize (m5.put m2.next (qg (Nd.lf (n.pairs.drop (zs n.pairs))).leaf pb kb ib)) = m6 at u6 h6 o6;simp only [st0, qD h6, qD o6];have hk : ∀ b ∈ [m1.next], b < m3.next := fun b hb => by simp at hb; omega
    have hk2 : ∀ b ∈ [m2.next], b < m3.next := fun b hb => by simp at hb; omega
    refine ⟨⟨_, _, rfl, ?_, ?_⟩, ((u03.qu u4).then' u5 (fun b hb => .inr (by simp at hb; omega))).then' u6 (fun b hb => .inr (by simp at hb; omega))⟩
    · exact ((ta.upd u5 hk).upd u6 hk2).low (by omega)
    · exact ((tb.upd u5 hk).upd u6 hk2).low (by omega)
  | false =>
    rw [hl, if_neg (by simp)] at hn;rw [hl] at g3;obtain ⟨hk3, hkl⟩ := hn;have hh1 : 1 ≤ zq n.keys := Zd (by cases hx : n.keys with | nil => rw [hx] at hk3; simp at hk3 | cons a r => simp)
    have hh2 : zq n.keys ≤ n.keys.length - 2 := Zc (by omega);have hlt : zq n.keys < n.keys.length := by omega
    have hkk := hf.kl;have e2 : decide ((2 : Int) < (n.keys.length : Int)) = true := by simp; omega
    have e3 : ((n.kids.length : Int) = ((n.keys.length + 1 : Nat) : Int)) = True := eq_true (by omega);have b2 := a2.qn u03;have b3 := a3.qn u03;simp only [st0, fa, qF g3 (o := 0 + 0) rfl, qF g3 (o := 0 + 2) rfl, qF g3 (o := 0 + 3) rfl, zf a2, zf a3, e2, qB (i := n.keys.length) (by omega), e3, qhZ hf.kl hk3 hf.ks b2];generalize hI : zq n.keys = i at hh1 hh2 hlt;have bub : Upd [] m3 (m3.zu 14) := Upd.zu _ _ _;have nbu : (m3.zu 14).next = m3.next + 14 := rfl;have g4 := qq bub (by omega) g3;have h4 := qq bub (by omega) h3;have o4 := qq bub (by omega) o3;generalize m3.zu 14 = m4 at bub nbu g4 h4 o4;have c2 := b2.qn bub;have c3 := b3.qn bub;obtain ⟨w1, e5, k1⟩ := c2.YG (k := i) (by omega);obtain ⟨w2, e6, k2⟩ := c3.YG (k := i + 1) (by omega);rw [xw] at e5;rw [jU] at e6;simp only [st0, qF g4 (o := 0 + 2) rfl, e5];refine qh.2 ((VA k1 (by rw [ltI]; omega)).mono fun v5 m5 ⟨t5, u5, r5⟩ => ?_);have x5 := u5.next;have g5 := qq u5 (by omega) g4;have h5 := qq u5 (by omega) h4;have o5 := qq u5 (by omega) o4;simp only [st0, qF g5 (o := 0 + 3) rfl, qB (i := i) (by omega), e6];refine qh.2 ((VB (k2.qn u5) (by rw [ltI]; omega)).mono fun v6 m6 ⟨t6, u6, r6⟩ => ?_);have x6 := u6.next;have g6 := qq u6 (by omega) g5;have h6 := qq u6 (by omega) h5;have o6 := qq u6 (by omega) o5;have t56 := t5.ap.qn u6;simp only [st0, WJ v5 v6 t5.ap.one.1 t6.ap.one.1];have u7 : Upd [m3.next + 12] m6 (m6.put (m3.next + 12) (qg false (.slice none 0 0) (.slice none 0 0) (.slice none 0 0))) := Upd.put _ _ (by simp);have q7 : (m6.put (m3.next + 12) (qg false (.slice none 0 0) (.slice none 0 0) (.slice none 0 0))).get (m3.next + 12) = _ := Mem.qe ..;generalize (m6.put (m3.next + 12) (qg false (.slice none 0 0) (.slice none 0 0) (.slice none 0 0))) = m7 at u7 q7;simp only [st0, qX q7 false (sp' := .slice none 0 0) (sk' := v5) (si' := v6) rfl t5.ap.one.2 t6.ap.one.2];have u8 : Upd [m3.next + 12] m7 (m7.put (m3.next + 12) (qg false (.slice none 0 0) v5 v6)) := Upd.put _ _ (by simp);have q8 : (m7.put (m3.next + 12) (qg false (.slice none 0 0) v5 v6)).get (m3.next + 12) = _ := Mem.qe ..;generalize (m7.put (m3.next + 12) (qg false (.slice none 0 0) v5 v6)) = m8 at u8 q8;have u68 : Upd [m3.next + 12] m6 m8 := u7.trans u8;have x7 := u7.next;have x8 := u8.next;have kp7 : ∀ {c : Nat} {x : ABlk}, c < m3.next → m6.get c = some x → m7.get c = some x := fun hc hx => (u7.same _ (by omega) (by simp; omega)).trans hx
    have kp8 : ∀ {c : Nat} {x : ABlk}, c < m3.next → m6.get c = some x → m8.get c = some x := fun hc hx => (u68.same _ (by omega) (by simp; omega)).trans hx
    have g7 := kp7 (by omega) g6;have g8 := kp8 (by omega) g6;have h8 := kp8 (by omega) h6;have o8 := kp8 (by omega) o6;have hd5 : ∀ b ∈ qc v5, b ∉ [m3.next + 12] := fun b hb hm => by simp at hm; have := r5 b hb; omega
    have hd6 : ∀ b ∈ qc v6, b ∉ [m3.next + 12] := fun b hb hm => by simp at hm; have := r6 b hb; omega
    have p8 : TAp encS 9 m8 v5 (n.keys.take i) := t56.upd u68 hd5;have p8' : TAp zN 3 m8 v6 (n.kids.take (i + 1)) := t6.ap.upd u68 hd6;have u08 : Upd [] m m8 := ((((u03.qu bub).qu u5).qu u6).then' u68 (fun b hb => .inr (by simp at hb; omega)));refine jC (fun r hr => ?_) ?_
    · simp only [lcI, nmI, or_false] at hr;rcases hr with rfl | rfl | rfl | rfl
      · exact okR fun k _ hk' => by obtain rfl : k = 0 := by omega
                                    exact ⟨_, rfl, qF g4 rfl⟩
      · exact okR fun k _ hk' => by obtain rfl : k = 0 := by omega
                                    exact ⟨_, rfl, e5 _⟩
      · exact okR fun k _ hk' => by
          have : k = 0 ∨ k = 1 := by omega
          rcases this with rfl | rfl
          · exact ⟨_, rfl, qF g4 rfl⟩
          · exact ⟨_, rfl, qF g5 rfl⟩
      · exact okR fun k _ hk' => by
          have : k = 0 ∨ k = 1 := by omega
          rcases this with rfl | rfl <;> exact ⟨_, rfl, e6 _⟩
    have bu9 : Upd [] m8 (m8.zu 15) := Upd.zu _ _ _;have n9 : (m8.zu 15).next = m8.next + 15 := rfl;have g9 := qq bu9 (by omega) g8;have h9 := qq bu9 (by omega) h8;have o9 := qq bu9 (by omega) o8;have q9 := qq bu9 (by omega) q8;generalize m8.zu 15 = m9 at bu9 n9 g9 h9 o9 q9;have u09 := u08.qu bu9;have d2 := a2.qn u09;have d3 := a3.qn u09;obtain ⟨w3, e7, k3⟩ := d2.from (k := i + 1) (by omega);obtain ⟨w4, e8, k4⟩ := d3.from (k := i + 1) (by omega);rw [xw] at e7;rw [jU] at e8;simp only [st0, qF g9 (o := 0 + 2) rfl, qB (i := i) (by omega), e7 m9 (fun _ _ => rfl)];refine qh.2 ((VA k3 (by rw [ldI]; omega)).mono fun v10 m10 ⟨t10, u10, r10⟩ => ?_);have x10 := u10.next;have g10 := qq u10 (by omega) g9;have h10 := qq u10 (by omega) h9;have o10 := qq u10 (by omega) o9;have q10 := qq u10 (by omega) q9;have e8' := e8 m10 (fun b hb => u10.same b (d3.2 b hb).2 (by simp));simp only [st0, qF g10 (o := 0 + 3) rfl, qB (i := i) (by omega), e8'];refine qh.2 ((VB (k4.qn u10) (by rw [ldI]; omega)).mono fun v11 m11 ⟨t11, u11, r11⟩ => ?_);have x11 := u11.next;have g11 := qq u11 (by omega) g10;have h11 := qq u11 (by omega) h10;have o11 := qq u11 (by omega) o10;have q11 := qq u11 (by omega) q10;have t1011 := t10.ap.qn u11;simp only [st0, WJ v10 v11 t10.ap.one.1 t11.ap.one.1];have u12 : Upd [m8.next + 13] m11 (m11.put (m8.next + 13) (qg false (.slice none 0 0) (.slice none 0 0) (.slice none 0 0))) := Upd.put _ _ (by simp);have q12 : (m11.put (m8.next + 13) (qg false (.slice none 0 0) (.slice none 0 0) (.slice none 0 0))).get (m8.next + 13) = _ := Mem.qe ..;generalize (m11.put (m8.next + 13) (qg false (.slice none 0 0) (.slice none 0 0) (.slice none 0 0))) = m12 at u12 q12;simp only [st0, qX q12 false (sp' := .slice none 0 0) (sk' := v10) (si' := v11) rfl t10.ap.one.2 t11.ap.one.2];have u13 : Upd [m8.next + 13] m12 (m12.put (m8.next + 13) (qg false (.slice none 0 0) v10 v11)) := Upd.put _ _ (by simp);have q13 : (m12.put (m8.next + 13) (qg false (.slice none 0 0) v10 v11)).get (m8.next + 13) = _ := Mem.qe ..;generalize (m12.put (m8.next + 13) (qg false (.slice none 0 0) v10 v11)) = m13 at u13 q13;have ub : Upd [m8.next + 13] m11 m13 := u12.trans u13;have x12 := u12.next;have x13 := u13.next;have kp : ∀ {c : Nat} {x : ABlk}, c < m8.next → m11.get c = some x → m13.get c = some x := fun hc hx => (ub.same _ (by omega) (by simp; omega)).trans hx
    have g13 := kp (by omega) g11;have h13 := kp (by omega) h11;have o13 := kp (by omega) o11;have p13 := kp (by omega) q11;have hd10 : ∀ b ∈ qc v10, b ∉ [m8.next + 13] := fun b hb hm => by simp at hm; have := r10 b hb; omega
    have hd11 : ∀ b ∈ qc v11, b ∉ [m8.next + 13] := fun b hb hm => by simp at hm; have := r11 b hb; omega
    have z10 : TAp encS 9 m13 v10 (n.keys.drop (i + 1)) := t1011.upd ub hd10;have z11 : TAp zN 3 m13 v11 (n.kids.drop (i + 1)) := t11.ap.upd ub hd11;have u8' : Upd [m8.next + 13] m8 m13 := (((bu9.qu u10).qu u11).mono (fun b hb => by cases hb)).Zx ub (fun b hb => .inl hb)
    have y5 : TAp encS 9 m13 v5 (n.keys.take i) := p8.upd u8' (fun b hb hm => by simp at hm; have := p8.lt b hb; omega);have y6 : TAp zN 3 m13 v6 (n.kids.take (i + 1)) := p8'.upd u8' (fun b hb hm => by simp at hm; have := p8'.lt b hb; omega);have u013 : Upd [] m m13 := ((u09.qu u10).qu u11).then' ub (fun b hb => .inr (by simp at hb; omega));refine jC (fun r hr => ?_) ?_
    · simp only [lcI, nmI, or_false] at hr;rcases hr with rfl | rfl | rfl | rfl
      · exact okR fun k _ hk' => by obtain rfl : k = 0 := by omega
                                    exact ⟨_, rfl, qF g9 rfl⟩
      · exact okR fun k _ hk' => by obtain rfl : k = 0 := by omega
                                    exact ⟨_, rfl, e7 _ (fun _ _ => rfl)⟩
      · exact okR fun k _ hk' => by
          have : k = 0 ∨ k = 1 := by omega
          rcases this with rfl | rfl
          · exact ⟨_, rfl, qF g9 rfl⟩
          · exact ⟨_, rfl, qF g10 rfl⟩
      · exact okR fun k _ hk' => by
          have : k = 0 ∨ k = 1 := by omega
          rcases this with rfl | rfl
          · exact ⟨_, rfl, e8 _ (fun _ _ => rfl)⟩
          · exact ⟨_, rfl, e8'⟩
    have d13 := a2.qn u013;obtain ⟨pt, f1, _, f2⟩ := d13.1.index .i64 (jB hlt);rw [xw] at f1;have f2 := f2 (str n.keys[i]) rfl;simp only [st0, qD p13, qD q13, qF g13 (o := 0 + 2) rfl, f1, f2, qX h13 false (sp' := .slice none 0 0) (sk' := v5) (si' := v6) rfl y5.one.2 y6.one.2];have u14 : Upd [m1.next] m13 (m13.put m1.next (qg false (.slice none 0 0) v5 v6)) := Upd.put _ _ (by simp);have h14 : (m13.put m1.next (qg false (.slice none 0 0) v5 v6)).get m1.next = _ := Mem.qe ..;have o14 : (m13.put m1.next (qg false (.slice none 0 0) v5 v6)).get m2.next = _ := (Mem.qs m13 _ (by omega)).trans o13;have p14 : (m13.put m1.next (qg false (.slice none 0 0) v5 v6)).get (m3.next + 12) = _ := (Mem.qs m13 _ (by omega)).trans p13;have q14 : (m13.put m1.next (qg false (.slice none 0 0) v5 v6)).get (m8.next + 13) = _ := (Mem.qs m13 _ (by omega)).trans q13;have g14 : (m13.put m1.next (qg false (.slice none 0 0) v5 v6)).get m.next = _ := (Mem.qs m13 _ (by omega)).trans g13;generalize (m13.put m1.next (qg false (.slice none 0 0) v5 v6)) = m14 at u14 h14 o14 p14 q14 g14;simp only [st0, qX o14 false (sp' := .slice none 0 0) (sk' := v10) (si' := v11) rfl z10.one.2 z11.one.2];have u15 : Upd [m2.next] m14 (m14.put m2.next (qg false (.slice none 0 0) v10 v11)) := Upd.put _ _ (by simp);have o15 : (m14.put m2.next (qg false (.slice none 0 0) v10 v11)).get m2.next = _ := Mem.qe ..;have h15 : (m14.put m2.next (qg false (.slice none 0 0) v10 v11)).get m1.next = _ := (Mem.qs m14 _ (by omega)).trans h14;have p15 : (m14.put m2.next (qg false (.slice none 0 0) v10 v11)).get (m3.next + 12) = _ := (Mem.qs m14 _ (by omega)).trans p14;have q15 : (m14.put m2.next (qg false (.slice none 0 0) v10 v11)).get (m8.next + 13) = _ := (Mem.qs m14 _ (by omega)).trans q14;have g15 : (m14.put m2.next (qg false (.slice none 0 0) v10 v11)).get m.next = _ := (Mem.qs m14 _ (by omega)).trans g14;generalize (m14.put m2.next (qg false (.slice none 0 0) v10 v11)) = m15 at u15 h15 o15 p15 q15 g15;have kx : ∀ {α : Type} {E : Enc α} {e : TypeId} {x : Value} {xs : List α}, TAp E e m13 x xs → (∀ b ∈ qc x, m3.next ≤ b) → TAp E e m15 x xs := fun ht hb => (ht.upd u14 (fun b hb' hm => by simp at hm; have := hb b hb'; omega)).upd u15 (fun b hb' hm => by simp at hm; have := hb b hb'; omega)
    have s5 : ∀ b ∈ qc v5, m3.next ≤ b := fun b hb => by have := r5 b hb; omega
    have s6 : ∀ b ∈ qc v6, m3.next ≤ b := fun b hb => by have := r6 b hb; omega
    have s10 : ∀ b ∈ qc v10, m3.next ≤ b := fun b hb => by have := r10 b hb; omega
    have s11 : ∀ b ∈ qc v11, m3.next ≤ b := fun b hb => by have := r11 b hb; omega
    have hxn : m.next ≤ m3.next := by omega
    have d14 := d13.zL u14 (fun b hb hm => by simp at hm; have := (a2.2 b hb).2; omega);have d15 := d14.zL u15 (fun b hb hm => by simp at hm; have := (a2.2 b hb).2; omega);simp only [st0, qD h15, qD o15];refine jC (fun r hr => ?_) (zv.2 ⟨⟨_, _, ?_, ⟨_, _, _, rfl, RSl.nil _ _ _, ((kx y5 s5).rsl s5).low hxn, ((kx y6 s6).rsl s6).low hxn⟩, ⟨_, _, _, rfl, RSl.nil _ _ _, ((kx z10 s10).rsl s10).low hxn, ((kx z11 s11).rsl s11).low hxn⟩⟩, ?_⟩)
    · simp only [lcI, nmI, or_false] at hr;rcases hr with rfl | rfl | rfl | rfl
      · exact okR fun k _ hk' => by obtain rfl : k = 0 := by omega
                                    exact ⟨_, rfl, qD p13⟩
      · exact okR fun k _ hk' => by
          have : k = 0 ∨ k = 1 := by omega
          rcases this with rfl | rfl
          · exact ⟨_, rfl, qD q13⟩
          · exact ⟨_, rfl, qD q14⟩
      · exact okL (fun M hM => by
          simp only [lcI, nmI, or_false] at hM;rcases hM with rfl | rfl | rfl
          · exact qF g13 rfl
          · exact qF g14 rfl
          · exact qF g15 rfl) (by simp)
      · refine okL (fun M hM => ?_) (by simp);have key : ∀ {M : Mem}, RSl lo encS M sk n.keys → qa pt M = some (str n.keys[i]) := fun hM => by
          obtain ⟨pt', y1, _, y2⟩ := hM.1.index .i64 (jB hlt);rw [xw, f1] at y1;cases y1
          exact y2 (str n.keys[i]) rfl
        simp only [lcI, nmI, or_false] at hM;rcases hM with rfl | rfl | rfl
        · exact key d13
        · exact key d14
        · exact key d15
    · rw [List.getElem?_eq_getElem hlt]; rfl
    · exact (u013.then' u14 (fun b hb => .inr (by simp at hb; omega))).then' u15 (fun b hb => .inr (by simp at hb; omega))
end Go.Fx.Tryz
namespace Go.Fx.Tryz
open Go Go.Fx
abbrev Pg:=List (Nat × Bs × Nat)
def esL (l:Pg):List MapEntry:=l.map λe=>{ key:=.int .i64 (e.1:Int),val:=str e.2.1,born:=e.2.2 }
def lkL:Pg->Nat->Option Bs
 | [],_=>none
 | e::l,k=>if e.1=k then some e.2.1 else lkL l k
def upL:Pg->Nat->Bs->Nat->Pg
 | [],k,d,c=>[(k,d,c)]
 | e::l,k,d,c=>if e.1=k then (k,d,e.2.2)::l else e::upL l k d c
theorem qcj (k:Nat) (d:Bs) (c:Nat) (j:Nat):∀ l:Pg,lkL (upL l k d c) j=if j=k then some d else lkL l j
 | []=>by simp only [upL,lkL,eq_comm]
 | e::l=>by
  unfold upL;by_cases h:e.1=k
  ·rw [if_pos h]; simp only [lkL,h];by_cases hj:j=k
   ·simp [hj]
   ·rw [if_neg (λe=>hj e.symm),if_neg hj,if_neg (λe=>hj e.symm)]
  ·rw [if_neg h]; simp only [lkL,qcj k d c j l];by_cases hj:e.1=j
   ·rw [if_pos hj,if_neg (by omega),if_pos hj]
   ·rw [if_neg hj,if_neg hj]
theorem qgd (k:Nat):∀ (l:Pg) (i:Nat),kV .int (.int .i64 (k:Int)) (esL l) i=some (match lkL l k with|none=>none|some d=>some (i+(l.findIdx λe=>decide (e.1=k)),str d))
 | [],i=>rfl
 | e::l,i=>by
  have ih:=qgd k l (i+1);simp only [esL,List.map_cons,kV,KU,if_true,lkL,List.findIdx_cons] at ih ⊢;by_cases h:e.1=k
  ·have:((k:Int) == (e.1:Int))=true:=by simp [h]
   simp [this,h]
  ·have:((k:Int) == (e.1:Int))=false:=by simp; omega
   simp only [this,if_neg h,decide_eq_false h,cond_false];rw [ih];cases lkL l k with
   | none=>rfl
   | some d=>simp only [sjI,pjI,and_true]; omega
theorem qew {k:Nat} {x:Bs} (d:Bs) (c:Nat):∀ (l:Pg),lkL l k=some x->esL (upL l k d c)=(esL l).modify (l.findIdx λe=>decide (e.1=k)) λe=>{ e with val:=str d }
 | [],h=>by cases h
 | e::l,h=>by
  unfold upL;simp only [lkL] at h;by_cases hk:e.1=k
  ·rw [if_pos hk]; simp [esL,List.findIdx_cons,hk]
  ·rw [if_neg hk] at h ⊢;have:=qew d c l h;simp only [esL,List.map_cons,List.findIdx_cons,decide_eq_false hk,cond_false,List.modify_succ_cons] at this ⊢;rw [this]
theorem qbL {k:Nat} (d:Bs) (c:Nat):∀ (l:Pg),lkL l k=none->esL (upL l k d c)=esL l++[{ key:=.int .i64 (k:Int),val:=str d,born:=c }]
 | [],_=>rfl
 | e::l,h=>by
  unfold upL;simp only [lkL] at h;by_cases hk:e.1=k
  ·rw [if_pos hk] at h; cases h
  ·rw [if_neg hk] at h ⊢;have:=qbL d c l h;simp only [esL,List.map_cons,List.cons_append] at this ⊢;rw [this]
theorem qhR {m:Mem} {b c:Nat} {l:Pg} {ro:Bool} {lo:Option Nat} (h:m.get b=some ⟨.map (esL l) c,ro,lo⟩) (k:Nat):zl .int (.string ⟨#[]⟩) true (.map (some b)) (.int .i64 (k:Int)) m=some (match lkL l k with|some d=>.tuple #[str d,.bool true]|none=>.tuple #[.string ⟨#[]⟩,.bool false]):=by
 have:m.xq b=some (esL l,c):=by simp [Mem.xq,h]
 simp only [zl,this,bmI,qgd];cases lkL l k<;>rfl
theorem qev {m:Mem} {b c:Nat} {l:Pg} {lo:Option Nat} (h:m.get b=some ⟨.map (esL l) c,false,lo⟩) (k:Nat) (d:Bs):∃ c',zt .int (.map (some b)) (.int .i64 (k:Int)) (str d) m=some (m.put b ⟨.map (esL (upL l k d c)) c',false,lo⟩):=by
 have:m.jL b=some (esL l,c,lo):=by simp [Mem.jL,h]
 simp only [zt,this,bmI,QY,if_true,qgd];cases hk:lkL l k with
 | none=>exact ⟨c+1,by rw [qbL d c l hk]; rfl⟩
 | some x=>exact ⟨c,by rw [qew d c l hk]; simp⟩
def jn (u:Bs) (n:Nat):Bool:=(u.getD (n / 8) 0).toNat.testBit (n % 8)
def Xc (a:UInt8) (j:Nat):UInt8:=UInt8.ofNat (a.toNat ^^^ 2 ^ j)
def xg (u:Bs) (n:Nat):Bs:=u.set (n / 8) (Xc (u.getD (n / 8) 0) (n % 8))
theorem qak (a:UInt8) {j:Nat} (hj:j<8):a.toNat ^^^ 2 ^ j<256:=Nat.xor_lt_two_pow (n:=8) a.toNat_lt (Nat.pow_lt_pow_right (by omega) hj)
theorem XZ (u:Bs) {n:Nat} (hn:n / 8<u.length) (k:Nat):jn (xg u n) k=(jn u k ^^ decide (k=n)):=by
 have hj:n % 8<8:=Nat.mod_lt _ (by omega);have ht:(Xc (u.getD (n / 8) 0) (n % 8)).toNat=(u.getD (n / 8) 0).toNat ^^^ 2 ^ (n % 8):=by
  unfold Xc; rw [UInt8.toNat_ofNat',Nat.mod_eq_of_lt (qak _ hj)]
 unfold jn xg;by_cases h:k / 8=n / 8
 ·rw [List.getD_eq_getElem?_getD,List.getElem?_set,if_pos h.symm,if_pos hn,Option.getD_some,ht,Nat.testBit_xor,Nat.testBit_two_pow,h];congr 1;have:(n % 8=k % 8)↔(k=n):=by omega
  simp [this]
 ·rw [List.getD_eq_getElem?_getD,List.getElem?_set,if_neg (λe=>h e.symm),<- List.getD_eq_getElem?_getD,decide_eq_false (by rintro rfl; exact h rfl)];simp
theorem qcX (u:Bs) (n:Nat):(xg u n).length=u.length:=List.length_set ..
theorem qhP (a:Nat):BitVec.ofInt 8 (a:Int)=BitVec.ofNat 8 a:=BitVec.ofInt_natCast ..
theorem VO {a:Nat} (h:a<256):IntKind.u8.wrap (a:Int)=(a:Int):=qjj (by omega) (by omega)
theorem qip (a j:Nat):a &&& 2 ^ j=if a.testBit j then 2 ^ j else 0:=by
 apply Nat.eq_of_testBit_eq;intro i;rw [Nat.testBit_and,Nat.testBit_two_pow];by_cases h:j=i
 ·subst h; cases hb:a.testBit j<;>simp [Nat.testBit_two_pow]
 ·cases hb:a.testBit j<;>simp [Nat.testBit_two_pow,h]
theorem qlA (a:UInt8) {j:Nat} (hj:j<8):arith .and (.int .u8 (a.toNat:Int)) (.int .u8 ((2 ^ j:Nat):Int))=some (.int .u8 ((if a.toNat.testBit j then 2 ^ j else 0:Nat):Int)):=by
 have hp:2 ^ j<2 ^ 8:=Nat.pow_lt_pow_right (by omega) hj;have h1:(BitVec.ofInt 8 (a.toNat:Int) &&& BitVec.ofInt 8 ((2 ^ j:Nat):Int)).toNat=if a.toNat.testBit j then 2 ^ j else 0:=by
  rw [qhP,qhP,BitVec.toNat_and,BitVec.toNat_ofNat,BitVec.toNat_ofNat,Nat.mod_eq_of_lt (show a.toNat<2 ^ 8 from a.toNat_lt),Nat.mod_eq_of_lt hp,qip]
 have h2:(if a.toNat.testBit j then 2 ^ j else 0:Nat)<256:=by split<;>omega
 simp only [arith,if_true,iop,Xp];rw [show IntKind.u8.bits=8 from rfl,h1,VO h2];rfl
theorem qlt (a:UInt8) {j:Nat} (hj:j<8):arith .xor (.int .u8 (a.toNat:Int)) (.int .u8 ((2 ^ j:Nat):Int))=some (.int .u8 ((Xc a j).toNat:Int)):=by
 have hp:2 ^ j<2 ^ 8:=Nat.pow_lt_pow_right (by omega) hj;have h1:(BitVec.ofInt 8 (a.toNat:Int) ^^^ BitVec.ofInt 8 ((2 ^ j:Nat):Int)).toNat=a.toNat ^^^ 2 ^ j:=by
  rw [qhP,qhP,BitVec.toNat_xor,BitVec.toNat_ofNat,BitVec.toNat_ofNat,Nat.mod_eq_of_lt (show a.toNat<2 ^ 8 from a.toNat_lt),Nat.mod_eq_of_lt hp]
 have ht:(Xc a j).toNat=a.toNat ^^^ 2 ^ j:=by unfold Xc; rw [UInt8.toNat_ofNat',Nat.mod_eq_of_lt (qak _ hj)]
 simp only [arith,if_true,iop,Xp];rw [show IntKind.u8.bits=8 from rfl,h1,VO (qak a hj),ht];rfl
theorem qiF {j:Nat} (hj:j<8):arith .shl (.int .u8 1) (.int .i64 (j:Int))=some (.int .u8 ((2 ^ j:Nat):Int)):=by
 have hp:2 ^ j<2 ^ 8:=Nat.pow_lt_pow_right (by omega) hj;have hb:min (j:Int).toNat IntKind.u8.bits=j:=by simp only [Int.toNat_natCast]; exact Nat.min_eq_left (by show j<=8; omega)
 have h2:¬ ((j:Int)<0):=by omega
 simp only [arith,if_neg h2,hb];congr 2;rw [show ((1:Int) * 2 ^ j)=((2 ^ j:Nat):Int) by simp];exact VO hp
theorem qkH (n:Nat) (h:n<65536):arith .quo (.int .i64 (n:Int)) (.int .i64 8)=some (.int .i64 ((n / 8:Nat):Int)):=by
 have e:IntKind.i64.wrap ((n:Int).tdiv 8)=((n / 8:Nat):Int):=by
  rw [Int.tdiv_eq_ediv_of_nonneg (by omega),wrap64 (by omega) (by omega)]; omega
 have z:¬ ((8:Int)=0):=by omega
 simp only [arith,iop,if_true,if_neg z,e]
theorem qkG (n:Nat) (h:n<65536):arith .rem (.int .i64 (n:Int)) (.int .i64 8)=some (.int .i64 ((n % 8:Nat):Int)):=by
 have e:(n:Int).tmod 8=((n % 8:Nat):Int):=by
  rw [Int.tmod_eq_emod_of_nonneg (by omega)]; omega
 have z:¬ ((8:Int)=0):=by omega
 simp only [arith,iop,if_true,if_neg z,e]
structure Wo where
 w:Nat
 pm:Nat
 c:Nat
 p:Nat
 P:Nat
 u:Bs
 hd:Bs
 nt:Value
 L:Pg
def Wo.cells (o:Wo):List Value:=.pointer (some ⟨o.c,0,none⟩)::((o.u.map λb=>.int .u8 (b.toNat:Int))++[str o.hd,.map (some o.pm),o.nt,.bool false])
structure WR (o:Wo) (m:Mem):Prop where
 hw:m.get o.w=some ⟨.cells o.cells 155,false,none⟩
 hu:o.u.length=20
 hm:∃ k lo,m.get o.pm=some ⟨.map (esL o.L) k,false,lo⟩
 hc:∃ r t ro lo,m.get o.c=some ⟨.cells (.pointer (some ⟨o.p,0,none⟩)::r) t,ro,lo⟩
 hp:∃ d a cap r t ro lo,m.get o.p=some ⟨.cells (d::.slice a o.P cap::r) t,ro,lo⟩
 hP:o.P<=160
 lw:o.w<m.next
 lm:o.pm<m.next
 lc:o.c<m.next
 lp:o.p<m.next
 ne:o.w≠o.pm/\o.w≠o.c/\o.w≠o.p/\o.pm≠o.c/\o.pm≠o.p
theorem WR.upd {o:Wo} {fp:List Nat} {m m':Mem} (h:WR o m) (hu:Upd fp m m') (hf:∀ b∈fp,b≠o.w/\b≠o.pm/\b≠o.c/\b≠o.p):WR o m':=by
 have k:∀ {b:Nat},b<m.next->(b∉fp)->m'.get b=m.get b:=λh1 h2=>hu.same _ h1 h2
 have n:=hu.next;refine ⟨by rw [k h.lw (λhm=>(hf _ hm).1 rfl)]; exact h.hw,h.hu,by rw [k h.lm (λhm=>(hf _ hm).2.1 rfl)]; exact h.hm,by rw [k h.lc (λhm=>(hf _ hm).2.2.1 rfl)]; exact h.hc,by rw [k h.lp (λhm=>(hf _ hm).2.2.2 rfl)]; exact h.hp,h.hP,?_,?_,?_,?_,h.ne⟩
 ·have:=h.lw; omega
 ·have:=h.lm; omega
 ·have:=h.lc; omega
 ·have:=h.lp; omega
theorem WR.qn {o:Wo} {m m':Mem} (h:WR o m) (hu:Upd [] m m'):WR o m':=h.upd hu (λb hb=>by cases hb)
section
variable {o:Wo} {m:Mem}
theorem Wo.at {o:Wo} (hu:o.u.length=20):o.cells[0]? = some (.pointer (some ⟨o.c,0,none⟩))/\(∀ i,i<20->o.cells[1+i]? = some (.int .u8 ((o.u.getD i 0).toNat:Int)))/\o.cells[21]? = some (str o.hd)/\o.cells[22]? = some (.map (some o.pm))/\o.cells[23]? = some o.nt/\o.cells[24]? = some (.bool false):=by
 have hl:(o.u.map λb=>Value.int .u8 (b.toNat:Int)).length=20:=by simpa using hu
 refine ⟨rfl,λi hi=>?_,?_,?_,?_,?_⟩
 ·unfold Wo.cells;rw [Nat.add_comm,List.getElem?_cons_succ,List.getElem?_append_left (by omega),List.getElem?_map,List.getElem?_eq_getElem (by omega),List.getD_eq_getElem?_getD,List.getElem?_eq_getElem (by omega)];rfl
 all_goals unfold Wo.cells; rw [List.getElem?_cons_succ,List.getElem?_append_right (by omega),hl]; rfl
theorem yi (h:WR o m):Call S tab 80 [.pointer (some ⟨o.w,0,none⟩)] m=some (.int .i64 0,m):=by
 refine W_eq ?_;rw [C80];simp only [st0,vJ,nck,fa,qm h.hw (o:=0+24) (Wo.at h.hu).2.2.2.2.2];exact ⟨trivial,trivial⟩
theorem yf (h:WR o m):Call S tab 81 [.pointer (some ⟨o.c,0,none⟩)] m=some (.int .i64 (o.P:Int),m):=by
 refine W_eq ?_;obtain ⟨r,t,ro,lo,hc⟩:=h.hc;obtain ⟨d,a,cap,r',t',ro',lo',hp⟩:=h.hp;rw [C81];have e1:qa (.pointer (some ⟨o.c,0+0,none⟩)) m=some (.pointer (some ⟨o.p,0,none⟩)):=qm hc rfl;have e2:qa (.pointer (some ⟨o.p,0+1,none⟩)) m=some (.slice a o.P cap):=qm hp rfl;have e3:qd (.slice a o.P cap)=some (.int .i64 (o.P:Int)):=rfl;simp only [st0,vJ,nck,fa,e1,qmF,e2,e3];exact ⟨trivial,trivial⟩
theorem qkS {b off n len:Nat} (h:n<len):jt len 1 (.pointer (some ⟨b,off,none⟩)) (.int .i64 (n:Int))=some (.pointer (some ⟨b,off+n,none⟩)):=by
 have:(0:Int)<=(n:Int)/\(n:Int)<(len:Int):=by omega
 simp only [jt,if_pos this,Int.toNat_natCast,Nat.mul_one]
theorem qiN (h:WR o m) {n:Nat} (hn:n<160):Call S tab 82 [.pointer (some ⟨o.w,0+1,none⟩),.int .i64 (n:Int)] m=some (.bool (jn o.u n),m):=by
 refine W_eq ?_;have hj:n % 8<8:=Nat.mod_lt _ (by omega);have e:qa (.pointer (some ⟨o.w,0+1+0+n / 8,none⟩)) m=some (.int .u8 ((o.u.getD (n / 8) 0).toNat:Int)):=qm h.hw (by rw [show 0+1+0+n / 8=1+n / 8 by omega]; exact (Wo.at h.hu).2.1 _ (by omega));rw [C82];have hp:0<2 ^ (n % 8):=Nat.two_pow_pos _;have e2:decide ((((if (o.u.getD (n / 8) 0).toNat.testBit (n % 8) then 2 ^ (n % 8) else 0:Nat):Int))=0)=!jn o.u n:=by
  unfold jn;cases (o.u.getD (n / 8) 0).toNat.testBit (n % 8) with
  | true=>simp only [if_true,Bool.not_true]; exact decide_eq_false (by omega)
  | false=>rfl
 simp only [st0,nck,fa,qkH n (by omega),qkG n (by omega),qkS (off:=0+1+0) (show n / 8<20 by omega),e,qiF hj,qlA _ hj,e2,Bool.not_not];exact ⟨trivial,trivial⟩
theorem Wo.set {o:Wo} (hu:o.u.length=20) (n:Nat) (hn:n / 8<20):o.cells.set (0+1+0+n / 8) (.int .u8 ((Xc (o.u.getD (n / 8) 0) (n % 8)).toNat:Int))=Wo.cells { o with u:=xg o.u n }:=by
 unfold Wo.cells xg;rw [show 0+1+0+n / 8=n / 8+1 by omega,List.set_cons_succ,List.set_append_left _ _ (by simpa using by omega),List.map_set]
theorem WR.w {o o':Wo} {m:Mem} (h:WR o m) (he:o'.w=o.w/\o'.pm=o.pm/\o'.c=o.c/\o'.p=o.p/\o'.P=o.P/\o'.L=o.L) (hu:o'.u.length=20):WR o' (m.put o.w ⟨.cells o'.cells 155,false,none⟩):=by
 obtain ⟨e1,e2,e3,e4,e5,e6⟩:=he;obtain ⟨n1,n2,n3,n4,n5⟩:=h.ne;refine ⟨by rw [e1]; exact Mem.qe ..,hu,?_,?_,?_,by rw [e5]; exact h.hP,by rw [e1]; exact h.lw,by rw [e2]; exact h.lm,by rw [e3]; exact h.lc,by rw [e4]; exact h.lp,by rw [e1,e2,e3,e4]; exact h.ne⟩
 ·rw [e2,e6,Mem.qs _ _ (λe=>n1 e.symm)]; exact h.hm
 ·rw [e3,e4,Mem.qs _ _ (λe=>n2 e.symm)]; exact h.hc
 ·rw [e4,e5,Mem.qs _ _ (λe=>n3 e.symm)]; exact h.hp
theorem qbN (h:WR o m) {n:Nat} (hn:n<160):∃ m',Call S tab 171 [.pointer (some ⟨o.w,0+1,none⟩),.int .i64 (n:Int)] m=some (.tuple #[],m')/\WR { o with u:=xg o.u n } m'/\Upd [o.w] m m':=by
 refine ⟨m.put o.w ⟨.cells (Wo.cells { o with u:=xg o.u n }) 155,false,none⟩,?_,h.w ⟨rfl,rfl,rfl,rfl,rfl,rfl⟩ (by rw [qcX]; exact h.hu),Upd.put _ _ (by simp)⟩;refine W_eq ?_;have hj:n % 8<8:=Nat.mod_lt _ (by omega);have e:qa (.pointer (some ⟨o.w,0+1+0+n / 8,none⟩)) m=some (.int .u8 ((o.u.getD (n / 8) 0).toNat:Int)):=qm h.hw (by rw [show 0+1+0+n / 8=1+n / 8 by omega]; exact (Wo.at h.hu).2.1 _ (by omega));have e2:qj 1 (.pointer (some ⟨o.w,0+1+0+n / 8,none⟩)) (.int .u8 ((Xc (o.u.getD (n / 8) 0) (n % 8)).toNat:Int)) m=some (m.put o.w ⟨.cells (Wo.cells { o with u:=xg o.u n }) 155,false,none⟩):=by
  rw [<- Wo.set h.hu n (by omega)];have hl:o.cells.length=25:=by unfold Wo.cells; simp [h.hu]
  exact zF h.hw (by omega) rfl rfl
 rw [qmh];simp only [st0,nck,fa,qkH n (by omega),qkG n (by omega),qkS (off:=0+1+0) (show n / 8<20 by omega),e,qiF hj,qlt _ hj,e2];exact ⟨trivial,trivial⟩
def Wo.has (o:Wo) (n:Nat):Bool:=decide (1<=n)&&decide (n<o.P)&&jn o.u n
theorem Je (h:WR o m) (n:Nat) (hn:n<=65536):Call S tab 175 [.pointer (some ⟨o.w,0,none⟩),.int .i64 (n:Int)] m=some (.int .i64 (if o.has n then 0 else 7),m):=by
 refine W_eq ?_;have e0:qa (.pointer (some ⟨o.w,0+0,none⟩)) m=some (.pointer (some ⟨o.c,0,none⟩)):=qm h.hw (Wo.at h.hu).1;have d0:decide ((0:Int)=0)=true:=rfl;have hP:=h.hP;unfold Wo.has;rw [qme];by_cases h1:1<=n
 ·have e1:((n:Int)<=0)=False:=eq_false (by omega);by_cases h2:n<o.P
  ·have e2:((o.P:Int)<=(n:Int))=False:=eq_false (by omega);have e3:=qiN h (n:=n) (by omega);cases hb:jn o.u n<;>rw [hb] at e3<;>simp only [st0,yi h,d0,e1,nck,fa,e0,yf h,e2,e3,h1,h2,Bool.true_and]<;>exact ⟨trivial,trivial⟩
  ·have e2:((o.P:Int)<=(n:Int))=True:=eq_true (by omega);simp only [st0,yi h,d0,e1,nck,fa,e0,yf h,e2,h1,h2,Bool.true_and,Bool.false_and];exact ⟨trivial,trivial⟩
 ·have e1:((n:Int)<=0)=True:=eq_true (by omega);simp only [st0,yi h,d0,e1,h1,Bool.false_and];exact ⟨trivial,trivial⟩
theorem xt0 (a b:Value):qG 0 (.tuple #[a,b])=some a:=rfl
theorem xt1 (a b:Value):qG 1 (.tuple #[a,b])=some b:=rfl
theorem qer (h:WR o m) {n:Nat} (hn:n<=65536) (hh:o.has n=true) {d:Bs} (hd:lkL o.L n=some d):Call S tab 164 [.pointer (some ⟨o.w,0,none⟩),.int .i64 (n:Int)] m=some (.tuple #[str d,.int .i64 0],m):=by
 refine W_eq ?_;have t:=Je h n hn;rw [hh,if_pos rfl] at t;obtain ⟨k,lo,hm⟩:=h.hm;have e:=qhR hm n;rw [hd] at e;have d0:decide ((0:Int)=0)=true:=rfl;have e1:qa (.pointer (some ⟨o.w,0+1+21,none⟩)) m=some (.map (some o.pm)):=qm h.hw (Wo.at h.hu).2.2.2.1;rw [qmo];simp only [st0,t,d0,nck,fa,e1,e,xt0,xt1];exact ⟨trivial,trivial⟩
theorem qcV (h:WR o m) {n:Nat} (hn:n<=65536) (hh:o.has n=true) (d:Bs) (hd:d.length=256):∃ m' c,Call S tab 130 [.pointer (some ⟨o.w,0,none⟩),.int .i64 (n:Int),str d] m=some (.int .i64 0,m')/\WR { o with L:=upL o.L n d c } m'/\Upd [o.pm] m m':=by
 have t:=Je h n hn;rw [hh,if_pos rfl] at t;obtain ⟨k,lo,hm⟩:=h.hm;obtain ⟨k',e⟩:=qev hm n d;obtain ⟨n1,n2,n3,n4,n5⟩:=h.ne;refine ⟨_,k,W_eq ?_,⟨?_,h.hu,⟨k',lo,Mem.qe ..⟩,?_,?_,h.hP,h.lw,h.lm,h.lc,h.lp,h.ne⟩,Upd.put _ _ (by simp)⟩
 ·have d0:decide ((0:Int)=0)=true:=rfl;have d1:((d.length:Int)=256)=True:=eq_true (by omega);have e1:qa (.pointer (some ⟨o.w,0+1+21,none⟩)) m=some (.map (some o.pm)):=qm h.hw (Wo.at h.hu).2.2.2.1;rw [qmw];simp only [st0,t,d0,qZ,d1,nck,fa,e1,e];exact ⟨trivial,trivial⟩
 ·rw [Mem.qs _ _ n1]; exact h.hw
 ·rw [Mem.qs _ _ (λe=>n4 e.symm)]; exact h.hc
 ·rw [Mem.qs _ _ (λe=>n5 e.symm)]; exact h.hp
theorem qet (h:WR o m) {n:Nat} (hn:n<=65536) (hh:o.has n=true):∃ m',Call S tab 201 [.pointer (some ⟨o.w,0,none⟩),.int .i64 (n:Int)] m=some (.int .i64 0,m')/\WR { o with u:=xg o.u n } m'/\Upd [o.w] m m':=by
 have t:=Je h n hn;rw [hh,if_pos rfl] at t;have hP:=h.hP;have hlt:n<160:=by
  unfold Wo.has at hh;simp only [baI,decide_eq_true_eq] at hh;omega
 obtain ⟨m',e,hr,hu⟩:=qbN h hlt;refine ⟨m',W_eq ?_,hr,hu⟩;have d0:decide ((0:Int)=0)=true:=rfl;rw [qlW];simp only [st0,t,d0,nck,fa,e];exact ⟨trivial,trivial⟩
end
end Go.Fx.Tryz
namespace Go.Fx.Tryz
open Go Go.Fx
section
variable {o:Wo} {m:Mem}
theorem qaV (m:Mem):Call S tab 172 [.int .i64 256] m=some (str (qp 256),m):=by
 refine W_eq ?_;have:=Vc 256 (by omega) m;rw [show (Value.int .i64 ((256:Nat):Int))=.int .i64 256 from rfl] at this;rw [qmg];simp only [st0,this];exact ⟨trivial,trivial⟩
theorem xE (k:Nat):(qp k).length=k:=List.length_replicate ..
theorem KS (h:WR o m) {Q:Value->Mem->Prop} (h0:(∀ n,1<=n->n<o.P->jn o.u n=true)->Q (.tuple #[.int .i64 0,.int .i64 8]) m)
  (h1:∀ n m' c,1<=n->n<o.P->jn o.u n=false->WR { o with u:=xg o.u n,L:=upL o.L n (qp 256) c } m'->Upd [o.w,o.pm] m m'->Q (.tuple #[.int .i64 (n:Int),.int .i64 0]) m') :
  ∀ (d i:Nat),o.P - i=d->1<=i->(∀ n,1<=n->n<i->jn o.u n=true)->W (Yv (.pointer (some ⟨o.w,0,none⟩)) (.int .i64 (i:Int)) m) Q:=by
 have e0:qa (.pointer (some ⟨o.w,0+0,none⟩)) m=some (.pointer (some ⟨o.c,0,none⟩)):=qm h.hw (Wo.at h.hu).1;have hP:=h.hP;intro d
 induction d with
 | zero =>
  intro i hd hi ha;have e1:((i:Int)<(o.P:Int))=False:=eq_false (by omega);rw [P127_0_eq];simp only [st0,nck,fa,e0,yf h,e1];exact h0 λn h2 h3=>ha n h2 (by omega)
 | succ d ih =>
  intro i hd hi ha;have e1:((i:Int)<(o.P:Int))=True:=eq_true (by omega);have e3:=qiN h (n:=i) (by omega);rw [P127_0_eq];cases hb:jn o.u i with
  | true =>
   rw [hb] at e3;simp only [st0,nck,fa,e0,yf h,e1,e3,qB (i:=i) (by omega)];refine ih (i+1) (by omega) (by omega) λn h2 h3=>?_
   by_cases hn:n=i
   ·rw [hn]; exact hb
   ·exact ha n h2 (by omega)
  | false =>
   rw [hb] at e3;obtain ⟨m1,e4,r1,u1⟩:=qbN h (n:=i) (by omega);obtain ⟨k,lo,hm⟩:=r1.hm;obtain ⟨k',e5⟩:=qev hm i (qp 256);obtain ⟨n1,n2,n3,n4,n5⟩:=r1.ne;have e6:qa (.pointer (some ⟨o.w,0+1+21,none⟩)) m1=some (.map (some o.pm)):=qm r1.hw (Wo.at r1.hu).2.2.2.1;simp only [st0,nck,fa,e0,yf h,e1,e3,e4,e6,qaV,e5];refine jC (λr hr=>?_) (zv.2 (h1 i _ k hi (by omega) hb ⟨(Mem.qs _ _ n1).trans r1.hw,r1.hu,⟨k',lo,Mem.qe ..⟩,by rw [Mem.qs _ _ (λe=>n4 e.symm)]; exact r1.hc,by rw [Mem.qs _ _ (λe=>n5 e.symm)]; exact r1.hp,r1.hP,r1.lw,r1.lm,r1.lc,r1.lp,r1.ne⟩ ((u1.mono λb hb _=>by simp at hb; simp [hb]).trans (Upd.put _ _ (by simp)))));simp only [lcI,nmI,or_false] at hr;subst hr;exact okR λk _ hk=>by
    have:k=0∨k=1:=by omega
    rcases this with rfl|rfl<;>exact ⟨_,rfl,e6⟩
theorem qhu (h:WR o m):W (Call S tab 127 [.pointer (some ⟨o.w,0,none⟩)] m) λr m' =>
  (r=.tuple #[.int .i64 0,.int .i64 8]/\m'=m)∨∃ n c,1<=n/\n<o.P/\jn o.u n=false/\r=.tuple #[.int .i64 (n:Int),.int .i64 0]/\WR { o with u:=xg o.u n,L:=upL o.L n (qp 256) c } m'/\Upd [o.w,o.pm] m m':=by
 have d0:decide ((0:Int)=0)=true:=rfl;rw [qlo];simp only [st0,yi h,d0];exact KS h (λ_=>.inl ⟨rfl,rfl⟩) (λn m' c h1 h2 h3 h4 h5=>.inr ⟨n,c,h1,h2,h3,rfl,h4,h5⟩) _ 1 rfl (by omega) (by omega)
end
end Go.Fx.Tryz
namespace Go.Fx.Tryz
open Go Go.Fx
structure St where
 u:Bs
 hd:Bs
 pm:Nat
 hu:u.length=20
def St.cells (s:St):List Value:=(s.u.map λb=>.int .u8 (b.toNat:Int))++[str s.hd,.map (some s.pm)]
theorem St.len (s:St):s.cells.length=22:=by unfold St.cells; simp [s.hu]
theorem St.all (s:St):s.cells.all (·.oneCell')=true:=by
 unfold St.cells;rw [List.all_append,List.all_map];simp only [baI,List.all_eq_true];exact ⟨λx _=>rfl,λx hx=>by simp only [lcI,nmI,or_false] at hx; rcases hx with rfl|rfl<;>rfl⟩
def yq:Enc St:=⟨22,St.cells,St.len,St.all⟩
theorem HH (s:St):yq.cells s=s.cells:=rfl
theorem Kg:yq.size=22:=rfl
theorem St.qly (s:St):s.cells[0+21]? = some (.map (some s.pm)):=by
 unfold St.cells;rw [List.getElem?_append_right (by simp [s.hu]),List.length_map,s.hu]; rfl
theorem St.qkD (s:St) (pm:Nat):s.cells.set (0+21) (.map (some pm))=St.cells { s with pm:=pm }:=by
 unfold St.cells;rw [List.set_append_right _ _ (by simp [s.hu]),List.length_map,s.hu]; rfl
def Wo.st (o:Wo) (h:o.u.length=20):St:=⟨o.u,o.hd,o.pm,h⟩
theorem Wo.HV (o:Wo) (h:o.u.length=20):o.cells=.pointer (some ⟨o.c,0,none⟩)::((o.st h).cells++[o.nt,.bool false]):=by
 unfold Wo.cells Wo.st St.cells; simp
theorem qdE {m:Mem} {b:Nat} {pre c post:List Value} {e:TypeId} {ro:Bool} {lo:Option Nat} {n k:Nat} (hb:m.get b=some ⟨.cells (pre++(c++post)) e,ro,lo⟩) (hk:pre.length=k) (hc:c.length=n):ql n (.pointer (some ⟨b,k,none⟩)) m=some (.agg c.toArray):=by
 simp only [ql,jV,bmI,zS hb];rw [if_pos (by simp; omega),<- hk,List.drop_left' rfl,<- hc,List.take_left' rfl]
theorem qap {m:Mem} {b:Nat} {pre c post:List Value} {e:TypeId} {lo:Option Nat} {n k:Nat} {vs:List Value} (hb:m.get b=some ⟨.cells (pre++(c++post)) e,false,lo⟩) (hk:pre.length=k) (hc:c.length=n) (hv:vs.length=n) (h1:vs.all (·.oneCell')=true) :
  qj n (.pointer (some ⟨b,k,none⟩)) (.agg vs.toArray) m=some (m.put b ⟨.cells (pre++(vs++post)) e,false,lo⟩):=by
 have how:m.jF b=some (pre++(c++post),e,lo):=by simp [Mem.jF,hb]
 have hs:(Value.agg vs.toArray).cells.size=n:=by simpa [Value.cells] using hv
 simp only [qj,jV,bmI,how];rw [if_pos ⟨hs,by simp; omega,by simpa [Value.cells] using h1⟩];have:=xj pre c post vs (by omega);rw [hk] at this;simp [Value.cells,this]
theorem YW {m:Mem} (s:St) {L:Pg} {k:Nat} {ro:Bool} {lo:Option Nat} (hm:m.get s.pm=some ⟨.map (esL L) k,ro,lo⟩) (hlt:s.pm<m.next) :
  ∃ m' pm',Call S tab 109 [.agg s.cells.toArray] m=some (.agg (St.cells { s with pm:=pm' }).toArray,m')/\m.next<=pm'/\pm'<m'.next/\m'.get pm'=some ⟨.map (esL L) k,false,none⟩/\Upd [] m m':=by
 have key:W (Call S tab 109 [.agg s.cells.toArray] m) λr m'=>∃ pm',r=.agg (St.cells { s with pm:=pm' }).toArray/\m.next<=pm'/\pm'<m'.next/\m'.get pm'=some ⟨.map (esL L) k,false,none⟩/\Upd [] m m':=by
  rw [qmJ];simp only [st0,qS];have u1:Upd [] m (m.add ⟨.cells s.cells 152,false,none⟩):=Upd.add _ _ _;have g1:(m.add ⟨.cells s.cells 152,false,none⟩).get m.next=some ⟨.cells s.cells 152,false,none⟩:=Mem.qf ..;have n1:(m.add ⟨.cells s.cells 152,false,none⟩).next=m.next+1:=rfl;generalize (m.add ⟨.cells s.cells 152,false,none⟩)=m1 at u1 g1 n1;generalize hz:([.int .u8 0,.int .u8 0,.int .u8 0,.int .u8 0,.int .u8 0,.int .u8 0,.int .u8 0,.int .u8 0,.int .u8 0,.int .u8 0,.int .u8 0,.int .u8 0,.int .u8 0,.int .u8 0,.int .u8 0,.int .u8 0,.int .u8 0,.int .u8 0,.int .u8 0,.int .u8 0,.string ⟨#[]⟩,.map none]:List Value)=z;have hzl:z.length=22:=by rw [<- hz]; rfl
  have u2:Upd [] m1 (m1.add ⟨.cells z 152,false,none⟩):=Upd.add _ _ _;have g2:(m1.add ⟨.cells z 152,false,none⟩).get m1.next=some ⟨.cells z 152,false,none⟩:=Mem.qf ..;have n2:(m1.add ⟨.cells z 152,false,none⟩).next=m1.next+1:=rfl;have h2:=qq u2 (by omega) g1;generalize (m1.add ⟨.cells z 152,false,none⟩)=m2 at u2 g2 n2 h2;have hm2:=qq (u1.qu u2) hlt hm;have e1:qa (.pointer (some ⟨m.next,0+21,none⟩)) m2=some (.map (some s.pm)):=qm h2 s.qly;have e2:qU .map false (.map (some s.pm)) (.map none)=some (.bool false):=rfl;have e3:ju (.iface 150 (.map (some s.pm))) m2=some (.iface 150 (.map (some m2.next)),m2.add ⟨.map (esL L) k,false,none⟩):=by
   have:m2.xq s.pm=some (esL L,k):=by simp [Mem.xq,hm2]
   simp [ju,this]
  have e4:kC 150 false (.map none) (.iface 150 (.map (some m2.next)))=some (.map (some m2.next)):=rfl;simp only [st0,fa,e1,qmp,e2,e3,e4];have u3:Upd [] m2 (m2.add ⟨.map (esL L) k,false,none⟩):=Upd.add _ _ _;have q3:(m2.add ⟨.map (esL L) k,false,none⟩).get m2.next=some ⟨.map (esL L) k,false,none⟩:=Mem.qf ..;have n3:(m2.add ⟨.map (esL L) k,false,none⟩).next=m2.next+1:=rfl;have g3:=qq u3 (by omega) g2;have h3:=qq u3 (by omega) h2;generalize (m2.add ⟨.map (esL L) k,false,none⟩)=m3 at u3 q3 n3 g3 h3;have e5:qj 1 (.pointer (some ⟨m.next,0+21,none⟩)) (.map (some m2.next)) m3=some (m3.put m.next ⟨.cells (St.cells { s with pm:=m2.next }) 152,false,none⟩):=by
   rw [<- St.qkD];exact zF h3 (by rw [s.len]; omega) rfl rfl
  simp only [st0,e5];have g4:(m3.put m.next ⟨.cells (St.cells { s with pm:=m2.next }) 152,false,none⟩).get m.next=_:=Mem.qe ..;have g4':(m3.put m.next ⟨.cells (St.cells { s with pm:=m2.next }) 152,false,none⟩).get m1.next=_:=(Mem.qs m3 _ (by omega)).trans g3;have q4:(m3.put m.next ⟨.cells (St.cells { s with pm:=m2.next }) 152,false,none⟩).get m2.next=_:=(Mem.qs m3 _ (by omega)).trans q3;have u4:Upd [] m (m3.put m.next ⟨.cells (St.cells { s with pm:=m2.next }) 152,false,none⟩):=((u1.qu u2).qu u3).ki _ (.inr (Nat.le_refl _));have n4:(m3.put m.next ⟨.cells (St.cells { s with pm:=m2.next }) 152,false,none⟩).next=m3.next:=rfl;generalize (m3.put m.next ⟨.cells (St.cells { s with pm:=m2.next }) 152,false,none⟩)=m4 at g4 g4' q4 u4 n4;have e6:=zG g4 (St.len _);have e7:qj 22 (.pointer (some ⟨m1.next,0,none⟩)) (.agg (St.cells { s with pm:=m2.next }).toArray) m4=some (m4.put m1.next ⟨.cells (St.cells { s with pm:=m2.next }) 152,false,none⟩):=by
   have:=jg (v:=.agg (St.cells { s with pm:=m2.next }).toArray) g4' hzl (by simpa [Value.cells] using St.len _) (by simpa [Value.cells] using St.all { s with pm:=m2.next });simpa [Value.cells] using this
  have e8:=zG (Mem.qe m4 m1.next ⟨.cells (St.cells { s with pm:=m2.next }) 152,false,none⟩) (St.len _);simp only [st0,e6,e7,e8];exact ⟨m2.next,rfl,by omega,by show m2.next<m4.next; omega,(Mem.qs m4 _ (by omega)).trans q4,u4.ki _ (.inr (by omega))⟩
 obtain ⟨r,m',e,pm',rfl,h1,h2,h3,h4⟩:=key;exact ⟨m',pm',e,h1,h2,h3,h4⟩
section
variable {o:Wo} {m:Mem}
theorem Wo.len (hu:o.u.length=20):o.cells.length=25:=by unfold Wo.cells; simp [hu]
theorem Wo.qiG (hu:o.u.length=20) (v:Value):o.cells.set (0+23) v=Wo.cells { o with nt:=v }:=by
 unfold Wo.cells;rw [show 0+23=22+1 by rfl,List.set_cons_succ,List.set_append_right _ _ (by simp [hu]),List.length_map,hu]; rfl
theorem qbS (h:WR o m) {ns:List St} (hn:TAp yq 152 m o.nt ns) (hnl:ns.length<=100000) (hd:∀ b∈qc o.nt,b≠o.w/\b≠o.pm/\b≠o.c/\b≠o.p) :
  W (Call S tab 59 [.pointer (some ⟨o.w,0,none⟩)] m) λr m'=>r=.int .i64 (ns.length:Int)/\∃ pm' nt' k,WR { o with nt:=nt' } m'/\TAp yq 152 m' nt' (ns++[{ o.st h.hu with pm:=pm' }])/\(∀ b∈qc nt',b∈qc o.nt∨m.next<=b)/\pm'∉qc nt'/\m'.get pm'=some ⟨.map (esL o.L) k,false,none⟩/\m.next<=pm'/\pm'<m'.next/\Upd (o.w::qc o.nt) m m':=by
 have d0:decide ((0:Int)=0)=true:=rfl;obtain ⟨k,lo,hm⟩:=h.hm;obtain ⟨m1,pm',e1,hp1,hp2,hq,u1⟩:=YW (o.st h.hu) hm h.lm;have hw:=h.hw;rw [Wo.HV o h.hu] at hw;have e2:ql 22 (.pointer (some ⟨o.w,0+1,none⟩)) m=some (.agg (o.st h.hu).cells.toArray):=qdE (pre:=[.pointer (some ⟨o.c,0,none⟩)]) hw rfl (St.len _);have ldN:∀ {M:Mem},M.get o.w=some ⟨.cells o.cells 155,false,none⟩->qa (.pointer (some ⟨o.w,0+23,none⟩)) M=some o.nt:=λg=>qm g (Wo.at h.hu).2.2.2.2.1
 have e3:qt [.int .u8 0,.int .u8 0,.int .u8 0,.int .u8 0,.int .u8 0,.int .u8 0,.int .u8 0,.int .u8 0,.int .u8 0,.int .u8 0,.int .u8 0,.int .u8 0,.int .u8 0,.int .u8 0,.int .u8 0,.int .u8 0,.int .u8 0,.int .u8 0,.int .u8 0,.int .u8 0,.string ⟨#[]⟩,.map none] [(0,22,.agg (St.cells { o.st h.hu with pm:=pm' }).toArray)]=some (yq.flat [{ o.st h.hu with pm:=pm' }]):=by
  have hc:(Value.agg (St.cells { o.st h.hu with pm:=pm' }).toArray).cells=(St.cells { o.st h.hu with pm:=pm' }).toArray:=rfl;simp only [qt,hc,List.size_toArray,St.len];rw [if_neg (by simp),QF _ _ (by rw [St.len]; rfl),Enc.qgb];rfl
 have g1:=(u1.same o.w h.lw (by simp)).trans h.hw;rw [C59];simp only [st0,yi h,d0,nck,fa,ldN h.hw,e2,e1,e3];refine zZ (E:=yq) (l:=ns) [{ o.st h.hu with pm:=pm' }] (by decide) (hn.qn u1) (by simp; omega) λnt' m3 q1 q2 q3=>?_
 have hwn:o.w∉qc o.nt:=λhb=>(hd _ hb).1 rfl
 have hlw:=h.lw;have g3:=(q2.same o.w (by have:=u1.next; omega) hwn).trans g1;have e4:qj 1 (.pointer (some ⟨o.w,0+23,none⟩)) nt' m3=some (m3.put o.w ⟨.cells (Wo.cells { o with nt:=nt' }) 155,false,none⟩):=by
  rw [<- Wo.qiG h.hu];exact zF g3 (by rw [Wo.len h.hu]; omega) q1.one.1 q1.one.2
 have n1:=u1.next;have hn3:=q2.next;have hr:WR o m3:=(h.qn u1).upd q2 hd;have hr2:WR { o with nt:=nt' } (m3.put o.w ⟨.cells (Wo.cells { o with nt:=nt' }) 155,false,none⟩):=hr.w ⟨rfl,rfl,rfl,rfl,rfl,rfl⟩ h.hu;have hwnt:o.w∉qc nt':=λhb=>(q3 _ hb).elim hwn (λhb=>by omega)
 have hput:Upd [o.w] m3 (m3.put o.w ⟨.cells (Wo.cells { o with nt:=nt' }) 155,false,none⟩):=Upd.put _ _ (by simp);have q4:TAp yq 152 (m3.put o.w ⟨.cells (Wo.cells { o with nt:=nt' }) 155,false,none⟩) nt' (ns++[{ o.st h.hu with pm:=pm' }]):=q1.upd hput (λb hb hm'=>by simp at hm'; exact hwnt (hm' ▸ hb));have e5:qa (.pointer (some ⟨o.w,0+23,none⟩)) (m3.put o.w ⟨.cells (Wo.cells { o with nt:=nt' }) 155,false,none⟩)=some nt':=qm (Mem.qe ..) (Wo.at (o:={ o with nt:=nt' }) h.hu).2.2.2.2.1;have e6:arith .sub (.int .i64 (((ns++[{ o.st h.hu with pm:=pm' }]).length:Nat):Int)) (.int .i64 1)=some (.int .i64 (ns.length:Int)):=by
  rw [xh (by simp only [laI,lnI,List.length_nil]; omega) (by simp only [laI,lnI,List.length_nil]; omega)]; simp
 simp only [st0,nck,fa,e4,e5,q4.tsl.len,e6];refine jC (λr hr=>?_) (zv.2 ⟨rfl,pm',nt',k,hr2,q4,λb hb=>(q3 b hb).imp id (λhb=>by omega),?_,?_,hp1,by show pm'<m3.next; omega,?_⟩)
 ·simp only [lcI,nmI,or_false] at hr;rcases hr with rfl|rfl
  ·exact okR λk _ hk=>by
    have:k=0∨k=1∨k=2:=by omega
    rcases this with rfl|rfl|rfl
    ·exact ⟨_,rfl,ldN h.hw⟩
    ·exact ⟨_,rfl,ldN g1⟩
    ·exact ⟨_,rfl,ldN (by rw [Mem.zO _ _ (by omega)]; exact g1)⟩
  ·exact okR λk _ hk=>by
    obtain rfl:k=0:=by omega
    exact ⟨_,rfl,e2⟩
 ·intro hb;rcases q3 _ hb with hb|hb
  ·have:=hn.lt _ hb; omega
  ·omega
 ·rw [Mem.qs _ _ (by omega),q2.same pm' (by omega) (λhb=>by have:=hn.lt _ hb; omega)]; exact hq
 ·exact ((u1.mono (λb hb _=>by cases hb)).trans (q2.mono (λb hb _=>lcI.2 (.inr hb)))).trans (hput.mono (λb hb _=>by simp at hb; simp [hb]))
theorem TAp.YG {α:Type} {E:Enc α} {e:TypeId} {m:Mem} {v:Value} {l k:List α} (h:TAp E e m v (l++k)) :
  ∃ v',(∀ M,qx E.size v none (some (.int .i64 (l.length:Int))) M=some v')/\TAp E e m v' l/\(∀ b∈qc v',b∈qc v)/\(k=[]->v'=v):=by
 rcases h with ⟨rfl,h0⟩|⟨b,cap,rest,lo,rfl,hb,hg,hlo,hr,hc⟩
 ·obtain ⟨rfl,rfl⟩:=List.append_eq_nil_iff.1 h0;exact ⟨.slice none 0 0,λM=>by simp [qx,zz,xB],.inl ⟨rfl,rfl⟩,λb hb=>hb,λ_=>rfl⟩
 ·have hl:(l++k).length=l.length+k.length:=laI;refine ⟨.slice (some ⟨b,0,none⟩) l.length cap,λM=>?_,.inr ⟨b,cap,E.flat k++rest,lo,rfl,hb,?_,hlo,?_,by omega⟩,λb hb=>hb,λhk=>by subst hk; simp⟩
  ·simp only [qx];rw [bV0 (by omega)];simp
  ·rw [hg,Enc.xr,aaI]
  ·rw [laI,E.zd,hr,<- Nat.add_mul,hl];congr 1; omega
theorem qcB (h:WR o m) {ns rest:List St} {s:St} (hn:TAp yq 152 m o.nt (ns++s::rest)) (hnl:ns.length<=100000) (hd:∀ b∈qc o.nt,b≠o.w) {L:Pg} {k:Nat} {ro:Bool} {lo:Option Nat} (hm:m.get s.pm=some ⟨.map (esL L) k,ro,lo⟩) (hlt:s.pm<m.next) :
  W (Call S tab 64 [.pointer (some ⟨o.w,0,none⟩),.int .i64 (ns.length:Int)] m) λr m'=>r=.int .i64 0/\∃ pm' nt',(rest=[]->nt'=o.nt)/\WR { o with u:=s.u,hd:=s.hd,pm:=pm',L:=L,nt:=nt' } m'/\TAp yq 152 m' nt' (ns++[s])/\(∀ b∈qc nt',b∈qc o.nt)/\m.next<=pm'/\pm'<m'.next/\Upd [o.w] m m':=by
 have d0:decide ((0:Int)=0)=true:=rfl;have hlen:ns.length<(ns++s::rest).length:=by simp
 obtain ⟨nt',sl,hnt,hsub,hsame⟩:=TAp.YG (l:=ns++[s]) (k:=rest) (by rw [aaI]; exact hn);rw [Kg,show (ns++[s]).length=ns.length+1 by simp] at sl;have ldN:∀ {M:Mem},M.get o.w=some ⟨.cells o.cells 155,false,none⟩->qa (.pointer (some ⟨o.w,0+23,none⟩)) M=some o.nt:=λg=>qm g (Wo.at h.hu).2.2.2.2.1
 obtain ⟨m1,pm',e1,hp1,hp2,hq,u1⟩:=YW s hm hlt;have n1:=u1.next;have hlw:=h.lw;have g1:=(u1.same o.w h.lw (by simp)).trans h.hw;have c1:(((ns.length:Nat):Int)<0)=False:=eq_false (by omega);have c2:((((ns++s::rest).length:Nat):Int)<=(ns.length:Int))=False:=eq_false (by omega);obtain ⟨b,off,i1,i2⟩:=hn.tsl.at .i64 (i:=ns.length) (a:=s) (by simp);rw [Kg] at i1 i2;have i3:=(i2 m hn.tsl).1;have hw1:=g1;rw [Wo.HV o h.hu] at hw1;have hcs:∀ (x:Value),Wo.cells { o with u:=s.u,hd:=s.hd,pm:=pm',nt:=x } = .pointer (some ⟨o.c,0,none⟩)::((St.cells { s with pm:=pm' })++[x,.bool false]):=λx=>by unfold Wo.cells St.cells; simp
 have e3:qj 22 (.pointer (some ⟨o.w,0+1,none⟩)) (.agg (St.cells { s with pm:=pm' }).toArray) m1=some (m1.put o.w ⟨.cells (Wo.cells { o with u:=s.u,hd:=s.hd,pm:=pm' }) 155,false,none⟩):=by
  rw [hcs];exact qap (pre:=[.pointer (some ⟨o.c,0,none⟩)]) hw1 rfl (St.len _) (St.len _) (St.all _)
 have g2:(m1.put o.w ⟨.cells (Wo.cells { o with u:=s.u,hd:=s.hd,pm:=pm' }) 155,false,none⟩).get o.w=some ⟨.cells (Wo.cells { o with u:=s.u,hd:=s.hd,pm:=pm' }) 155,false,none⟩:=Mem.qe ..;have e4:qj 1 (.pointer (some ⟨o.w,0+23,none⟩)) nt' (m1.put o.w ⟨.cells (Wo.cells { o with u:=s.u,hd:=s.hd,pm:=pm' }) 155,false,none⟩)=some ((m1.put o.w ⟨.cells (Wo.cells { o with u:=s.u,hd:=s.hd,pm:=pm' }) 155,false,none⟩).put o.w ⟨.cells (Wo.cells { o with u:=s.u,hd:=s.hd,pm:=pm',nt:=nt' }) 155,false,none⟩):=by
  have:=zF (o:=0+23) (v:=nt') g2 (by rw [Wo.len (o:={ o with u:=s.u,hd:=s.hd,pm:=pm' }) s.hu]; omega) hnt.one.1 hnt.one.2
  rwa [Wo.qiG (o:={ o with u:=s.u,hd:=s.hd,pm:=pm' }) s.hu] at this
 rw [C64];simp only [st0,yi h,d0,c1,nck,fa,ldN h.hw,hn.tsl.len,c2,i1,i3,HH,e1,ldN g1,qB (i:=ns.length) (by omega),sl,e3,e4];have u2:Upd [o.w] m1 ((m1.put o.w ⟨.cells (Wo.cells { o with u:=s.u,hd:=s.hd,pm:=pm' }) 155,false,none⟩).put o.w ⟨.cells (Wo.cells { o with u:=s.u,hd:=s.hd,pm:=pm',nt:=nt' }) 155,false,none⟩):=(Upd.put _ _ (by simp)).trans (Upd.put _ _ (by simp));have g3:((m1.put o.w ⟨.cells (Wo.cells { o with u:=s.u,hd:=s.hd,pm:=pm' }) 155,false,none⟩).put o.w ⟨.cells (Wo.cells { o with u:=s.u,hd:=s.hd,pm:=pm',nt:=nt' }) 155,false,none⟩).get o.w=_:=Mem.qe ..;have x3:((m1.put o.w ⟨.cells (Wo.cells { o with u:=s.u,hd:=s.hd,pm:=pm' }) 155,false,none⟩).put o.w ⟨.cells (Wo.cells { o with u:=s.u,hd:=s.hd,pm:=pm',nt:=nt' }) 155,false,none⟩).next=m1.next:=rfl;generalize ((m1.put o.w ⟨.cells (Wo.cells { o with u:=s.u,hd:=s.hd,pm:=pm' }) 155,false,none⟩).put o.w ⟨.cells (Wo.cells { o with u:=s.u,hd:=s.hd,pm:=pm',nt:=nt' }) 155,false,none⟩)=m3 at u2 g3 x3;have kp:∀ {b:Nat},b<m1.next->b≠o.w->m3.get b=m1.get b:=λh1 h2=>u2.same _ h1 (by simp [h2])
 obtain ⟨ne1,ne2,ne3,ne4,ne5⟩:=h.ne;have lc:=h.lc;have lp:=h.lp;have hr1:=h.qn u1;refine jC (λr hr=>?_) (zv.2 ⟨rfl,pm',nt',hsame,⟨g3,s.hu,⟨k,none,(kp hp2 (by omega)).trans hq⟩,?_,?_,h.hP,by show o.w<m3.next; omega,by show pm'<m3.next; omega,by show o.c<m3.next; omega,by show o.p<m3.next; omega,⟨by show o.w≠pm'; omega,ne2,ne3,by show pm'≠o.c; omega,by show pm'≠o.p; omega⟩⟩,?_,hsub,hp1,by omega,(u1.mono (λb hb _=>by cases hb)).trans u2⟩)
 ·have gm:(m1.put o.w ⟨.cells (Wo.cells { o with u:=s.u,hd:=s.hd,pm:=pm' }) 155,false,none⟩).get o.w=_:=Mem.qe ..;have ldN':=λ{M:Mem} (g:M.get o.w=some ⟨.cells (Wo.cells { o with u:=s.u,hd:=s.hd,pm:=pm' }) 155,false,none⟩)=>qm (o:=0+23) g (Wo.at (o:={ o with u:=s.u,hd:=s.hd,pm:=pm' }) s.hu).2.2.2.2.1
  simp only [lcI,nmI,or_false] at hr;rcases hr with rfl|rfl|rfl|rfl
  ·exact okR λk _ hk=>by
    obtain rfl:k=0:=by omega
    exact ⟨_,rfl,ldN h.hw⟩
  ·exact okR λk _ hk=>by
    obtain rfl:k=0:=by omega
    exact ⟨_,rfl,i3⟩
  ·exact okR λk _ hk=>by
    have:k=0∨k=1:=by omega
    rcases this with rfl|rfl
    ·exact ⟨_,rfl,ldN h.hw⟩
    ·exact ⟨_,rfl,ldN g1⟩
  ·exact okR λk _ hk=>by
    have:k=0∨k=1∨k=2:=by omega
    rcases this with rfl|rfl|rfl<;>exact ⟨_,rfl,sl _⟩
 ·show ∃ r t ro lo,m3.get o.c=_;rw [kp (by omega) (λe=>ne2 e.symm)]; exact hr1.hc
 ·show ∃ d a cap r t ro lo,m3.get o.p=_;rw [kp (by omega) (λe=>ne3 e.symm)]; exact hr1.hp
 ·exact (hnt.qn u1).upd u2 (λb hb hm'=>by simp at hm'; exact hd b (hsub b hb) hm')
end
end Go.Fx.Tryz
