/- lives; what has bytes has a text. -/
import Derived.Test.YtgmkehbebpljjaaGreatDoorDecL
namespace Go.Fx.Tryz
open Go Go.Fx
set_option linter.unusedSimpArgs false
set_option linter.unusedVariables false

theorem up {f : FuncId} {a : List Value} {m : Mem} {Q : Value → Mem → Prop} (h : W (Call S1 tab f a m) Q) : W (Call S tab f a m) Q := h.le fun r hr => S_le f a m r hr

def litL : List UInt8 := [99, 111, 110, 115, 116, 32, 50, 32, 39, 54, 56, 54, 57, 10, 10, 32, 32, 115, 116, 101, 112]
def litI : List In := [⟨1, 2, 0, 0, 2, 0, [104, 105]⟩, ⟨17, 0, 0, 0, 0, 0, []⟩]
theorem itoa2 : Lib.itoa 2 = [50] := by
  unfold Lib.itoa
  rw [if_neg (by decide), show (2 : Int).toNat = 2 from rfl, Lib.decDigits_one (by decide)]
  rfl
theorem num2 : numP [50] = (2, true) := by
  have h : Lib.parseIntB 64 [50] = .ok 2 := by rfl
  unfold numP
  rw [h]
  simp only [itoa2, decide_true]
theorem inst1 : instP [[99, 111, 110, 115, 116], [50], [39, 54, 56, 54, 57]] = some ⟨1, 2, 0, 0, 2, 0, [104, 105]⟩ := by
  have h1 : idxP [99, 111, 110, 115, 116] = 1 := by decide
  have h2 : opn 1 = (1, true) := by decide
  have h3 : valueP [39, 54, 56, 54, 57] = (⟨2, 0, [104, 105]⟩, true) := by
    have hc : cutP [39, 54, 56, 54, 57] = ([54, 56, 54, 57], true) := rfl
    have hu : unhexP [54, 56, 54, 57] = some ([104, 105], []) := by decide
    unfold valueP
    rw [hc]
    simp only [if_true, hu]
    rfl
  have h4 : codeErr [⟨1, 2, 0, 0, 2, 0, [104, 105]⟩] = 0 := by decide
  simp [instP, h1, h2, h3, argsGo, num2, In.setA, finP, h4]
theorem inst2 : instP [[115, 116, 101, 112]] = some ⟨17, 0, 0, 0, 0, 0, []⟩ := by
  have h1 : idxP [115, 116, 101, 112] = 17 := by decide
  have h2 : opn 17 = (0, true) := by decide
  have h4 : codeErr [⟨17, 0, 0, 0, 0, 0, []⟩] = 0 := by decide
  simp [instP, h1, h2, argsGo, finP, h4]
theorem litRead : readP litL = (litI, 0, 0) := by
  have hs : splitB 10 litL = [[99, 111, 110, 115, 116, 32, 50, 32, 39, 54, 56, 54, 57], [], [32, 32, 115, 116, 101, 112]] := by decide
  have f1 : fieldsW [99, 111, 110, 115, 116, 32, 50, 32, 39, 54, 56, 54, 57] = [[99, 111, 110, 115, 116], [50], [39, 54, 56, 54, 57]] := by decide
  have f2 : fieldsW [] = [] := rfl
  have f3 : fieldsW [32, 32, 115, 116, 101, 112] = [[115, 116, 101, 112]] := by decide
  unfold readP
  rw [hs]
  simp [readGo, stepP, f1, f2, f3, inst1, inst2, litI]
theorem litErr : codeErr litI = 0 := by decide
theorem litText : textP litI = [99, 111, 110, 115, 116, 32, 50, 32, 39, 54, 56, 54, 57, 10, 115, 116, 101, 112, 10] := by
  have h2 : opn 1 = (1, true) := by decide
  have h3 : opn 17 = (0, true) := by decide
  have n1 : nameP 1 = [99, 111, 110, 115, 116] := by decide
  have n2 : nameP 17 = [115, 116, 101, 112] := by decide
  have s1 : showP ⟨2, 0, [104, 105]⟩ = [39, 54, 56, 54, 57] := by decide
  unfold textP
  rw [if_pos litErr]
  simp [linesP, litI, lineP, wordsP, h2, h3, n1, n2, s1, itoa2, joinP, sepP]
theorem litOk : ∀ x ∈ litI, x.Ok := by
  have z : I64 0 := z0
  have o : I64 1 := ⟨by decide, by decide⟩
  have t : I64 2 := ⟨by decide, by decide⟩
  have v : I64 17 := ⟨by decide, by decide⟩
  intro x hx
  simp only [litI, List.mem_cons, List.not_mem_nil, or_false] at hx
  rcases hx with rfl | rfl
  · exact ⟨o, t, z, z, t, z, by decide⟩
  · exact ⟨v, z, z, z, z, z, by decide⟩
theorem name19 : nameP 19 = [102, 97, 105, 108] := by decide

theorem lives_ok {m : Mem} (hg : Globs m) : W (Call S tab 5 [] m) fun r m' => r = .bool true ∧ Upd [] m m' := by
  rw [C5]
  refine W.bind (read_ok (s := litL) (by decide) hg) fun r m1 ⟨v, hr, hv, hu1, hb1⟩ => ?_
  subst hr
  rw [litRead] at hv ⊢
  have e0 : runExtract 0 (.tuple #[v, .int .i64 ((0 : Nat) : Int), .int .i64 0]) = some v := rfl
  have e1 : runExtract 1 (.tuple #[v, .int .i64 ((0 : Nat) : Int), .int .i64 0]) = some (.int .i64 0) := rfl
  have e2 : runExtract 2 (.tuple #[v, .int .i64 ((0 : Nat) : Int), .int .i64 0]) = some (.int .i64 0) := rfl
  refine W.bindO e0 (W.bindO e1 (W.bindO e2 ?_))
  refine W.bind (up (write_ok litOk (by decide) hv.tsl hv.lt (hg.upd0 hu1))) fun r m2 ⟨hr, hu2⟩ => ?_
  subst hr
  rw [litErr, litText]
  have f0 : runExtract 0 (.tuple #[str [99, 111, 110, 115, 116, 32, 50, 32, 39, 54, 56, 54, 57, 10, 115, 116, 101, 112, 10], .int .i64 0]) = some (str [99, 111, 110, 115, 116, 32, 50, 32, 39, 54, 56, 54, 57, 10, 115, 116, 101, 112, 10]) := rfl
  have f1 : runExtract 1 (.tuple #[str [99, 111, 110, 115, 116, 32, 50, 32, 39, 54, 56, 54, 57, 10, 115, 116, 101, 112, 10], .int .i64 0]) = some (.int .i64 0) := rfl
  have hv2 := hv.upd0 hu2
  obtain ⟨b, off, p1, p2⟩ := hv2.tsl.at .i64 (i := 0) (a := ⟨1, 2, 0, 0, 2, 0, [104, 105]⟩) rfl
  have p1 : runIndexS 7 v (.int .i64 0) = some (.pointer (some ⟨b, off, none⟩)) := p1
  have p2 := (p2 m2 hv2.tsl).2 6 (str [104, 105]) rfl
  have hlen : runLenSlice v = some (.int .i64 2) := hv2.tsl.len
  have fa : runFieldAddr 4 (.pointer (some ⟨b, off, none⟩)) = some (.pointer (some ⟨b, off + 4, none⟩)) := rfl
  have fb : runFieldAddr 2 (.pointer (some ⟨b, off + 4, none⟩)) = some (.pointer (some ⟨b, off + 4 + 2, none⟩)) := rfl
  have q1 : arith .eql (str [104, 105]) (.string ⟨#[104, 105]⟩) = some (.bool true) := by rw [show (Value.string ⟨#[104, 105]⟩) = str [104, 105] from rfl, eql_str]; simp
  have q2 : arith .eql (str [99, 111, 110, 115, 116, 32, 50, 32, 39, 54, 56, 54, 57, 10, 115, 116, 101, 112, 10]) (.string ⟨#[99, 111, 110, 115, 116, 32, 50, 32, 39, 54, 56, 54, 57, 10, 115, 116, 101, 112, 10]⟩) = some (.bool true) := by rw [show (Value.string ⟨#[99, 111, 110, 115, 116, 32, 50, 32, 39, 54, 56, 54, 57, 10, 115, 116, 101, 112, 10]⟩) = str [99, 111, 110, 115, 116, 32, 50, 32, 39, 54, 56, 54, 57, 10, 115, 116, 101, 112, 10] from rfl, eql_str]; simp
  have p2 : runLoad1 (.pointer (some ⟨b, off + 4 + 2, none⟩)) m2 = some (str [104, 105]) := p2
  simp -implicitDefEqProofs only [Option.bind_some, W_some, W_nw, W_nws, W_nwAt, newVal, cnd_true, cnd_false, gdo_tt, gdo_ff, gdo_tf, gdo_ft, gdo_u, ar_lss, ar_leq, ar_gtr, ar_geq, ar_eql, ar_neq, asB_b, un_not, un_notd, max_i, min_i, Bool.not_true, Bool.not_false, decide_true, decide_false, decide_not, reduceIte, if_true, if_false, Bool.false_eq_true, not_true_eq_false, not_false_eq_true, Bool.true_eq_false, f0, f1, hlen, p1, fa, fb, p2, q1, q2]
  refine W.bind (Q := fun r m3 => r = str (nameP 19) ∧ Upd [] m m3) (W.bind (up (name_ok 19 m2)) fun r m3 h => W_some.2 ⟨h.1, (hu1.then0 hu2).then0 h.2⟩) fun r m3 ⟨hr, hu3⟩ => ?_
  subst hr
  have q3 : arith .eql (str (nameP 19)) (.string ⟨#[102, 97, 105, 108]⟩) = some (.bool true) := by rw [name19, show (Value.string ⟨#[102, 97, 105, 108]⟩) = str [102, 97, 105, 108] from rfl, eql_str]; simp
  simp -implicitDefEqProofs only [Option.bind_some, W_some, W_nw, W_nws, W_nwAt, newVal, cnd_true, cnd_false, gdo_tt, gdo_ff, gdo_tf, gdo_ft, gdo_u, ar_lss, ar_leq, ar_gtr, ar_geq, ar_eql, ar_neq, asB_b, un_not, un_notd, max_i, min_i, Bool.not_true, Bool.not_false, decide_true, decide_false, decide_not, reduceIte, if_true, if_false, Bool.false_eq_true, not_true_eq_false, not_false_eq_true, Bool.true_eq_false, q3]
  exact ⟨by trivial, hu3⟩
end Go.Fx.Tryz
