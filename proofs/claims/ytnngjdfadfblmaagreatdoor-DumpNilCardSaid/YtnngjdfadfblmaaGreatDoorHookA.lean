/- The library's functions that are met by the shelf's contracts: strings.Repeat, strings.Trim of one byte. -/
import Derived.Test.YtnngjdfadfblmaaGreatDoorChecked
import Derived.Test.YtnngjdfadfblmaaGreatDoorShelf
import Derived.Test.YtnngjdfadfblmaaGreatDoorFxHook
import Derived.KernelRfl
namespace Go.Fx.Tryz
open Go Go.Fx Go.Proofs Go.RowKit
set_option linter.unusedVariables false

/-- strings.Repeat. -/
def aRepeat (l : List Value) (m : Mem) : Option (Value × Mem) := match l with
  | [.string s, .int .i64 c] => if 0 ≤ c ∧ c ≤ 1000000 ∧ s.size ≤ 1000000 then some (.string ⟨(Lib.repeatL s.data.toList c.toNat).toArray⟩, m) else none
  | _ => none
theorem ok_repeat {l : List Value} {m m' : Mem} {v : Value} (h : aRepeat l m = some (v, m')) {φ : Ren} {w : World} {ARGS : Array Value} (hi : Inv φ m w) (ha : VRs φ l ARGS.toList) : Calls1 Tryz.prog φ m w 68 ARGS v m' := by
  unfold aRepeat at h
  split at h
  · rename_i s c
    split at h
    · rename_i hc
      cases h
      obtain ⟨A, B, rfl, hA, hB⟩ := ha.two
      cases hA; cases hB
      obtain ⟨c, rfl⟩ := Int.eq_ofNat_of_zero_le hc.1
      have hm : s.size * c ≤ 1000000 * 1000000 := Nat.mul_le_mul hc.2.2 (by omega)
      exact calls1_below hi (.string _) (Any.strings_Repeat Tryz.lays105 Tryz.extra105 s c w (by omega) (by omega))
    · cases h
  · cases h

/-- strings.Trim, of one byte. -/
def aTrim (l : List Value) (m : Mem) : Option (Value × Mem) := match l with
  | [.string s, .string ⟨⟨[c]⟩⟩] => if c.toNat < 128 ∧ s.size ≤ 1000000 then some (.string ⟨(Lib.trimB s.data.toList c).toArray⟩, m) else none
  | _ => none
theorem ok_trim {l : List Value} {m m' : Mem} {v : Value} (h : aTrim l m = some (v, m')) {φ : Ren} {w : World} {ARGS : Array Value} (hi : Inv φ m w) (ha : VRs φ l ARGS.toList) : Calls1 Tryz.prog φ m w 153 ARGS v m' := by
  unfold aTrim at h
  split at h
  · rename_i s c
    split at h
    · rename_i hc
      cases h
      obtain ⟨A, B, rfl, hA, hB⟩ := ha.two
      cases hA; cases hB
      refine calls1_below hi (.string _) ((Any.strings_Trim_one Tryz.lays160 s c hc.1 w (by omega)).mono ?_)
      rintro e w' ⟨rfl, hw | hw⟩
      · exact ⟨rfl, hw ▸ Below.refl _ _⟩
      · exact ⟨rfl, hw ▸ ⟨rfl, rfl, rfl, Nat.le_refl _, fun _ _ => rfl⟩⟩
    · cases h
  · cases h
end Go.Fx.Tryz
