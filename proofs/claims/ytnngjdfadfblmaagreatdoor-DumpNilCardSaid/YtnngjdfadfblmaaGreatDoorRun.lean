/- A closed run's steps (written by a program of this session out of the loaded translation; each is checked against it). -/
import Derived.Test.YtnngjdfadfblmaaGreatDoorRunA
import Derived.KernelRfl
namespace Go.Fx.Tryz.Run
open Go Go.Fx Go.Fx.Tryz
set_option linter.unusedVariables false
set_option maxRecDepth 100000
noncomputable def PF (i : Nat) (l : List Value) (m : Mem) : O := bif Nat.blt i 21 then (bif Nat.blt i 10 then (bif Nat.blt i 5 then (bif Nat.blt i 2 then (bif Nat.blt i 1 then (match l with | [x1, x2, x9, x10] => P19_0 x1 x2 x9 x10 m | _ => none) else (match l with | [x0, x5] => P26_0 x0 x5 m | _ => none)) else (bif Nat.blt i 3 then (match l with | [x4, x27, x28, x29] => P27_0 x4 x27 x28 x29 m | _ => none) else (bif Nat.blt i 4 then (match l with | [x1, x4, x55, x56, x57] => P27_1 x1 x4 x55 x56 x57 m | _ => none) else (match l with | [x4] => P27_2 x4 m | _ => none)))) else (bif Nat.blt i 7 then (bif Nat.blt i 6 then (match l with | [x0, x6, x24, x25, x26] => P32_0 x0 x6 x24 x25 x26 m | _ => none) else (match l with | [x0, x6, x24, x25, x26, x46, x47, x48] => P32_1 x0 x6 x24 x25 x26 x46 x47 x48 m | _ => none)) else (bif Nat.blt i 8 then (match l with | [x0, x6, x29, x30] => P37_0 x0 x6 x29 x30 m | _ => none) else (bif Nat.blt i 9 then (match l with | [x0, x6] => P37_1 x0 x6 m | _ => none) else (match l with | [x0, x1, x6] => P48_0 x0 x1 x6 m | _ => none))))) else (bif Nat.blt i 15 then (bif Nat.blt i 12 then (bif Nat.blt i 11 then (match l with | [x1, x2, x6, x10, x11, x12] => P50_0 x1 x2 x6 x10 x11 x12 m | _ => none) else (match l with | [x1, x2, x6] => P50_1 x1 x2 x6 m | _ => none)) else (bif Nat.blt i 13 then (match l with | [x0, x2, x3, x4, x11, x12, x24, x25, x26] => P53_0 x0 x2 x3 x4 x11 x12 x24 x25 x26 m | _ => none) else (bif Nat.blt i 14 then (match l with | [x0, x2, x3, x4, x11, x12] => P53_1 x0 x2 x3 x4 x11 x12 m | _ => none) else (match l with | [x0, x2, x3, x4, x11, x12, x50, x51, x52] => P53_2 x0 x2 x3 x4 x11 x12 x50 x51 x52 m | _ => none)))) else (bif Nat.blt i 18 then (bif Nat.blt i 16 then (match l with | [x3, x11, x12, x13] => P65_0 x3 x11 x12 x13 m | _ => none) else (bif Nat.blt i 17 then (match l with | [x3, x26, x27, x28] => P65_1 x3 x26 x27 x28 m | _ => none) else (match l with | [x0, x1, x7] => P67_0 x0 x1 x7 m | _ => none))) else (bif Nat.blt i 19 then (match l with | [x0, x1, x12, x13] => P78_0 x0 x1 x12 x13 m | _ => none) else (bif Nat.blt i 20 then (match l with | [x0, x3, x10, x11] => P85_0 x0 x3 x10 x11 m | _ => none) else (match l with | [x0] => P85_1 x0 m | _ => none)))))) else (bif Nat.blt i 31 then (bif Nat.blt i 26 then (bif Nat.blt i 23 then (bif Nat.blt i 22 then (match l with | [x0, x1, x5, x9] => P88_0 x0 x1 x5 x9 m | _ => none) else (match l with | [x5] => P88_1 x5 m | _ => none)) else (bif Nat.blt i 24 then (match l with | [x0, x2, x4, x5, x6, x7] => P99_0 x0 x2 x4 x5 x6 x7 m | _ => none) else (bif Nat.blt i 25 then (match l with | [x0, x2, x4, x5, x7, x29, x30] => P99_1 x0 x2 x4 x5 x7 x29 x30 m | _ => none) else (match l with | [x0, x2, x4, x5, x7] => P99_2 x0 x2 x4 x5 x7 m | _ => none)))) else (bif Nat.blt i 28 then (bif Nat.blt i 27 then (match l with | [x0, x5, x6, x7] => P108_0 x0 x5 x6 x7 m | _ => none) else (match l with | [x3, x7, x8, x9] => P109_0 x3 x7 x8 x9 m | _ => none)) else (bif Nat.blt i 29 then (match l with | [x0, x1] => P117_0 x0 x1 m | _ => none) else (bif Nat.blt i 30 then (match l with | [x7, x18, x19, x20] => P134_0 x7 x18 x19 x20 m | _ => none) else (match l with | [x0, x6, x9, x44, x45] => P135_0 x0 x6 x9 x44 x45 m | _ => none))))) else (bif Nat.blt i 36 then (bif Nat.blt i 33 then (bif Nat.blt i 32 then (match l with | [x0, x1, x7, x8] => P161_0 x0 x1 x7 x8 m | _ => none) else (match l with | [x4, x5, x6, x7, x17, x18] => P174_0 x4 x5 x6 x7 x17 x18 m | _ => none)) else (bif Nat.blt i 34 then (match l with | [x4, x5, x7] => P174_1 x4 x5 x7 m | _ => none) else (bif Nat.blt i 35 then (match l with | [x0, x1, x5] => P186_0 x0 x1 x5 m | _ => none) else (match l with | [x0, x1, x5] => P186_1 x0 x1 x5 m | _ => none)))) else (bif Nat.blt i 39 then (bif Nat.blt i 37 then (match l with | [x0, x1, x5, x39, x40, x41] => P186_2 x0 x1 x5 x39 x40 x41 m | _ => none) else (bif Nat.blt i 38 then (match l with | [x0, x1, x5, x7, x39, x40, x41] => P186_3 x0 x1 x5 x7 x39 x40 x41 m | _ => none) else (match l with | [x0, x1, x5] => P186_4 x0 x1 x5 m | _ => none))) else (bif Nat.blt i 40 then (match l with | [x1, x8, x63, x64, x65] => P186_5 x1 x8 x63 x64 x65 m | _ => none) else (bif Nat.blt i 41 then (match l with | [x0, x1, x7, x8] => P218_0 x0 x1 x7 x8 m | _ => none) else (match l with | [x1, x2, x10] => P242_0 x1 x2 x10 m | _ => none))))))
noncomputable def FN : RunT := fun w i l m => match w with | true => Call S tab i l m | false => PF i l m
theorem E19 (x0 x1 x2 : Value) (m : Mem) : FN true 19 [x0, x1, x2] m = T19 FN x0 x1 x2 m :=
  (show FN true 19 [x0, x1, x2] m = Call S tab 19 [x0, x1, x2] m by kernel_rfl).trans ((Call_ev (fn := fn19) hf19 [x0, x1, x2] m (by kernel_rfl)).trans (by kernel_rfl))
theorem G19 : GoodB FN true 19 B19 := by
  intro r h l m
  unfold B19
  split
  · exact fun q hq => (E19 _ _ _ m).trans (L19 h _ _ _ m q hq)
  · exact fun q hq => by cases hq
theorem E19_0 (x1 x2 x9 x10 : Value) (m : Mem) : FN false 0 [x1, x2, x9, x10] m = T19_0 FN x1 x2 x9 x10 m :=
  (show FN false 0 [x1, x2, x9, x10] m = P19_0 x1 x2 x9 x10 m by kernel_rfl).trans ((Pt_ev (S := S) (tab := tab) (rs := fn19.results) (at' fn19 [1, 1, 0, 1, 0]) [u, x1, x2, u, u, u, u, u, u, x9, x10, u, u, u, u, u, u, u, u, u, u, u, u, u, u, u, u, u, u, u, u, u, u, u, u, u, u, u, u, u, u, u, u, u, u, u, u, u, u, u, u, u, u, u] m).trans (by kernel_rfl))
theorem G19_0 : GoodB FN false 0 B19_0 := by
  intro r h l m
  unfold B19_0
  split
  · exact fun q hq => (E19_0 _ _ _ _ m).trans (L19_0 h _ _ _ _ m q hq)
  · exact fun q hq => by cases hq
theorem E21 (x0 x1 x2 x3 : Value) (m : Mem) : FN true 21 [x0, x1, x2, x3] m = T21 FN x0 x1 x2 x3 m :=
  (show FN true 21 [x0, x1, x2, x3] m = Call S tab 21 [x0, x1, x2, x3] m by kernel_rfl).trans ((Call_ev (fn := fn21) hf21 [x0, x1, x2, x3] m (by kernel_rfl)).trans (by kernel_rfl))
theorem G21 : GoodB FN true 21 B21 := by
  intro r h l m
  unfold B21
  split
  · exact fun q hq => (E21 _ _ _ _ m).trans (L21 h _ _ _ _ m q hq)
  · exact fun q hq => by cases hq
theorem E26 (x0 : Value) (m : Mem) : FN true 26 [x0] m = T26 FN x0 m :=
  (show FN true 26 [x0] m = Call S tab 26 [x0] m by kernel_rfl).trans ((Call_ev (fn := fn26) hf26 [x0] m (by kernel_rfl)).trans (by kernel_rfl))
theorem G26 : GoodB FN true 26 B26 := by
  intro r h l m
  unfold B26
  split
  · exact fun q hq => (E26 _ m).trans (L26 h _ m q hq)
  · exact fun q hq => by cases hq
theorem E26_0 (x0 x5 : Value) (m : Mem) : FN false 1 [x0, x5] m = T26_0 FN x0 x5 m :=
  (show FN false 1 [x0, x5] m = P26_0 x0 x5 m by kernel_rfl).trans ((Pt_ev (S := S) (tab := tab) (rs := fn26.results) (at' fn26 [1, 1, 0, 1, 0]) [x0, u, u, u, u, x5, u, u, u, u, u, u, u, u, u, u, u, u, u, u, u, u, u, u, u, u, u, u, u, u, u, u, u, u, u, u, u, u, u] m).trans (by kernel_rfl))
theorem G26_0 : GoodB FN false 1 B26_0 := by
  intro r h l m
  unfold B26_0
  split
  · exact fun q hq => (E26_0 _ _ m).trans (L26_0 h _ _ m q hq)
  · exact fun q hq => by cases hq
theorem E27 (x0 : Value) (m : Mem) : FN true 27 [x0] m = T27 FN x0 m :=
  (show FN true 27 [x0] m = Call S tab 27 [x0] m by kernel_rfl).trans ((Call_ev (fn := fn27) hf27 [x0] m (by kernel_rfl)).trans (by kernel_rfl))
theorem G27 : GoodB FN true 27 B27 := by
  intro r h l m
  unfold B27
  split
  · exact fun q hq => (E27 _ m).trans (L27 h _ m q hq)
  · exact fun q hq => by cases hq
theorem E27_0 (x4 x27 x28 x29 : Value) (m : Mem) : FN false 2 [x4, x27, x28, x29] m = T27_0 FN x4 x27 x28 x29 m :=
  (show FN false 2 [x4, x27, x28, x29] m = P27_0 x4 x27 x28 x29 m by kernel_rfl).trans ((Pt_ev (S := S) (tab := tab) (rs := fn27.results) (at' fn27 [1, 1, 1, 0, 1, 0, 1, 1, 0]) [u, u, u, u, x4, u, u, u, u, u, u, u, u, u, u, u, u, u, u, u, u, u, u, u, u, u, u, x27, x28, x29, u, u, u, u, u, u, u, u, u, u, u, u, u, u, u, u, u, u, u, u, u, u, u, u, u, u, u, u, u, u, u, u, u, u, u, u, u, u, u, u, u, u, u, u, u, u, u, u, u, u, u] m).trans (by kernel_rfl))
theorem G27_0 : GoodB FN false 2 B27_0 := by
  intro r h l m
  unfold B27_0
  split
  · exact fun q hq => (E27_0 _ _ _ _ m).trans (L27_0 h _ _ _ _ m q hq)
  · exact fun q hq => by cases hq
theorem E27_1 (x1 x4 x55 x56 x57 : Value) (m : Mem) : FN false 3 [x1, x4, x55, x56, x57] m = T27_1 FN x1 x4 x55 x56 x57 m :=
  (show FN false 3 [x1, x4, x55, x56, x57] m = P27_1 x1 x4 x55 x56 x57 m by kernel_rfl).trans ((Pt_ev (S := S) (tab := tab) (rs := fn27.results) (at' fn27 [1, 1, 1, 0, 1, 1, 1, 1, 0]) [u, x1, u, u, x4, u, u, u, u, u, u, u, u, u, u, u, u, u, u, u, u, u, u, u, u, u, u, u, u, u, u, u, u, u, u, u, u, u, u, u, u, u, u, u, u, u, u, u, u, u, u, u, u, u, u, x55, x56, x57, u, u, u, u, u, u, u, u, u, u, u, u, u, u, u, u, u, u, u, u, u, u, u] m).trans (by kernel_rfl))
theorem G27_1 : GoodB FN false 3 B27_1 := by
  intro r h l m
  unfold B27_1
  split
  · exact fun q hq => (E27_1 _ _ _ _ _ m).trans (L27_1 h _ _ _ _ _ m q hq)
  · exact fun q hq => by cases hq
theorem E27_2 (x4 : Value) (m : Mem) : FN false 4 [x4] m = T27_2 FN x4 m :=
  (show FN false 4 [x4] m = P27_2 x4 m by kernel_rfl).trans ((Pt_ev (S := S) (tab := tab) (rs := fn27.results) (at' fn27 [1, 1, 1, 1]) [u, u, u, u, x4, u, u, u, u, u, u, u, u, u, u, u, u, u, u, u, u, u, u, u, u, u, u, u, u, u, u, u, u, u, u, u, u, u, u, u, u, u, u, u, u, u, u, u, u, u, u, u, u, u, u, u, u, u, u, u, u, u, u, u, u, u, u, u, u, u, u, u, u, u, u, u, u, u, u, u, u] m).trans (by kernel_rfl))
theorem G27_2 : GoodB FN false 4 B27_2 := by
  intro r h l m
  unfold B27_2
  split
  · exact fun q hq => (E27_2 _ m).trans (L27_2 h _ m q hq)
  · exact fun q hq => by cases hq
theorem E28 (x0 x1 x2 : Value) (m : Mem) : FN true 28 [x0, x1, x2] m = T28 FN x0 x1 x2 m :=
  (show FN true 28 [x0, x1, x2] m = Call S tab 28 [x0, x1, x2] m by kernel_rfl).trans ((Call_ev (fn := fn28) hf28 [x0, x1, x2] m (by kernel_rfl)).trans (by kernel_rfl))
theorem G28 : GoodB FN true 28 B28 := by
  intro r h l m
  unfold B28
  split
  · exact fun q hq => (E28 _ _ _ m).trans (L28 h _ _ _ m q hq)
  · exact fun q hq => by cases hq
theorem E30 (x0 x1 x2 x3 : Value) (m : Mem) : FN true 30 [x0, x1, x2, x3] m = T30 FN x0 x1 x2 x3 m :=
  (show FN true 30 [x0, x1, x2, x3] m = Call S tab 30 [x0, x1, x2, x3] m by kernel_rfl).trans ((Call_ev (fn := fn30) hf30 [x0, x1, x2, x3] m (by kernel_rfl)).trans (by kernel_rfl))
theorem G30 : GoodB FN true 30 B30 := by
  intro r h l m
  unfold B30
  split
  · exact fun q hq => (E30 _ _ _ _ m).trans (L30 h _ _ _ _ m q hq)
  · exact fun q hq => by cases hq
theorem E31 (m : Mem) : FN true 31 [] m = T31 FN m :=
  (show FN true 31 [] m = Call S tab 31 [] m by kernel_rfl).trans ((Call_ev (fn := fn31) hf31 [] m (by kernel_rfl)).trans (by kernel_rfl))
theorem G31 : GoodB FN true 31 B31 := by
  intro r h l m
  unfold B31
  split
  · exact fun q hq => (E31  m).trans (L31 h  m q hq)
  · exact fun q hq => by cases hq
theorem E32 (x0 : Value) (m : Mem) : FN true 32 [x0] m = T32 FN x0 m :=
  (show FN true 32 [x0] m = Call S tab 32 [x0] m by kernel_rfl).trans ((Call_ev (fn := fn32) hf32 [x0] m (by kernel_rfl)).trans (by kernel_rfl))
theorem G32 : GoodB FN true 32 B32 := by
  intro r h l m
  unfold B32
  split
  · exact fun q hq => (E32 _ m).trans (L32 h _ m q hq)
  · exact fun q hq => by cases hq
theorem E32_0 (x0 x6 x24 x25 x26 : Value) (m : Mem) : FN false 5 [x0, x6, x24, x25, x26] m = T32_0 FN x0 x6 x24 x25 x26 m :=
  (show FN false 5 [x0, x6, x24, x25, x26] m = P32_0 x0 x6 x24 x25 x26 m by kernel_rfl).trans ((Pt_ev (S := S) (tab := tab) (rs := fn32.results) (at' fn32 [1, 1, 1, 1, 0, 1, 0]) [x0, u, u, u, u, u, x6, u, u, u, u, u, u, u, u, u, u, u, u, u, u, u, u, u, x24, x25, x26, u, u, u, u, u, u, u, u, u, u, u, u, u, u, u, u, u, u, u, u, u, u, u, u, u, u, u, u, u, u, u, u, u, u, u, u] m).trans (by kernel_rfl))
theorem G32_0 : GoodB FN false 5 B32_0 := by
  intro r h l m
  unfold B32_0
  split
  · exact fun q hq => (E32_0 _ _ _ _ _ m).trans (L32_0 h _ _ _ _ _ m q hq)
  · exact fun q hq => by cases hq
theorem E32_1 (x0 x6 x24 x25 x26 x46 x47 x48 : Value) (m : Mem) : FN false 6 [x0, x6, x24, x25, x26, x46, x47, x48] m = T32_1 FN x0 x6 x24 x25 x26 x46 x47 x48 m :=
  (show FN false 6 [x0, x6, x24, x25, x26, x46, x47, x48] m = P32_1 x0 x6 x24 x25 x26 x46 x47 x48 m by kernel_rfl).trans ((Pt_ev (S := S) (tab := tab) (rs := fn32.results) (at' fn32 [1, 1, 1, 1, 0, 1, 0, 0, 1, 1, 0, 0, 1, 1, 1, 1, 1, 0]) [x0, u, u, u, u, u, x6, u, u, u, u, u, u, u, u, u, u, u, u, u, u, u, u, u, x24, x25, x26, u, u, u, u, u, u, u, u, u, u, u, u, u, u, u, u, u, u, u, x46, x47, x48, u, u, u, u, u, u, u, u, u, u, u, u, u, u] m).trans (by kernel_rfl))
theorem G32_1 : GoodB FN false 6 B32_1 := by
  intro r h l m
  unfold B32_1
  split
  · exact fun q hq => (E32_1 _ _ _ _ _ _ _ _ m).trans (L32_1 h _ _ _ _ _ _ _ _ m q hq)
  · exact fun q hq => by cases hq
theorem E33 (x0 x1 : Value) (m : Mem) : FN true 33 [x0, x1] m = T33 FN x0 x1 m :=
  (show FN true 33 [x0, x1] m = Call S tab 33 [x0, x1] m by kernel_rfl).trans ((Call_ev (fn := fn33) hf33 [x0, x1] m (by kernel_rfl)).trans (by kernel_rfl))
theorem G33 : GoodB FN true 33 B33 := by
  intro r h l m
  unfold B33
  split
  · exact fun q hq => (E33 _ _ m).trans (L33 h _ _ m q hq)
  · exact fun q hq => by cases hq
theorem E35 (x0 x1 : Value) (m : Mem) : FN true 35 [x0, x1] m = T35 FN x0 x1 m :=
  (show FN true 35 [x0, x1] m = Call S tab 35 [x0, x1] m by kernel_rfl).trans ((Call_ev (fn := fn35) hf35 [x0, x1] m (by kernel_rfl)).trans (by kernel_rfl))
theorem G35 : GoodB FN true 35 B35 := by
  intro r h l m
  unfold B35
  split
  · exact fun q hq => (E35 _ _ m).trans (L35 h _ _ m q hq)
  · exact fun q hq => by cases hq
theorem E37 (x0 x1 : Value) (m : Mem) : FN true 37 [x0, x1] m = T37 FN x0 x1 m :=
  (show FN true 37 [x0, x1] m = Call S tab 37 [x0, x1] m by kernel_rfl).trans ((Call_ev (fn := fn37) hf37 [x0, x1] m (by kernel_rfl)).trans (by kernel_rfl))
theorem G37 : GoodB FN true 37 B37 := by
  intro r h l m
  unfold B37
  split
  · exact fun q hq => (E37 _ _ m).trans (L37 h _ _ m q hq)
  · exact fun q hq => by cases hq
theorem E37_0 (x0 x6 x29 x30 : Value) (m : Mem) : FN false 7 [x0, x6, x29, x30] m = T37_0 FN x0 x6 x29 x30 m :=
  (show FN false 7 [x0, x6, x29, x30] m = P37_0 x0 x6 x29 x30 m by kernel_rfl).trans ((Pt_ev (S := S) (tab := tab) (rs := fn37.results) (at' fn37 [1, 1, 1, 0, 1, 0]) [x0, u, u, u, u, u, x6, u, u, u, u, u, u, u, u, u, u, u, u, u, u, u, u, u, u, u, u, u, u, x29, x30, u, u, u, u, u, u, u, u, u, u, u, u, u, u, u, u, u, u, u, u, u, u, u, u] m).trans (by kernel_rfl))
theorem G37_0 : GoodB FN false 7 B37_0 := by
  intro r h l m
  unfold B37_0
  split
  · exact fun q hq => (E37_0 _ _ _ _ m).trans (L37_0 h _ _ _ _ m q hq)
  · exact fun q hq => by cases hq
theorem E37_1 (x0 x6 : Value) (m : Mem) : FN false 8 [x0, x6] m = T37_1 FN x0 x6 m :=
  (show FN false 8 [x0, x6] m = P37_1 x0 x6 m by kernel_rfl).trans ((Pt_ev (S := S) (tab := tab) (rs := fn37.results) (at' fn37 [1, 1, 1, 1]) [x0, u, u, u, u, u, x6, u, u, u, u, u, u, u, u, u, u, u, u, u, u, u, u, u, u, u, u, u, u, u, u, u, u, u, u, u, u, u, u, u, u, u, u, u, u, u, u, u, u, u, u, u, u, u, u] m).trans (by kernel_rfl))
theorem G37_1 : GoodB FN false 8 B37_1 := by
  intro r h l m
  unfold B37_1
  split
  · exact fun q hq => (E37_1 _ _ m).trans (L37_1 h _ _ m q hq)
  · exact fun q hq => by cases hq
theorem E38 (x0 : Value) (m : Mem) : FN true 38 [x0] m = T38 FN x0 m :=
  (show FN true 38 [x0] m = Call S tab 38 [x0] m by kernel_rfl).trans ((Call_ev (fn := fn38) hf38 [x0] m (by kernel_rfl)).trans (by kernel_rfl))
theorem G38 : GoodB FN true 38 B38 := by
  intro r h l m
  unfold B38
  split
  · exact fun q hq => (E38 _ m).trans (L38 h _ m q hq)
  · exact fun q hq => by cases hq
theorem E39 (x0 : Value) (m : Mem) : FN true 39 [x0] m = T39 FN x0 m :=
  (show FN true 39 [x0] m = Call S tab 39 [x0] m by kernel_rfl).trans ((Call_ev (fn := fn39) hf39 [x0] m (by kernel_rfl)).trans (by kernel_rfl))
theorem G39 : GoodB FN true 39 B39 := by
  intro r h l m
  unfold B39
  split
  · exact fun q hq => (E39 _ m).trans (L39 h _ m q hq)
  · exact fun q hq => by cases hq
theorem E40 (x0 : Value) (m : Mem) : FN true 40 [x0] m = T40 FN x0 m :=
  (show FN true 40 [x0] m = Call S tab 40 [x0] m by kernel_rfl).trans ((Call_ev (fn := fn40) hf40 [x0] m (by kernel_rfl)).trans (by kernel_rfl))
theorem G40 : GoodB FN true 40 B40 := by
  intro r h l m
  unfold B40
  split
  · exact fun q hq => (E40 _ m).trans (L40 h _ m q hq)
  · exact fun q hq => by cases hq
theorem E41 (x0 x1 : Value) (m : Mem) : FN true 41 [x0, x1] m = T41 FN x0 x1 m :=
  (show FN true 41 [x0, x1] m = Call S tab 41 [x0, x1] m by kernel_rfl).trans ((Call_ev (fn := fn41) hf41 [x0, x1] m (by kernel_rfl)).trans (by kernel_rfl))
theorem G41 : GoodB FN true 41 B41 := by
  intro r h l m
  unfold B41
  split
  · exact fun q hq => (E41 _ _ m).trans (L41 h _ _ m q hq)
  · exact fun q hq => by cases hq
theorem E45 (x0 : Value) (m : Mem) : FN true 45 [x0] m = T45 FN x0 m :=
  (show FN true 45 [x0] m = Call S tab 45 [x0] m by kernel_rfl).trans ((Call_ev (fn := fn45) hf45 [x0] m (by kernel_rfl)).trans (by kernel_rfl))
theorem G45 : GoodB FN true 45 B45 := by
  intro r h l m
  unfold B45
  split
  · exact fun q hq => (E45 _ m).trans (L45 h _ m q hq)
  · exact fun q hq => by cases hq
theorem E46 (x0 : Value) (m : Mem) : FN true 46 [x0] m = T46 FN x0 m :=
  (show FN true 46 [x0] m = Call S tab 46 [x0] m by kernel_rfl).trans ((Call_ev (fn := fn46) hf46 [x0] m (by kernel_rfl)).trans (by kernel_rfl))
theorem G46 : GoodB FN true 46 B46 := by
  intro r h l m
  unfold B46
  split
  · exact fun q hq => (E46 _ m).trans (L46 h _ m q hq)
  · exact fun q hq => by cases hq
theorem E47 (x0 x1 : Value) (m : Mem) : FN true 47 [x0, x1] m = T47 FN x0 x1 m :=
  (show FN true 47 [x0, x1] m = Call S tab 47 [x0, x1] m by kernel_rfl).trans ((Call_ev (fn := fn47) hf47 [x0, x1] m (by kernel_rfl)).trans (by kernel_rfl))
theorem G47 : GoodB FN true 47 B47 := by
  intro r h l m
  unfold B47
  split
  · exact fun q hq => (E47 _ _ m).trans (L47 h _ _ m q hq)
  · exact fun q hq => by cases hq
theorem E48 (x0 x1 x2 : Value) (m : Mem) : FN true 48 [x0, x1, x2] m = T48 FN x0 x1 x2 m :=
  (show FN true 48 [x0, x1, x2] m = Call S tab 48 [x0, x1, x2] m by kernel_rfl).trans ((Call_ev (fn := fn48) hf48 [x0, x1, x2] m (by kernel_rfl)).trans (by kernel_rfl))
theorem G48 : GoodB FN true 48 B48 := by
  intro r h l m
  unfold B48
  split
  · exact fun q hq => (E48 _ _ _ m).trans (L48 h _ _ _ m q hq)
  · exact fun q hq => by cases hq
theorem E48_0 (x0 x1 x6 : Value) (m : Mem) : FN false 9 [x0, x1, x6] m = T48_0 FN x0 x1 x6 m :=
  (show FN false 9 [x0, x1, x6] m = P48_0 x0 x1 x6 m by kernel_rfl).trans ((Pt_ev (S := S) (tab := tab) (rs := fn48.results) (at' fn48 [1, 1, 1]) [x0, x1, u, u, u, u, x6, u, u, u, u, u, u, u, u, u, u, u, u, u, u, u, u, u, u, u, u, u, u, u, u, u, u, u, u, u, u, u, u, u, u, u, u, u, u, u, u, u, u, u, u, u, u, u, u, u, u, u, u, u, u] m).trans (by kernel_rfl))
theorem G48_0 : GoodB FN false 9 B48_0 := by
  intro r h l m
  unfold B48_0
  split
  · exact fun q hq => (E48_0 _ _ _ m).trans (L48_0 h _ _ _ m q hq)
  · exact fun q hq => by cases hq
theorem E49 (x0 : Value) (m : Mem) : FN true 49 [x0] m = T49 FN x0 m :=
  (show FN true 49 [x0] m = Call S tab 49 [x0] m by kernel_rfl).trans ((Call_ev (fn := fn49) hf49 [x0] m (by kernel_rfl)).trans (by kernel_rfl))
theorem G49 : GoodB FN true 49 B49 := by
  intro r h l m
  unfold B49
  split
  · exact fun q hq => (E49 _ m).trans (L49 h _ m q hq)
  · exact fun q hq => by cases hq
theorem E50 (x0 x1 : Value) (m : Mem) : FN true 50 [x0, x1] m = T50 FN x0 x1 m :=
  (show FN true 50 [x0, x1] m = Call S tab 50 [x0, x1] m by kernel_rfl).trans ((Call_ev (fn := fn50) hf50 [x0, x1] m (by kernel_rfl)).trans (by kernel_rfl))
theorem G50 : GoodB FN true 50 B50 := by
  intro r h l m
  unfold B50
  split
  · exact fun q hq => (E50 _ _ m).trans (L50 h _ _ m q hq)
  · exact fun q hq => by cases hq
theorem E50_0 (x1 x2 x6 x10 x11 x12 : Value) (m : Mem) : FN false 10 [x1, x2, x6, x10, x11, x12] m = T50_0 FN x1 x2 x6 x10 x11 x12 m :=
  (show FN false 10 [x1, x2, x6, x10, x11, x12] m = P50_0 x1 x2 x6 x10 x11 x12 m by kernel_rfl).trans ((Pt_ev (S := S) (tab := tab) (rs := fn50.results) (at' fn50 [1, 1, 0, 1, 0]) [u, x1, x2, u, u, u, x6, u, u, u, x10, x11, x12, u, u, u, u, u, u, u, u, u, u, u, u, u, u, u, u, u, u, u, u, u, u, u, u, u, u] m).trans (by kernel_rfl))
theorem G50_0 : GoodB FN false 10 B50_0 := by
  intro r h l m
  unfold B50_0
  split
  · exact fun q hq => (E50_0 _ _ _ _ _ _ m).trans (L50_0 h _ _ _ _ _ _ m q hq)
  · exact fun q hq => by cases hq
theorem E50_1 (x1 x2 x6 : Value) (m : Mem) : FN false 11 [x1, x2, x6] m = T50_1 FN x1 x2 x6 m :=
  (show FN false 11 [x1, x2, x6] m = P50_1 x1 x2 x6 m by kernel_rfl).trans ((Pt_ev (S := S) (tab := tab) (rs := fn50.results) (at' fn50 [1, 1, 1]) [u, x1, x2, u, u, u, x6, u, u, u, u, u, u, u, u, u, u, u, u, u, u, u, u, u, u, u, u, u, u, u, u, u, u, u, u, u, u, u, u] m).trans (by kernel_rfl))
theorem G50_1 : GoodB FN false 11 B50_1 := by
  intro r h l m
  unfold B50_1
  split
  · exact fun q hq => (E50_1 _ _ _ m).trans (L50_1 h _ _ _ m q hq)
  · exact fun q hq => by cases hq
theorem E53 (x0 x1 x2 x3 x4 : Value) (m : Mem) : FN true 53 [x0, x1, x2, x3, x4] m = T53 FN x0 x1 x2 x3 x4 m :=
  (show FN true 53 [x0, x1, x2, x3, x4] m = Call S tab 53 [x0, x1, x2, x3, x4] m by kernel_rfl).trans ((Call_ev (fn := fn53) hf53 [x0, x1, x2, x3, x4] m (by kernel_rfl)).trans (by kernel_rfl))
theorem G53 : GoodB FN true 53 B53 := by
  intro r h l m
  unfold B53
  split
  · exact fun q hq => (E53 _ _ _ _ _ m).trans (L53 h _ _ _ _ _ m q hq)
  · exact fun q hq => by cases hq
theorem E53_0 (x0 x2 x3 x4 x11 x12 x24 x25 x26 : Value) (m : Mem) : FN false 12 [x0, x2, x3, x4, x11, x12, x24, x25, x26] m = T53_0 FN x0 x2 x3 x4 x11 x12 x24 x25 x26 m :=
  (show FN false 12 [x0, x2, x3, x4, x11, x12, x24, x25, x26] m = P53_0 x0 x2 x3 x4 x11 x12 x24 x25 x26 m by kernel_rfl).trans ((Pt_ev (S := S) (tab := tab) (rs := fn53.results) (at' fn53 [1, 1, 1, 0, 1, 0]) [x0, u, x2, x3, x4, u, u, u, u, u, u, x11, x12, u, u, u, u, u, u, u, u, u, u, u, x24, x25, x26, u, u, u, u, u, u, u, u, u, u, u, u, u, u, u, u, u, u, u, u, u, u, u, u, u, u, u, u, u, u, u, u, u, u, u, u, u, u, u, u, u, u, u, u, u, u, u, u, u, u, u, u, u, u, u, u, u, u, u, u, u, u, u, u, u, u, u, u, u, u, u, u, u, u, u, u, u, u, u, u, u] m).trans (by kernel_rfl))
theorem G53_0 : GoodB FN false 12 B53_0 := by
  intro r h l m
  unfold B53_0
  split
  · exact fun q hq => (E53_0 _ _ _ _ _ _ _ _ _ m).trans (L53_0 h _ _ _ _ _ _ _ _ _ m q hq)
  · exact fun q hq => by cases hq
theorem E53_1 (x0 x2 x3 x4 x11 x12 : Value) (m : Mem) : FN false 13 [x0, x2, x3, x4, x11, x12] m = T53_1 FN x0 x2 x3 x4 x11 x12 m :=
  (show FN false 13 [x0, x2, x3, x4, x11, x12] m = P53_1 x0 x2 x3 x4 x11 x12 m by kernel_rfl).trans ((Pt_ev (S := S) (tab := tab) (rs := fn53.results) (at' fn53 [1, 1, 1, 1]) [x0, u, x2, x3, x4, u, u, u, u, u, u, x11, x12, u, u, u, u, u, u, u, u, u, u, u, u, u, u, u, u, u, u, u, u, u, u, u, u, u, u, u, u, u, u, u, u, u, u, u, u, u, u, u, u, u, u, u, u, u, u, u, u, u, u, u, u, u, u, u, u, u, u, u, u, u, u, u, u, u, u, u, u, u, u, u, u, u, u, u, u, u, u, u, u, u, u, u, u, u, u, u, u, u, u, u, u, u, u, u] m).trans (by kernel_rfl))
theorem G53_1 : GoodB FN false 13 B53_1 := by
  intro r h l m
  unfold B53_1
  split
  · exact fun q hq => (E53_1 _ _ _ _ _ _ m).trans (L53_1 h _ _ _ _ _ _ m q hq)
  · exact fun q hq => by cases hq
theorem E53_2 (x0 x2 x3 x4 x11 x12 x50 x51 x52 : Value) (m : Mem) : FN false 14 [x0, x2, x3, x4, x11, x12, x50, x51, x52] m = T53_2 FN x0 x2 x3 x4 x11 x12 x50 x51 x52 m :=
  (show FN false 14 [x0, x2, x3, x4, x11, x12, x50, x51, x52] m = P53_2 x0 x2 x3 x4 x11 x12 x50 x51 x52 m by kernel_rfl).trans ((Pt_ev (S := S) (tab := tab) (rs := fn53.results) (at' fn53 [1, 1, 1, 1, 0, 1, 0]) [x0, u, x2, x3, x4, u, u, u, u, u, u, x11, x12, u, u, u, u, u, u, u, u, u, u, u, u, u, u, u, u, u, u, u, u, u, u, u, u, u, u, u, u, u, u, u, u, u, u, u, u, u, x50, x51, x52, u, u, u, u, u, u, u, u, u, u, u, u, u, u, u, u, u, u, u, u, u, u, u, u, u, u, u, u, u, u, u, u, u, u, u, u, u, u, u, u, u, u, u, u, u, u, u, u, u, u, u, u, u, u, u] m).trans (by kernel_rfl))
theorem G53_2 : GoodB FN false 14 B53_2 := by
  intro r h l m
  unfold B53_2
  split
  · exact fun q hq => (E53_2 _ _ _ _ _ _ _ _ _ m).trans (L53_2 h _ _ _ _ _ _ _ _ _ m q hq)
  · exact fun q hq => by cases hq
theorem E55 (x0 x1 x2 : Value) (m : Mem) : FN true 55 [x0, x1, x2] m = T55 FN x0 x1 x2 m :=
  (show FN true 55 [x0, x1, x2] m = Call S tab 55 [x0, x1, x2] m by kernel_rfl).trans ((Call_ev (fn := fn55) hf55 [x0, x1, x2] m (by kernel_rfl)).trans (by kernel_rfl))
theorem G55 : GoodB FN true 55 B55 := by
  intro r h l m
  unfold B55
  split
  · exact fun q hq => (E55 _ _ _ m).trans (L55 h _ _ _ m q hq)
  · exact fun q hq => by cases hq
theorem E62 (x0 x1 : Value) (m : Mem) : FN true 62 [x0, x1] m = T62 FN x0 x1 m :=
  (show FN true 62 [x0, x1] m = Call S tab 62 [x0, x1] m by kernel_rfl).trans ((Call_ev (fn := fn62) hf62 [x0, x1] m (by kernel_rfl)).trans (by kernel_rfl))
theorem G62 : GoodB FN true 62 B62 := by
  intro r h l m
  unfold B62
  split
  · exact fun q hq => (E62 _ _ m).trans (L62 h _ _ m q hq)
  · exact fun q hq => by cases hq
theorem E63 (x0 : Value) (m : Mem) : FN true 63 [x0] m = T63 FN x0 m :=
  (show FN true 63 [x0] m = Call S tab 63 [x0] m by kernel_rfl).trans ((Call_ev (fn := fn63) hf63 [x0] m (by kernel_rfl)).trans (by kernel_rfl))
theorem G63 : GoodB FN true 63 B63 := by
  intro r h l m
  unfold B63
  split
  · exact fun q hq => (E63 _ m).trans (L63 h _ m q hq)
  · exact fun q hq => by cases hq
theorem E64 (x0 : Value) (m : Mem) : FN true 64 [x0] m = T64 FN x0 m :=
  (show FN true 64 [x0] m = Call S tab 64 [x0] m by kernel_rfl).trans ((Call_ev (fn := fn64) hf64 [x0] m (by kernel_rfl)).trans (by kernel_rfl))
theorem G64 : GoodB FN true 64 B64 := by
  intro r h l m
  unfold B64
  split
  · exact fun q hq => (E64 _ m).trans (L64 h _ m q hq)
  · exact fun q hq => by cases hq
theorem E65 (x0 : Value) (m : Mem) : FN true 65 [x0] m = T65 FN x0 m :=
  (show FN true 65 [x0] m = Call S tab 65 [x0] m by kernel_rfl).trans ((Call_ev (fn := fn65) hf65 [x0] m (by kernel_rfl)).trans (by kernel_rfl))
theorem G65 : GoodB FN true 65 B65 := by
  intro r h l m
  unfold B65
  split
  · exact fun q hq => (E65 _ m).trans (L65 h _ m q hq)
  · exact fun q hq => by cases hq
theorem E65_0 (x3 x11 x12 x13 : Value) (m : Mem) : FN false 15 [x3, x11, x12, x13] m = T65_0 FN x3 x11 x12 x13 m :=
  (show FN false 15 [x3, x11, x12, x13] m = P65_0 x3 x11 x12 x13 m by kernel_rfl).trans ((Pt_ev (S := S) (tab := tab) (rs := fn65.results) (at' fn65 [1, 1, 0, 1, 0, 0, 1, 0]) [u, u, u, x3, u, u, u, u, u, u, u, x11, x12, x13, u, u, u, u, u, u, u, u, u, u, u, u, u, u, u, u, u, u, u, u, u, u, u, u, u] m).trans (by kernel_rfl))
theorem G65_0 : GoodB FN false 15 B65_0 := by
  intro r h l m
  unfold B65_0
  split
  · exact fun q hq => (E65_0 _ _ _ _ m).trans (L65_0 h _ _ _ _ m q hq)
  · exact fun q hq => by cases hq
theorem E65_1 (x3 x26 x27 x28 : Value) (m : Mem) : FN false 16 [x3, x26, x27, x28] m = T65_1 FN x3 x26 x27 x28 m :=
  (show FN false 16 [x3, x26, x27, x28] m = P65_1 x3 x26 x27 x28 m by kernel_rfl).trans ((Pt_ev (S := S) (tab := tab) (rs := fn65.results) (at' fn65 [1, 1, 1, 1, 0, 1, 0]) [u, u, u, x3, u, u, u, u, u, u, u, u, u, u, u, u, u, u, u, u, u, u, u, u, u, u, x26, x27, x28, u, u, u, u, u, u, u, u, u, u] m).trans (by kernel_rfl))
theorem G65_1 : GoodB FN false 16 B65_1 := by
  intro r h l m
  unfold B65_1
  split
  · exact fun q hq => (E65_1 _ _ _ _ m).trans (L65_1 h _ _ _ _ m q hq)
  · exact fun q hq => by cases hq
theorem E66 (x0 x1 : Value) (m : Mem) : FN true 66 [x0, x1] m = T66 FN x0 x1 m :=
  (show FN true 66 [x0, x1] m = Call S tab 66 [x0, x1] m by kernel_rfl).trans ((Call_ev (fn := fn66) hf66 [x0, x1] m (by kernel_rfl)).trans (by kernel_rfl))
theorem G66 : GoodB FN true 66 B66 := by
  intro r h l m
  unfold B66
  split
  · exact fun q hq => (E66 _ _ m).trans (L66 h _ _ m q hq)
  · exact fun q hq => by cases hq
theorem E67 (x0 x1 x2 : Value) (m : Mem) : FN true 67 [x0, x1, x2] m = T67 FN x0 x1 x2 m :=
  (show FN true 67 [x0, x1, x2] m = Call S tab 67 [x0, x1, x2] m by kernel_rfl).trans ((Call_ev (fn := fn67) hf67 [x0, x1, x2] m (by kernel_rfl)).trans (by kernel_rfl))
theorem G67 : GoodB FN true 67 B67 := by
  intro r h l m
  unfold B67
  split
  · exact fun q hq => (E67 _ _ _ m).trans (L67 h _ _ _ m q hq)
  · exact fun q hq => by cases hq
theorem E67_0 (x0 x1 x7 : Value) (m : Mem) : FN false 17 [x0, x1, x7] m = T67_0 FN x0 x1 x7 m :=
  (show FN false 17 [x0, x1, x7] m = P67_0 x0 x1 x7 m by kernel_rfl).trans ((Pt_ev (S := S) (tab := tab) (rs := fn67.results) (at' fn67 [1, 0, 1, 0]) [x0, x1, u, u, u, u, u, x7, u, u, u, u, u, u, u, u, u, u, u, u, u, u, u, u] m).trans (by kernel_rfl))
theorem G67_0 : GoodB FN false 17 B67_0 := by
  intro r h l m
  unfold B67_0
  split
  · exact fun q hq => (E67_0 _ _ _ m).trans (L67_0 h _ _ _ m q hq)
  · exact fun q hq => by cases hq
theorem E69 (x0 x1 : Value) (m : Mem) : FN true 69 [x0, x1] m = T69 FN x0 x1 m :=
  (show FN true 69 [x0, x1] m = Call S tab 69 [x0, x1] m by kernel_rfl).trans ((Call_ev (fn := fn69) hf69 [x0, x1] m (by kernel_rfl)).trans (by kernel_rfl))
theorem G69 : GoodB FN true 69 B69 := by
  intro r h l m
  unfold B69
  split
  · exact fun q hq => (E69 _ _ m).trans (L69 h _ _ m q hq)
  · exact fun q hq => by cases hq
theorem E71 (x0 x1 x2 x3 : Value) (m : Mem) : FN true 71 [x0, x1, x2, x3] m = T71 FN x0 x1 x2 x3 m :=
  (show FN true 71 [x0, x1, x2, x3] m = Call S tab 71 [x0, x1, x2, x3] m by kernel_rfl).trans ((Call_ev (fn := fn71) hf71 [x0, x1, x2, x3] m (by kernel_rfl)).trans (by kernel_rfl))
theorem G71 : GoodB FN true 71 B71 := by
  intro r h l m
  unfold B71
  split
  · exact fun q hq => (E71 _ _ _ _ m).trans (L71 h _ _ _ _ m q hq)
  · exact fun q hq => by cases hq
theorem E73 (x0 : Value) (m : Mem) : FN true 73 [x0] m = T73 FN x0 m :=
  (show FN true 73 [x0] m = Call S tab 73 [x0] m by kernel_rfl).trans ((Call_ev (fn := fn73) hf73 [x0] m (by kernel_rfl)).trans (by kernel_rfl))
theorem G73 : GoodB FN true 73 B73 := by
  intro r h l m
  unfold B73
  split
  · exact fun q hq => (E73 _ m).trans (L73 h _ m q hq)
  · exact fun q hq => by cases hq
theorem E74 (x0 x1 x2 : Value) (m : Mem) : FN true 74 [x0, x1, x2] m = T74 FN x0 x1 x2 m :=
  (show FN true 74 [x0, x1, x2] m = Call S tab 74 [x0, x1, x2] m by kernel_rfl).trans ((Call_ev (fn := fn74) hf74 [x0, x1, x2] m (by kernel_rfl)).trans (by kernel_rfl))
theorem G74 : GoodB FN true 74 B74 := by
  intro r h l m
  unfold B74
  split
  · exact fun q hq => (E74 _ _ _ m).trans (L74 h _ _ _ m q hq)
  · exact fun q hq => by cases hq
theorem E75 (x0 x1 x2 : Value) (m : Mem) : FN true 75 [x0, x1, x2] m = T75 FN x0 x1 x2 m :=
  (show FN true 75 [x0, x1, x2] m = Call S tab 75 [x0, x1, x2] m by kernel_rfl).trans ((Call_ev (fn := fn75) hf75 [x0, x1, x2] m (by kernel_rfl)).trans (by kernel_rfl))
theorem G75 : GoodB FN true 75 B75 := by
  intro r h l m
  unfold B75
  split
  · exact fun q hq => (E75 _ _ _ m).trans (L75 h _ _ _ m q hq)
  · exact fun q hq => by cases hq
theorem E76 (x0 : Value) (m : Mem) : FN true 76 [x0] m = T76 FN x0 m :=
  (show FN true 76 [x0] m = Call S tab 76 [x0] m by kernel_rfl).trans ((Call_ev (fn := fn76) hf76 [x0] m (by kernel_rfl)).trans (by kernel_rfl))
theorem G76 : GoodB FN true 76 B76 := by
  intro r h l m
  unfold B76
  split
  · exact fun q hq => (E76 _ m).trans (L76 h _ m q hq)
  · exact fun q hq => by cases hq
theorem E77 (x0 x1 : Value) (m : Mem) : FN true 77 [x0, x1] m = T77 FN x0 x1 m :=
  (show FN true 77 [x0, x1] m = Call S tab 77 [x0, x1] m by kernel_rfl).trans ((Call_ev (fn := fn77) hf77 [x0, x1] m (by kernel_rfl)).trans (by kernel_rfl))
theorem G77 : GoodB FN true 77 B77 := by
  intro r h l m
  unfold B77
  split
  · exact fun q hq => (E77 _ _ m).trans (L77 h _ _ m q hq)
  · exact fun q hq => by cases hq
theorem E78 (x0 x1 x2 x3 : Value) (m : Mem) : FN true 78 [x0, x1, x2, x3] m = T78 FN x0 x1 x2 x3 m :=
  (show FN true 78 [x0, x1, x2, x3] m = Call S tab 78 [x0, x1, x2, x3] m by kernel_rfl).trans ((Call_ev (fn := fn78) hf78 [x0, x1, x2, x3] m (by kernel_rfl)).trans (by kernel_rfl))
theorem G78 : GoodB FN true 78 B78 := by
  intro r h l m
  unfold B78
  split
  · exact fun q hq => (E78 _ _ _ _ m).trans (L78 h _ _ _ _ m q hq)
  · exact fun q hq => by cases hq
theorem E78_0 (x0 x1 x12 x13 : Value) (m : Mem) : FN false 18 [x0, x1, x12, x13] m = T78_0 FN x0 x1 x12 x13 m :=
  (show FN false 18 [x0, x1, x12, x13] m = P78_0 x0 x1 x12 x13 m by kernel_rfl).trans ((Pt_ev (S := S) (tab := tab) (rs := fn78.results) (at' fn78 [1, 1, 1, 1, 1, 1, 1]) [x0, x1, u, u, u, u, u, u, u, u, u, u, x12, x13, u, u, u, u, u, u, u, u, u, u, u, u, u, u, u, u, u, u, u, u, u, u, u, u, u, u, u, u, u, u, u, u, u, u, u, u, u, u, u, u, u, u, u, u, u, u] m).trans (by kernel_rfl))
theorem G78_0 : GoodB FN false 18 B78_0 := by
  intro r h l m
  unfold B78_0
  split
  · exact fun q hq => (E78_0 _ _ _ _ m).trans (L78_0 h _ _ _ _ m q hq)
  · exact fun q hq => by cases hq
theorem E79 (x0 : Value) (m : Mem) : FN true 79 [x0] m = T79 FN x0 m :=
  (show FN true 79 [x0] m = Call S tab 79 [x0] m by kernel_rfl).trans ((Call_ev (fn := fn79) hf79 [x0] m (by kernel_rfl)).trans (by kernel_rfl))
theorem G79 : GoodB FN true 79 B79 := by
  intro r h l m
  unfold B79
  split
  · exact fun q hq => (E79 _ m).trans (L79 h _ m q hq)
  · exact fun q hq => by cases hq
theorem E80 (x0 : Value) (m : Mem) : FN true 80 [x0] m = T80 FN x0 m :=
  (show FN true 80 [x0] m = Call S tab 80 [x0] m by kernel_rfl).trans ((Call_ev (fn := fn80) hf80 [x0] m (by kernel_rfl)).trans (by kernel_rfl))
theorem G80 : GoodB FN true 80 B80 := by
  intro r h l m
  unfold B80
  split
  · exact fun q hq => (E80 _ m).trans (L80 h _ m q hq)
  · exact fun q hq => by cases hq
theorem E81 (x0 x1 x2 x3 : Value) (m : Mem) : FN true 81 [x0, x1, x2, x3] m = T81 FN x0 x1 x2 x3 m :=
  (show FN true 81 [x0, x1, x2, x3] m = Call S tab 81 [x0, x1, x2, x3] m by kernel_rfl).trans ((Call_ev (fn := fn81) hf81 [x0, x1, x2, x3] m (by kernel_rfl)).trans (by kernel_rfl))
theorem G81 : GoodB FN true 81 B81 := by
  intro r h l m
  unfold B81
  split
  · exact fun q hq => (E81 _ _ _ _ m).trans (L81 h _ _ _ _ m q hq)
  · exact fun q hq => by cases hq
theorem E82 (x0 x1 : Value) (m : Mem) : FN true 82 [x0, x1] m = T82 FN x0 x1 m :=
  (show FN true 82 [x0, x1] m = Call S tab 82 [x0, x1] m by kernel_rfl).trans ((Call_ev (fn := fn82) hf82 [x0, x1] m (by kernel_rfl)).trans (by kernel_rfl))
theorem G82 : GoodB FN true 82 B82 := by
  intro r h l m
  unfold B82
  split
  · exact fun q hq => (E82 _ _ m).trans (L82 h _ _ m q hq)
  · exact fun q hq => by cases hq
theorem E83 (x0 : Value) (m : Mem) : FN true 83 [x0] m = T83 FN x0 m :=
  (show FN true 83 [x0] m = Call S tab 83 [x0] m by kernel_rfl).trans ((Call_ev (fn := fn83) hf83 [x0] m (by kernel_rfl)).trans (by kernel_rfl))
theorem G83 : GoodB FN true 83 B83 := by
  intro r h l m
  unfold B83
  split
  · exact fun q hq => (E83 _ m).trans (L83 h _ m q hq)
  · exact fun q hq => by cases hq
theorem E84 (x0 : Value) (m : Mem) : FN true 84 [x0] m = T84 FN x0 m :=
  (show FN true 84 [x0] m = Call S tab 84 [x0] m by kernel_rfl).trans ((Call_ev (fn := fn84) hf84 [x0] m (by kernel_rfl)).trans (by kernel_rfl))
theorem G84 : GoodB FN true 84 B84 := by
  intro r h l m
  unfold B84
  split
  · exact fun q hq => (E84 _ m).trans (L84 h _ m q hq)
  · exact fun q hq => by cases hq
theorem E85 (x0 : Value) (m : Mem) : FN true 85 [x0] m = T85 FN x0 m :=
  (show FN true 85 [x0] m = Call S tab 85 [x0] m by kernel_rfl).trans ((Call_ev (fn := fn85) hf85 [x0] m (by kernel_rfl)).trans (by kernel_rfl))
theorem G85 : GoodB FN true 85 B85 := by
  intro r h l m
  unfold B85
  split
  · exact fun q hq => (E85 _ m).trans (L85 h _ m q hq)
  · exact fun q hq => by cases hq
theorem E85_0 (x0 x3 x10 x11 : Value) (m : Mem) : FN false 19 [x0, x3, x10, x11] m = T85_0 FN x0 x3 x10 x11 m :=
  (show FN false 19 [x0, x3, x10, x11] m = P85_0 x0 x3 x10 x11 m by kernel_rfl).trans ((Pt_ev (S := S) (tab := tab) (rs := fn85.results) (at' fn85 [1, 1, 0, 1, 0]) [x0, u, u, x3, u, u, u, u, u, u, x10, x11, u, u, u, u, u, u, u, u, u, u, u, u, u, u, u, u, u, u] m).trans (by kernel_rfl))
theorem G85_0 : GoodB FN false 19 B85_0 := by
  intro r h l m
  unfold B85_0
  split
  · exact fun q hq => (E85_0 _ _ _ _ m).trans (L85_0 h _ _ _ _ m q hq)
  · exact fun q hq => by cases hq
theorem E85_1 (x0 : Value) (m : Mem) : FN false 20 [x0] m = T85_1 FN x0 m :=
  (show FN false 20 [x0] m = P85_1 x0 m by kernel_rfl).trans ((Pt_ev (S := S) (tab := tab) (rs := fn85.results) (at' fn85 [1, 1, 1]) [x0, u, u, u, u, u, u, u, u, u, u, u, u, u, u, u, u, u, u, u, u, u, u, u, u, u, u, u, u, u] m).trans (by kernel_rfl))
theorem G85_1 : GoodB FN false 20 B85_1 := by
  intro r h l m
  unfold B85_1
  split
  · exact fun q hq => (E85_1 _ m).trans (L85_1 h _ m q hq)
  · exact fun q hq => by cases hq
theorem E87 (x0 : Value) (m : Mem) : FN true 87 [x0] m = T87 FN x0 m :=
  (show FN true 87 [x0] m = Call S tab 87 [x0] m by kernel_rfl).trans ((Call_ev (fn := fn87) hf87 [x0] m (by kernel_rfl)).trans (by kernel_rfl))
theorem G87 : GoodB FN true 87 B87 := by
  intro r h l m
  unfold B87
  split
  · exact fun q hq => (E87 _ m).trans (L87 h _ m q hq)
  · exact fun q hq => by cases hq
theorem E88 (x0 x1 : Value) (m : Mem) : FN true 88 [x0, x1] m = T88 FN x0 x1 m :=
  (show FN true 88 [x0, x1] m = Call S tab 88 [x0, x1] m by kernel_rfl).trans ((Call_ev (fn := fn88) hf88 [x0, x1] m (by kernel_rfl)).trans (by kernel_rfl))
theorem G88 : GoodB FN true 88 B88 := by
  intro r h l m
  unfold B88
  split
  · exact fun q hq => (E88 _ _ m).trans (L88 h _ _ m q hq)
  · exact fun q hq => by cases hq
theorem E88_0 (x0 x1 x5 x9 : Value) (m : Mem) : FN false 21 [x0, x1, x5, x9] m = T88_0 FN x0 x1 x5 x9 m :=
  (show FN false 21 [x0, x1, x5, x9] m = P88_0 x0 x1 x5 x9 m by kernel_rfl).trans ((Pt_ev (S := S) (tab := tab) (rs := fn88.results) (at' fn88 [1, 1, 0, 1, 0]) [x0, x1, u, u, u, x5, u, u, u, x9, u, u, u, u, u, u, u, u, u, u, u, u, u, u, u, u, u, u, u, u] m).trans (by kernel_rfl))
theorem G88_0 : GoodB FN false 21 B88_0 := by
  intro r h l m
  unfold B88_0
  split
  · exact fun q hq => (E88_0 _ _ _ _ m).trans (L88_0 h _ _ _ _ m q hq)
  · exact fun q hq => by cases hq
theorem E88_1 (x5 : Value) (m : Mem) : FN false 22 [x5] m = T88_1 FN x5 m :=
  (show FN false 22 [x5] m = P88_1 x5 m by kernel_rfl).trans ((Pt_ev (S := S) (tab := tab) (rs := fn88.results) (at' fn88 [1, 1, 1]) [u, u, u, u, u, x5, u, u, u, u, u, u, u, u, u, u, u, u, u, u, u, u, u, u, u, u, u, u, u, u] m).trans (by kernel_rfl))
theorem G88_1 : GoodB FN false 22 B88_1 := by
  intro r h l m
  unfold B88_1
  split
  · exact fun q hq => (E88_1 _ m).trans (L88_1 h _ m q hq)
  · exact fun q hq => by cases hq
theorem E89 (x0 x1 : Value) (m : Mem) : FN true 89 [x0, x1] m = T89 FN x0 x1 m :=
  (show FN true 89 [x0, x1] m = Call S tab 89 [x0, x1] m by kernel_rfl).trans ((Call_ev (fn := fn89) hf89 [x0, x1] m (by kernel_rfl)).trans (by kernel_rfl))
theorem G89 : GoodB FN true 89 B89 := by
  intro r h l m
  unfold B89
  split
  · exact fun q hq => (E89 _ _ m).trans (L89 h _ _ m q hq)
  · exact fun q hq => by cases hq
theorem E90 (x0 x1 : Value) (m : Mem) : FN true 90 [x0, x1] m = T90 FN x0 x1 m :=
  (show FN true 90 [x0, x1] m = Call S tab 90 [x0, x1] m by kernel_rfl).trans ((Call_ev (fn := fn90) hf90 [x0, x1] m (by kernel_rfl)).trans (by kernel_rfl))
theorem G90 : GoodB FN true 90 B90 := by
  intro r h l m
  unfold B90
  split
  · exact fun q hq => (E90 _ _ m).trans (L90 h _ _ m q hq)
  · exact fun q hq => by cases hq
theorem E91 (x0 : Value) (m : Mem) : FN true 91 [x0] m = T91 FN x0 m :=
  (show FN true 91 [x0] m = Call S tab 91 [x0] m by kernel_rfl).trans ((Call_ev (fn := fn91) hf91 [x0] m (by kernel_rfl)).trans (by kernel_rfl))
theorem G91 : GoodB FN true 91 B91 := by
  intro r h l m
  unfold B91
  split
  · exact fun q hq => (E91 _ m).trans (L91 h _ m q hq)
  · exact fun q hq => by cases hq
theorem E92 (x0 x1 : Value) (m : Mem) : FN true 92 [x0, x1] m = T92 FN x0 x1 m :=
  (show FN true 92 [x0, x1] m = Call S tab 92 [x0, x1] m by kernel_rfl).trans ((Call_ev (fn := fn92) hf92 [x0, x1] m (by kernel_rfl)).trans (by kernel_rfl))
theorem G92 : GoodB FN true 92 B92 := by
  intro r h l m
  unfold B92
  split
  · exact fun q hq => (E92 _ _ m).trans (L92 h _ _ m q hq)
  · exact fun q hq => by cases hq
theorem E94 (x0 x1 : Value) (m : Mem) : FN true 94 [x0, x1] m = T94 FN x0 x1 m :=
  (show FN true 94 [x0, x1] m = Call S tab 94 [x0, x1] m by kernel_rfl).trans ((Call_ev (fn := fn94) hf94 [x0, x1] m (by kernel_rfl)).trans (by kernel_rfl))
theorem G94 : GoodB FN true 94 B94 := by
  intro r h l m
  unfold B94
  split
  · exact fun q hq => (E94 _ _ m).trans (L94 h _ _ m q hq)
  · exact fun q hq => by cases hq
theorem E95 (x0 : Value) (m : Mem) : FN true 95 [x0] m = T95 FN x0 m :=
  (show FN true 95 [x0] m = Call S tab 95 [x0] m by kernel_rfl).trans ((Call_ev (fn := fn95) hf95 [x0] m (by kernel_rfl)).trans (by kernel_rfl))
theorem G95 : GoodB FN true 95 B95 := by
  intro r h l m
  unfold B95
  split
  · exact fun q hq => (E95 _ m).trans (L95 h _ m q hq)
  · exact fun q hq => by cases hq
theorem E96 (x0 : Value) (m : Mem) : FN true 96 [x0] m = T96 FN x0 m :=
  (show FN true 96 [x0] m = Call S tab 96 [x0] m by kernel_rfl).trans ((Call_ev (fn := fn96) hf96 [x0] m (by kernel_rfl)).trans (by kernel_rfl))
theorem G96 : GoodB FN true 96 B96 := by
  intro r h l m
  unfold B96
  split
  · exact fun q hq => (E96 _ m).trans (L96 h _ m q hq)
  · exact fun q hq => by cases hq
theorem E97 (x0 x1 : Value) (m : Mem) : FN true 97 [x0, x1] m = T97 FN x0 x1 m :=
  (show FN true 97 [x0, x1] m = Call S tab 97 [x0, x1] m by kernel_rfl).trans ((Call_ev (fn := fn97) hf97 [x0, x1] m (by kernel_rfl)).trans (by kernel_rfl))
theorem G97 : GoodB FN true 97 B97 := by
  intro r h l m
  unfold B97
  split
  · exact fun q hq => (E97 _ _ m).trans (L97 h _ _ m q hq)
  · exact fun q hq => by cases hq
theorem E98 (x0 x1 : Value) (m : Mem) : FN true 98 [x0, x1] m = T98 FN x0 x1 m :=
  (show FN true 98 [x0, x1] m = Call S tab 98 [x0, x1] m by kernel_rfl).trans ((Call_ev (fn := fn98) hf98 [x0, x1] m (by kernel_rfl)).trans (by kernel_rfl))
theorem G98 : GoodB FN true 98 B98 := by
  intro r h l m
  unfold B98
  split
  · exact fun q hq => (E98 _ _ m).trans (L98 h _ _ m q hq)
  · exact fun q hq => by cases hq
theorem E99 (x0 : Value) (m : Mem) : FN true 99 [x0] m = T99 FN x0 m :=
  (show FN true 99 [x0] m = Call S tab 99 [x0] m by kernel_rfl).trans ((Call_ev (fn := fn99) hf99 [x0] m (by kernel_rfl)).trans (by kernel_rfl))
theorem G99 : GoodB FN true 99 B99 := by
  intro r h l m
  unfold B99
  split
  · exact fun q hq => (E99 _ m).trans (L99 h _ m q hq)
  · exact fun q hq => by cases hq
theorem E99_0 (x0 x2 x4 x5 x6 x7 : Value) (m : Mem) : FN false 23 [x0, x2, x4, x5, x6, x7] m = T99_0 FN x0 x2 x4 x5 x6 x7 m :=
  (show FN false 23 [x0, x2, x4, x5, x6, x7] m = P99_0 x0 x2 x4 x5 x6 x7 m by kernel_rfl).trans ((Pt_ev (S := S) (tab := tab) (rs := fn99.results) (at' fn99 [1, 1, 1, 1, 1]) [x0, u, x2, u, x4, x5, x6, x7, u, u, u, u, u, u, u, u, u, u, u, u, u, u, u, u, u, u, u, u, u, u, u, u, u, u, u, u, u, u, u, u, u, u, u, u, u, u, u, u, u, u, u, u, u, u, u, u, u, u, u, u, u, u, u, u, u, u, u, u, u, u, u, u, u, u, u, u, u, u, u, u, u, u, u, u, u, u, u, u, u, u, u, u] m).trans (by kernel_rfl))
theorem G99_0 : GoodB FN false 23 B99_0 := by
  intro r h l m
  unfold B99_0
  split
  · exact fun q hq => (E99_0 _ _ _ _ _ _ m).trans (L99_0 h _ _ _ _ _ _ m q hq)
  · exact fun q hq => by cases hq
theorem E99_1 (x0 x2 x4 x5 x7 x29 x30 : Value) (m : Mem) : FN false 24 [x0, x2, x4, x5, x7, x29, x30] m = T99_1 FN x0 x2 x4 x5 x7 x29 x30 m :=
  (show FN false 24 [x0, x2, x4, x5, x7, x29, x30] m = P99_1 x0 x2 x4 x5 x7 x29 x30 m by kernel_rfl).trans ((Pt_ev (S := S) (tab := tab) (rs := fn99.results) (at' fn99 [1, 1, 1, 1, 1, 0, 1, 0]) [x0, u, x2, u, x4, x5, u, x7, u, u, u, u, u, u, u, u, u, u, u, u, u, u, u, u, u, u, u, u, u, x29, x30, u, u, u, u, u, u, u, u, u, u, u, u, u, u, u, u, u, u, u, u, u, u, u, u, u, u, u, u, u, u, u, u, u, u, u, u, u, u, u, u, u, u, u, u, u, u, u, u, u, u, u, u, u, u, u, u, u, u, u, u, u] m).trans (by kernel_rfl))
theorem G99_1 : GoodB FN false 24 B99_1 := by
  intro r h l m
  unfold B99_1
  split
  · exact fun q hq => (E99_1 _ _ _ _ _ _ _ m).trans (L99_1 h _ _ _ _ _ _ _ m q hq)
  · exact fun q hq => by cases hq
theorem E99_2 (x0 x2 x4 x5 x7 : Value) (m : Mem) : FN false 25 [x0, x2, x4, x5, x7] m = T99_2 FN x0 x2 x4 x5 x7 m :=
  (show FN false 25 [x0, x2, x4, x5, x7] m = P99_2 x0 x2 x4 x5 x7 m by kernel_rfl).trans ((Pt_ev (S := S) (tab := tab) (rs := fn99.results) (at' fn99 [1, 1, 1, 1, 1, 1]) [x0, u, x2, u, x4, x5, u, x7, u, u, u, u, u, u, u, u, u, u, u, u, u, u, u, u, u, u, u, u, u, u, u, u, u, u, u, u, u, u, u, u, u, u, u, u, u, u, u, u, u, u, u, u, u, u, u, u, u, u, u, u, u, u, u, u, u, u, u, u, u, u, u, u, u, u, u, u, u, u, u, u, u, u, u, u, u, u, u, u, u, u, u, u] m).trans (by kernel_rfl))
theorem G99_2 : GoodB FN false 25 B99_2 := by
  intro r h l m
  unfold B99_2
  split
  · exact fun q hq => (E99_2 _ _ _ _ _ m).trans (L99_2 h _ _ _ _ _ m q hq)
  · exact fun q hq => by cases hq
theorem E100 (x0 : Value) (m : Mem) : FN true 100 [x0] m = T100 FN x0 m :=
  (show FN true 100 [x0] m = Call S tab 100 [x0] m by kernel_rfl).trans ((Call_ev (fn := fn100) hf100 [x0] m (by kernel_rfl)).trans (by kernel_rfl))
theorem G100 : GoodB FN true 100 B100 := by
  intro r h l m
  unfold B100
  split
  · exact fun q hq => (E100 _ m).trans (L100 h _ m q hq)
  · exact fun q hq => by cases hq
theorem E104 (x0 x1 : Value) (m : Mem) : FN true 104 [x0, x1] m = T104 FN x0 x1 m :=
  (show FN true 104 [x0, x1] m = Call S tab 104 [x0, x1] m by kernel_rfl).trans ((Call_ev (fn := fn104) hf104 [x0, x1] m (by kernel_rfl)).trans (by kernel_rfl))
theorem G104 : GoodB FN true 104 B104 := by
  intro r h l m
  unfold B104
  split
  · exact fun q hq => (E104 _ _ m).trans (L104 h _ _ m q hq)
  · exact fun q hq => by cases hq
theorem E107 (x0 : Value) (m : Mem) : FN true 107 [x0] m = T107 FN x0 m :=
  (show FN true 107 [x0] m = Call S tab 107 [x0] m by kernel_rfl).trans ((Call_ev (fn := fn107) hf107 [x0] m (by kernel_rfl)).trans (by kernel_rfl))
theorem G107 : GoodB FN true 107 B107 := by
  intro r h l m
  unfold B107
  split
  · exact fun q hq => (E107 _ m).trans (L107 h _ m q hq)
  · exact fun q hq => by cases hq
theorem E108 (x0 : Value) (m : Mem) : FN true 108 [x0] m = T108 FN x0 m :=
  (show FN true 108 [x0] m = Call S tab 108 [x0] m by kernel_rfl).trans ((Call_ev (fn := fn108) hf108 [x0] m (by kernel_rfl)).trans (by kernel_rfl))
theorem G108 : GoodB FN true 108 B108 := by
  intro r h l m
  unfold B108
  split
  · exact fun q hq => (E108 _ m).trans (L108 h _ m q hq)
  · exact fun q hq => by cases hq
theorem E108_0 (x0 x5 x6 x7 : Value) (m : Mem) : FN false 26 [x0, x5, x6, x7] m = T108_0 FN x0 x5 x6 x7 m :=
  (show FN false 26 [x0, x5, x6, x7] m = P108_0 x0 x5 x6 x7 m by kernel_rfl).trans ((Pt_ev (S := S) (tab := tab) (rs := fn108.results) (at' fn108 [1, 0, 1, 0]) [x0, u, u, u, u, x5, x6, x7, u, u, u, u, u, u, u, u, u, u, u, u, u, u, u, u, u, u, u, u, u, u, u, u, u] m).trans (by kernel_rfl))
theorem G108_0 : GoodB FN false 26 B108_0 := by
  intro r h l m
  unfold B108_0
  split
  · exact fun q hq => (E108_0 _ _ _ _ m).trans (L108_0 h _ _ _ _ m q hq)
  · exact fun q hq => by cases hq
theorem E109 (x0 : Value) (m : Mem) : FN true 109 [x0] m = T109 FN x0 m :=
  (show FN true 109 [x0] m = Call S tab 109 [x0] m by kernel_rfl).trans ((Call_ev (fn := fn109) hf109 [x0] m (by kernel_rfl)).trans (by kernel_rfl))
theorem G109 : GoodB FN true 109 B109 := by
  intro r h l m
  unfold B109
  split
  · exact fun q hq => (E109 _ m).trans (L109 h _ m q hq)
  · exact fun q hq => by cases hq
theorem E109_0 (x3 x7 x8 x9 : Value) (m : Mem) : FN false 27 [x3, x7, x8, x9] m = T109_0 FN x3 x7 x8 x9 m :=
  (show FN false 27 [x3, x7, x8, x9] m = P109_0 x3 x7 x8 x9 m by kernel_rfl).trans ((Pt_ev (S := S) (tab := tab) (rs := fn109.results) (at' fn109 [1, 1, 0, 1, 0]) [u, u, u, x3, u, u, u, x7, x8, x9, u, u, u, u, u, u, u, u, u, u] m).trans (by kernel_rfl))
theorem G109_0 : GoodB FN false 27 B109_0 := by
  intro r h l m
  unfold B109_0
  split
  · exact fun q hq => (E109_0 _ _ _ _ m).trans (L109_0 h _ _ _ _ m q hq)
  · exact fun q hq => by cases hq
theorem E110 (x0 x1 : Value) (m : Mem) : FN true 110 [x0, x1] m = T110 FN x0 x1 m :=
  (show FN true 110 [x0, x1] m = Call S tab 110 [x0, x1] m by kernel_rfl).trans ((Call_ev (fn := fn110) hf110 [x0, x1] m (by kernel_rfl)).trans (by kernel_rfl))
theorem G110 : GoodB FN true 110 B110 := by
  intro r h l m
  unfold B110
  split
  · exact fun q hq => (E110 _ _ m).trans (L110 h _ _ m q hq)
  · exact fun q hq => by cases hq
theorem E113 (x0 : Value) (m : Mem) : FN true 113 [x0] m = T113 FN x0 m :=
  (show FN true 113 [x0] m = Call S tab 113 [x0] m by kernel_rfl).trans ((Call_ev (fn := fn113) hf113 [x0] m (by kernel_rfl)).trans (by kernel_rfl))
theorem G113 : GoodB FN true 113 B113 := by
  intro r h l m
  unfold B113
  split
  · exact fun q hq => (E113 _ m).trans (L113 h _ m q hq)
  · exact fun q hq => by cases hq
theorem E114 (x0 : Value) (m : Mem) : FN true 114 [x0] m = T114 FN x0 m :=
  (show FN true 114 [x0] m = Call S tab 114 [x0] m by kernel_rfl).trans ((Call_ev (fn := fn114) hf114 [x0] m (by kernel_rfl)).trans (by kernel_rfl))
theorem G114 : GoodB FN true 114 B114 := by
  intro r h l m
  unfold B114
  split
  · exact fun q hq => (E114 _ m).trans (L114 h _ m q hq)
  · exact fun q hq => by cases hq
theorem E117 (x0 x1 : Value) (m : Mem) : FN true 117 [x0, x1] m = T117 FN x0 x1 m :=
  (show FN true 117 [x0, x1] m = Call S tab 117 [x0, x1] m by kernel_rfl).trans ((Call_ev (fn := fn117) hf117 [x0, x1] m (by kernel_rfl)).trans (by kernel_rfl))
theorem G117 : GoodB FN true 117 B117 := by
  intro r h l m
  unfold B117
  split
  · exact fun q hq => (E117 _ _ m).trans (L117 h _ _ m q hq)
  · exact fun q hq => by cases hq
theorem E117_0 (x0 x1 : Value) (m : Mem) : FN false 28 [x0, x1] m = T117_0 FN x0 x1 m :=
  (show FN false 28 [x0, x1] m = P117_0 x0 x1 m by kernel_rfl).trans ((Pt_ev (S := S) (tab := tab) (rs := fn117.results) (at' fn117 [1, 1]) [x0, x1, u, u, u, u, u, u, u, u, u, u, u, u, u, u, u, u, u, u, u, u, u, u, u] m).trans (by kernel_rfl))
theorem G117_0 : GoodB FN false 28 B117_0 := by
  intro r h l m
  unfold B117_0
  split
  · exact fun q hq => (E117_0 _ _ m).trans (L117_0 h _ _ m q hq)
  · exact fun q hq => by cases hq
theorem E118 (x0 x1 : Value) (m : Mem) : FN true 118 [x0, x1] m = T118 FN x0 x1 m :=
  (show FN true 118 [x0, x1] m = Call S tab 118 [x0, x1] m by kernel_rfl).trans ((Call_ev (fn := fn118) hf118 [x0, x1] m (by kernel_rfl)).trans (by kernel_rfl))
theorem G118 : GoodB FN true 118 B118 := by
  intro r h l m
  unfold B118
  split
  · exact fun q hq => (E118 _ _ m).trans (L118 h _ _ m q hq)
  · exact fun q hq => by cases hq
theorem E120 (x0 : Value) (m : Mem) : FN true 120 [x0] m = T120 FN x0 m :=
  (show FN true 120 [x0] m = Call S tab 120 [x0] m by kernel_rfl).trans ((Call_ev (fn := fn120) hf120 [x0] m (by kernel_rfl)).trans (by kernel_rfl))
theorem G120 : GoodB FN true 120 B120 := by
  intro r h l m
  unfold B120
  split
  · exact fun q hq => (E120 _ m).trans (L120 h _ m q hq)
  · exact fun q hq => by cases hq
theorem E124 (x0 x1 x2 : Value) (m : Mem) (hs : S 124 [x0, x1, x2] m = none) : FN true 124 [x0, x1, x2] m = T124 FN x0 x1 x2 m :=
  (show FN true 124 [x0, x1, x2] m = Call S tab 124 [x0, x1, x2] m by kernel_rfl).trans ((Call_ev (fn := fn124) hf124 [x0, x1, x2] m hs).trans (by kernel_rfl))
theorem G124 : GoodB FN true 124 B124 := by
  intro r h l m
  unfold B124
  cases e : aInsert l m with
  | some p => exact fun q hq => Call_S (tab := tab) ((show S 124 l m = aInsert l m by kernel_rfl).trans (e.trans hq))
  | none =>
    dsimp only
    split
    · exact fun q hq => (E124 _ _ _ m ((show S 124 _ m = aInsert _ m by kernel_rfl).trans e)).trans (L124 h _ _ _ m q hq)
    · exact fun q hq => by cases hq
theorem E125 (x0 x1 : Value) (m : Mem) : FN true 125 [x0, x1] m = T125 FN x0 x1 m :=
  (show FN true 125 [x0, x1] m = Call S tab 125 [x0, x1] m by kernel_rfl).trans ((Call_ev (fn := fn125) hf125 [x0, x1] m (by kernel_rfl)).trans (by kernel_rfl))
theorem G125 : GoodB FN true 125 B125 := by
  intro r h l m
  unfold B125
  split
  · exact fun q hq => (E125 _ _ m).trans (L125 h _ _ m q hq)
  · exact fun q hq => by cases hq
theorem E126 (x0 : Value) (m : Mem) : FN true 126 [x0] m = T126 FN x0 m :=
  (show FN true 126 [x0] m = Call S tab 126 [x0] m by kernel_rfl).trans ((Call_ev (fn := fn126) hf126 [x0] m (by kernel_rfl)).trans (by kernel_rfl))
theorem G126 : GoodB FN true 126 B126 := by
  intro r h l m
  unfold B126
  split
  · exact fun q hq => (E126 _ m).trans (L126 h _ m q hq)
  · exact fun q hq => by cases hq
theorem E127 (x0 : Value) (m : Mem) : FN true 127 [x0] m = T127 FN x0 m :=
  (show FN true 127 [x0] m = Call S tab 127 [x0] m by kernel_rfl).trans ((Call_ev (fn := fn127) hf127 [x0] m (by kernel_rfl)).trans (by kernel_rfl))
theorem G127 : GoodB FN true 127 B127 := by
  intro r h l m
  unfold B127
  split
  · exact fun q hq => (E127 _ m).trans (L127 h _ m q hq)
  · exact fun q hq => by cases hq
theorem E128 (x0 : Value) (m : Mem) : FN true 128 [x0] m = T128 FN x0 m :=
  (show FN true 128 [x0] m = Call S tab 128 [x0] m by kernel_rfl).trans ((Call_ev (fn := fn128) hf128 [x0] m (by kernel_rfl)).trans (by kernel_rfl))
theorem G128 : GoodB FN true 128 B128 := by
  intro r h l m
  unfold B128
  split
  · exact fun q hq => (E128 _ m).trans (L128 h _ m q hq)
  · exact fun q hq => by cases hq
theorem E129 (x0 x1 x2 : Value) (m : Mem) : FN true 129 [x0, x1, x2] m = T129 FN x0 x1 x2 m :=
  (show FN true 129 [x0, x1, x2] m = Call S tab 129 [x0, x1, x2] m by kernel_rfl).trans ((Call_ev (fn := fn129) hf129 [x0, x1, x2] m (by kernel_rfl)).trans (by kernel_rfl))
theorem G129 : GoodB FN true 129 B129 := by
  intro r h l m
  unfold B129
  split
  · exact fun q hq => (E129 _ _ _ m).trans (L129 h _ _ _ m q hq)
  · exact fun q hq => by cases hq
theorem E131 (x0 : Value) (m : Mem) : FN true 131 [x0] m = T131 FN x0 m :=
  (show FN true 131 [x0] m = Call S tab 131 [x0] m by kernel_rfl).trans ((Call_ev (fn := fn131) hf131 [x0] m (by kernel_rfl)).trans (by kernel_rfl))
theorem G131 : GoodB FN true 131 B131 := by
  intro r h l m
  unfold B131
  split
  · exact fun q hq => (E131 _ m).trans (L131 h _ m q hq)
  · exact fun q hq => by cases hq
theorem E132 (x0 x1 : Value) (m : Mem) : FN true 132 [x0, x1] m = T132 FN x0 x1 m :=
  (show FN true 132 [x0, x1] m = Call S tab 132 [x0, x1] m by kernel_rfl).trans ((Call_ev (fn := fn132) hf132 [x0, x1] m (by kernel_rfl)).trans (by kernel_rfl))
theorem G132 : GoodB FN true 132 B132 := by
  intro r h l m
  unfold B132
  split
  · exact fun q hq => (E132 _ _ m).trans (L132 h _ _ m q hq)
  · exact fun q hq => by cases hq
theorem E133 (x0 : Value) (m : Mem) : FN true 133 [x0] m = T133 FN x0 m :=
  (show FN true 133 [x0] m = Call S tab 133 [x0] m by kernel_rfl).trans ((Call_ev (fn := fn133) hf133 [x0] m (by kernel_rfl)).trans (by kernel_rfl))
theorem G133 : GoodB FN true 133 B133 := by
  intro r h l m
  unfold B133
  split
  · exact fun q hq => (E133 _ m).trans (L133 h _ m q hq)
  · exact fun q hq => by cases hq
theorem E134 (x0 x1 : Value) (m : Mem) : FN true 134 [x0, x1] m = T134 FN x0 x1 m :=
  (show FN true 134 [x0, x1] m = Call S tab 134 [x0, x1] m by kernel_rfl).trans ((Call_ev (fn := fn134) hf134 [x0, x1] m (by kernel_rfl)).trans (by kernel_rfl))
theorem G134 : GoodB FN true 134 B134 := by
  intro r h l m
  unfold B134
  split
  · exact fun q hq => (E134 _ _ m).trans (L134 h _ _ m q hq)
  · exact fun q hq => by cases hq
theorem E134_0 (x7 x18 x19 x20 : Value) (m : Mem) : FN false 29 [x7, x18, x19, x20] m = T134_0 FN x7 x18 x19 x20 m :=
  (show FN false 29 [x7, x18, x19, x20] m = P134_0 x7 x18 x19 x20 m by kernel_rfl).trans ((Pt_ev (S := S) (tab := tab) (rs := fn134.results) (at' fn134 [1, 1, 1, 0, 1, 0]) [u, u, u, u, u, u, u, x7, u, u, u, u, u, u, u, u, u, u, x18, x19, x20, u, u, u, u, u, u, u, u, u, u] m).trans (by kernel_rfl))
theorem G134_0 : GoodB FN false 29 B134_0 := by
  intro r h l m
  unfold B134_0
  split
  · exact fun q hq => (E134_0 _ _ _ _ m).trans (L134_0 h _ _ _ _ m q hq)
  · exact fun q hq => by cases hq
theorem E135 (x0 x1 : Value) (m : Mem) : FN true 135 [x0, x1] m = T135 FN x0 x1 m :=
  (show FN true 135 [x0, x1] m = Call S tab 135 [x0, x1] m by kernel_rfl).trans ((Call_ev (fn := fn135) hf135 [x0, x1] m (by kernel_rfl)).trans (by kernel_rfl))
theorem G135 : GoodB FN true 135 B135 := by
  intro r h l m
  unfold B135
  split
  · exact fun q hq => (E135 _ _ m).trans (L135 h _ _ m q hq)
  · exact fun q hq => by cases hq
theorem E135_0 (x0 x6 x9 x44 x45 : Value) (m : Mem) : FN false 30 [x0, x6, x9, x44, x45] m = T135_0 FN x0 x6 x9 x44 x45 m :=
  (show FN false 30 [x0, x6, x9, x44, x45] m = P135_0 x0 x6 x9 x44 x45 m by kernel_rfl).trans ((Pt_ev (S := S) (tab := tab) (rs := fn135.results) (at' fn135 [1, 1, 1, 1, 1, 1, 0, 1, 0]) [x0, u, u, u, u, u, x6, u, u, x9, u, u, u, u, u, u, u, u, u, u, u, u, u, u, u, u, u, u, u, u, u, u, u, u, u, u, u, u, u, u, u, u, u, u, x44, x45, u, u, u, u, u, u, u, u, u, u, u, u, u, u, u, u, u, u, u, u, u, u, u, u, u, u, u, u, u, u, u, u, u, u, u, u, u] m).trans (by kernel_rfl))
theorem G135_0 : GoodB FN false 30 B135_0 := by
  intro r h l m
  unfold B135_0
  split
  · exact fun q hq => (E135_0 _ _ _ _ _ m).trans (L135_0 h _ _ _ _ _ m q hq)
  · exact fun q hq => by cases hq
theorem E136 (x0 : Value) (m : Mem) : FN true 136 [x0] m = T136 FN x0 m :=
  (show FN true 136 [x0] m = Call S tab 136 [x0] m by kernel_rfl).trans ((Call_ev (fn := fn136) hf136 [x0] m (by kernel_rfl)).trans (by kernel_rfl))
theorem G136 : GoodB FN true 136 B136 := by
  intro r h l m
  unfold B136
  split
  · exact fun q hq => (E136 _ m).trans (L136 h _ m q hq)
  · exact fun q hq => by cases hq
theorem E137 (x0 : Value) (m : Mem) : FN true 137 [x0] m = T137 FN x0 m :=
  (show FN true 137 [x0] m = Call S tab 137 [x0] m by kernel_rfl).trans ((Call_ev (fn := fn137) hf137 [x0] m (by kernel_rfl)).trans (by kernel_rfl))
theorem G137 : GoodB FN true 137 B137 := by
  intro r h l m
  unfold B137
  split
  · exact fun q hq => (E137 _ m).trans (L137 h _ m q hq)
  · exact fun q hq => by cases hq
theorem E146 (x0 x1 : Value) (m : Mem) : FN true 146 [x0, x1] m = T146 FN x0 x1 m :=
  (show FN true 146 [x0, x1] m = Call S tab 146 [x0, x1] m by kernel_rfl).trans ((Call_ev (fn := fn146) hf146 [x0, x1] m (by kernel_rfl)).trans (by kernel_rfl))
theorem G146 : GoodB FN true 146 B146 := by
  intro r h l m
  unfold B146
  split
  · exact fun q hq => (E146 _ _ m).trans (L146 h _ _ m q hq)
  · exact fun q hq => by cases hq
theorem E147 (x0 x1 : Value) (m : Mem) : FN true 147 [x0, x1] m = T147 FN x0 x1 m :=
  (show FN true 147 [x0, x1] m = Call S tab 147 [x0, x1] m by kernel_rfl).trans ((Call_ev (fn := fn147) hf147 [x0, x1] m (by kernel_rfl)).trans (by kernel_rfl))
theorem G147 : GoodB FN true 147 B147 := by
  intro r h l m
  unfold B147
  split
  · exact fun q hq => (E147 _ _ m).trans (L147 h _ _ m q hq)
  · exact fun q hq => by cases hq
theorem E148 (x0 x1 : Value) (m : Mem) : FN true 148 [x0, x1] m = T148 FN x0 x1 m :=
  (show FN true 148 [x0, x1] m = Call S tab 148 [x0, x1] m by kernel_rfl).trans ((Call_ev (fn := fn148) hf148 [x0, x1] m (by kernel_rfl)).trans (by kernel_rfl))
theorem G148 : GoodB FN true 148 B148 := by
  intro r h l m
  unfold B148
  split
  · exact fun q hq => (E148 _ _ m).trans (L148 h _ _ m q hq)
  · exact fun q hq => by cases hq
theorem E149 (x0 x1 : Value) (m : Mem) : FN true 149 [x0, x1] m = T149 FN x0 x1 m :=
  (show FN true 149 [x0, x1] m = Call S tab 149 [x0, x1] m by kernel_rfl).trans ((Call_ev (fn := fn149) hf149 [x0, x1] m (by kernel_rfl)).trans (by kernel_rfl))
theorem G149 : GoodB FN true 149 B149 := by
  intro r h l m
  unfold B149
  split
  · exact fun q hq => (E149 _ _ m).trans (L149 h _ _ m q hq)
  · exact fun q hq => by cases hq
theorem E150 (x0 x1 : Value) (m : Mem) : FN true 150 [x0, x1] m = T150 FN x0 x1 m :=
  (show FN true 150 [x0, x1] m = Call S tab 150 [x0, x1] m by kernel_rfl).trans ((Call_ev (fn := fn150) hf150 [x0, x1] m (by kernel_rfl)).trans (by kernel_rfl))
theorem G150 : GoodB FN true 150 B150 := by
  intro r h l m
  unfold B150
  split
  · exact fun q hq => (E150 _ _ m).trans (L150 h _ _ m q hq)
  · exact fun q hq => by cases hq
theorem E151 (x0 : Value) (m : Mem) : FN true 151 [x0] m = T151 FN x0 m :=
  (show FN true 151 [x0] m = Call S tab 151 [x0] m by kernel_rfl).trans ((Call_ev (fn := fn151) hf151 [x0] m (by kernel_rfl)).trans (by kernel_rfl))
theorem G151 : GoodB FN true 151 B151 := by
  intro r h l m
  unfold B151
  split
  · exact fun q hq => (E151 _ m).trans (L151 h _ m q hq)
  · exact fun q hq => by cases hq
theorem E152 (x0 : Value) (m : Mem) : FN true 152 [x0] m = T152 FN x0 m :=
  (show FN true 152 [x0] m = Call S tab 152 [x0] m by kernel_rfl).trans ((Call_ev (fn := fn152) hf152 [x0] m (by kernel_rfl)).trans (by kernel_rfl))
theorem G152 : GoodB FN true 152 B152 := by
  intro r h l m
  unfold B152
  split
  · exact fun q hq => (E152 _ m).trans (L152 h _ m q hq)
  · exact fun q hq => by cases hq
theorem E154 (x0 : Value) (m : Mem) : FN true 154 [x0] m = T154 FN x0 m :=
  (show FN true 154 [x0] m = Call S tab 154 [x0] m by kernel_rfl).trans ((Call_ev (fn := fn154) hf154 [x0] m (by kernel_rfl)).trans (by kernel_rfl))
theorem G154 : GoodB FN true 154 B154 := by
  intro r h l m
  unfold B154
  split
  · exact fun q hq => (E154 _ m).trans (L154 h _ m q hq)
  · exact fun q hq => by cases hq
theorem E157 (x0 : Value) (m : Mem) : FN true 157 [x0] m = T157 FN x0 m :=
  (show FN true 157 [x0] m = Call S tab 157 [x0] m by kernel_rfl).trans ((Call_ev (fn := fn157) hf157 [x0] m (by kernel_rfl)).trans (by kernel_rfl))
theorem G157 : GoodB FN true 157 B157 := by
  intro r h l m
  unfold B157
  split
  · exact fun q hq => (E157 _ m).trans (L157 h _ m q hq)
  · exact fun q hq => by cases hq
theorem E161 (x0 x1 : Value) (m : Mem) : FN true 161 [x0, x1] m = T161 FN x0 x1 m :=
  (show FN true 161 [x0, x1] m = Call S tab 161 [x0, x1] m by kernel_rfl).trans ((Call_ev (fn := fn161) hf161 [x0, x1] m (by kernel_rfl)).trans (by kernel_rfl))
theorem G161 : GoodB FN true 161 B161 := by
  intro r h l m
  unfold B161
  split
  · exact fun q hq => (E161 _ _ m).trans (L161 h _ _ m q hq)
  · exact fun q hq => by cases hq
theorem E161_0 (x0 x1 x7 x8 : Value) (m : Mem) : FN false 31 [x0, x1, x7, x8] m = T161_0 FN x0 x1 x7 x8 m :=
  (show FN false 31 [x0, x1, x7, x8] m = P161_0 x0 x1 x7 x8 m by kernel_rfl).trans ((Pt_ev (S := S) (tab := tab) (rs := fn161.results) (at' fn161 [1, 0, 1, 0]) [x0, x1, u, u, u, u, u, x7, x8, u, u, u, u, u, u, u, u, u, u] m).trans (by kernel_rfl))
theorem G161_0 : GoodB FN false 31 B161_0 := by
  intro r h l m
  unfold B161_0
  split
  · exact fun q hq => (E161_0 _ _ _ _ m).trans (L161_0 h _ _ _ _ m q hq)
  · exact fun q hq => by cases hq
theorem E166 (x0 : Value) (m : Mem) : FN true 166 [x0] m = T166 FN x0 m :=
  (show FN true 166 [x0] m = Call S tab 166 [x0] m by kernel_rfl).trans ((Call_ev (fn := fn166) hf166 [x0] m (by kernel_rfl)).trans (by kernel_rfl))
theorem G166 : GoodB FN true 166 B166 := by
  intro r h l m
  unfold B166
  split
  · exact fun q hq => (E166 _ m).trans (L166 h _ m q hq)
  · exact fun q hq => by cases hq
theorem E167 (x0 x1 : Value) (m : Mem) : FN true 167 [x0, x1] m = T167 FN x0 x1 m :=
  (show FN true 167 [x0, x1] m = Call S tab 167 [x0, x1] m by kernel_rfl).trans ((Call_ev (fn := fn167) hf167 [x0, x1] m (by kernel_rfl)).trans (by kernel_rfl))
theorem G167 : GoodB FN true 167 B167 := by
  intro r h l m
  unfold B167
  split
  · exact fun q hq => (E167 _ _ m).trans (L167 h _ _ m q hq)
  · exact fun q hq => by cases hq
theorem E173 (x0 : Value) (m : Mem) : FN true 173 [x0] m = T173 FN x0 m :=
  (show FN true 173 [x0] m = Call S tab 173 [x0] m by kernel_rfl).trans ((Call_ev (fn := fn173) hf173 [x0] m (by kernel_rfl)).trans (by kernel_rfl))
theorem G173 : GoodB FN true 173 B173 := by
  intro r h l m
  unfold B173
  split
  · exact fun q hq => (E173 _ m).trans (L173 h _ m q hq)
  · exact fun q hq => by cases hq
theorem E174 (x0 : Value) (m : Mem) : FN true 174 [x0] m = T174 FN x0 m :=
  (show FN true 174 [x0] m = Call S tab 174 [x0] m by kernel_rfl).trans ((Call_ev (fn := fn174) hf174 [x0] m (by kernel_rfl)).trans (by kernel_rfl))
theorem G174 : GoodB FN true 174 B174 := by
  intro r h l m
  unfold B174
  split
  · exact fun q hq => (E174 _ m).trans (L174 h _ m q hq)
  · exact fun q hq => by cases hq
theorem E174_0 (x4 x5 x6 x7 x17 x18 : Value) (m : Mem) : FN false 32 [x4, x5, x6, x7, x17, x18] m = T174_0 FN x4 x5 x6 x7 x17 x18 m :=
  (show FN false 32 [x4, x5, x6, x7, x17, x18] m = P174_0 x4 x5 x6 x7 x17 x18 m by kernel_rfl).trans ((Pt_ev (S := S) (tab := tab) (rs := fn174.results) (at' fn174 [1, 1, 1, 1, 1, 0, 1, 0]) [u, u, u, u, x4, x5, x6, x7, u, u, u, u, u, u, u, u, u, x17, x18, u, u, u, u, u, u, u, u, u, u, u, u, u, u, u, u, u, u, u, u, u, u, u, u, u, u, u, u, u, u, u, u, u, u, u, u, u, u, u, u, u] m).trans (by kernel_rfl))
theorem G174_0 : GoodB FN false 32 B174_0 := by
  intro r h l m
  unfold B174_0
  split
  · exact fun q hq => (E174_0 _ _ _ _ _ _ m).trans (L174_0 h _ _ _ _ _ _ m q hq)
  · exact fun q hq => by cases hq
theorem E174_1 (x4 x5 x7 : Value) (m : Mem) : FN false 33 [x4, x5, x7] m = T174_1 FN x4 x5 x7 m :=
  (show FN false 33 [x4, x5, x7] m = P174_1 x4 x5 x7 m by kernel_rfl).trans ((Pt_ev (S := S) (tab := tab) (rs := fn174.results) (at' fn174 [1, 1, 1, 1, 1, 1]) [u, u, u, u, x4, x5, u, x7, u, u, u, u, u, u, u, u, u, u, u, u, u, u, u, u, u, u, u, u, u, u, u, u, u, u, u, u, u, u, u, u, u, u, u, u, u, u, u, u, u, u, u, u, u, u, u, u, u, u, u, u] m).trans (by kernel_rfl))
theorem G174_1 : GoodB FN false 33 B174_1 := by
  intro r h l m
  unfold B174_1
  split
  · exact fun q hq => (E174_1 _ _ _ m).trans (L174_1 h _ _ _ m q hq)
  · exact fun q hq => by cases hq
theorem E175 (x0 : Value) (m : Mem) : FN true 175 [x0] m = T175 FN x0 m :=
  (show FN true 175 [x0] m = Call S tab 175 [x0] m by kernel_rfl).trans ((Call_ev (fn := fn175) hf175 [x0] m (by kernel_rfl)).trans (by kernel_rfl))
theorem G175 : GoodB FN true 175 B175 := by
  intro r h l m
  unfold B175
  split
  · exact fun q hq => (E175 _ m).trans (L175 h _ m q hq)
  · exact fun q hq => by cases hq
theorem E176 (x0 : Value) (m : Mem) : FN true 176 [x0] m = T176 FN x0 m :=
  (show FN true 176 [x0] m = Call S tab 176 [x0] m by kernel_rfl).trans ((Call_ev (fn := fn176) hf176 [x0] m (by kernel_rfl)).trans (by kernel_rfl))
theorem G176 : GoodB FN true 176 B176 := by
  intro r h l m
  unfold B176
  split
  · exact fun q hq => (E176 _ m).trans (L176 h _ m q hq)
  · exact fun q hq => by cases hq
theorem E177 (x0 x1 : Value) (m : Mem) : FN true 177 [x0, x1] m = T177 FN x0 x1 m :=
  (show FN true 177 [x0, x1] m = Call S tab 177 [x0, x1] m by kernel_rfl).trans ((Call_ev (fn := fn177) hf177 [x0, x1] m (by kernel_rfl)).trans (by kernel_rfl))
theorem G177 : GoodB FN true 177 B177 := by
  intro r h l m
  unfold B177
  split
  · exact fun q hq => (E177 _ _ m).trans (L177 h _ _ m q hq)
  · exact fun q hq => by cases hq
theorem E182 (x0 x1 : Value) (m : Mem) : FN true 182 [x0, x1] m = T182 FN x0 x1 m :=
  (show FN true 182 [x0, x1] m = Call S tab 182 [x0, x1] m by kernel_rfl).trans ((Call_ev (fn := fn182) hf182 [x0, x1] m (by kernel_rfl)).trans (by kernel_rfl))
theorem G182 : GoodB FN true 182 B182 := by
  intro r h l m
  unfold B182
  split
  · exact fun q hq => (E182 _ _ m).trans (L182 h _ _ m q hq)
  · exact fun q hq => by cases hq
theorem E184 (x0 x1 : Value) (m : Mem) : FN true 184 [x0, x1] m = T184 FN x0 x1 m :=
  (show FN true 184 [x0, x1] m = Call S tab 184 [x0, x1] m by kernel_rfl).trans ((Call_ev (fn := fn184) hf184 [x0, x1] m (by kernel_rfl)).trans (by kernel_rfl))
theorem G184 : GoodB FN true 184 B184 := by
  intro r h l m
  unfold B184
  split
  · exact fun q hq => (E184 _ _ m).trans (L184 h _ _ m q hq)
  · exact fun q hq => by cases hq
theorem E185 (x0 : Value) (m : Mem) : FN true 185 [x0] m = T185 FN x0 m :=
  (show FN true 185 [x0] m = Call S tab 185 [x0] m by kernel_rfl).trans ((Call_ev (fn := fn185) hf185 [x0] m (by kernel_rfl)).trans (by kernel_rfl))
theorem G185 : GoodB FN true 185 B185 := by
  intro r h l m
  unfold B185
  split
  · exact fun q hq => (E185 _ m).trans (L185 h _ m q hq)
  · exact fun q hq => by cases hq
theorem E186 (x0 x1 : Value) (m : Mem) : FN true 186 [x0, x1] m = T186 FN x0 x1 m :=
  (show FN true 186 [x0, x1] m = Call S tab 186 [x0, x1] m by kernel_rfl).trans ((Call_ev (fn := fn186) hf186 [x0, x1] m (by kernel_rfl)).trans (by kernel_rfl))
theorem G186 : GoodB FN true 186 B186 := by
  intro r h l m
  unfold B186
  split
  · exact fun q hq => (E186 _ _ m).trans (L186 h _ _ m q hq)
  · exact fun q hq => by cases hq
theorem E186_0 (x0 x1 x5 : Value) (m : Mem) : FN false 34 [x0, x1, x5] m = T186_0 FN x0 x1 x5 m :=
  (show FN false 34 [x0, x1, x5] m = P186_0 x0 x1 x5 m by kernel_rfl).trans ((Pt_ev (S := S) (tab := tab) (rs := fn186.results) (at' fn186 [1, 1, 1, 0, 1, 0, 1]) [x0, x1, u, u, u, x5, u, u, u, u, u, u, u, u, u, u, u, u, u, u, u, u, u, u, u, u, u, u, u, u, u, u, u, u, u, u, u, u, u, u, u, u, u, u, u, u, u, u, u, u, u, u, u, u, u, u, u, u, u, u, u, u, u, u, u, u, u, u, u, u, u, u, u, u, u] m).trans (by kernel_rfl))
theorem G186_0 : GoodB FN false 34 B186_0 := by
  intro r h l m
  unfold B186_0
  split
  · exact fun q hq => (E186_0 _ _ _ m).trans (L186_0 h _ _ _ m q hq)
  · exact fun q hq => by cases hq
theorem E186_1 (x0 x1 x5 : Value) (m : Mem) : FN false 35 [x0, x1, x5] m = T186_1 FN x0 x1 x5 m :=
  (show FN false 35 [x0, x1, x5] m = P186_1 x0 x1 x5 m by kernel_rfl).trans ((Pt_ev (S := S) (tab := tab) (rs := fn186.results) (at' fn186 [1, 1, 1, 1]) [x0, x1, u, u, u, x5, u, u, u, u, u, u, u, u, u, u, u, u, u, u, u, u, u, u, u, u, u, u, u, u, u, u, u, u, u, u, u, u, u, u, u, u, u, u, u, u, u, u, u, u, u, u, u, u, u, u, u, u, u, u, u, u, u, u, u, u, u, u, u, u, u, u, u, u, u] m).trans (by kernel_rfl))
theorem G186_1 : GoodB FN false 35 B186_1 := by
  intro r h l m
  unfold B186_1
  split
  · exact fun q hq => (E186_1 _ _ _ m).trans (L186_1 h _ _ _ m q hq)
  · exact fun q hq => by cases hq
theorem E186_2 (x0 x1 x5 x39 x40 x41 : Value) (m : Mem) : FN false 36 [x0, x1, x5, x39, x40, x41] m = T186_2 FN x0 x1 x5 x39 x40 x41 m :=
  (show FN false 36 [x0, x1, x5, x39, x40, x41] m = P186_2 x0 x1 x5 x39 x40 x41 m by kernel_rfl).trans ((Pt_ev (S := S) (tab := tab) (rs := fn186.results) (at' fn186 [1, 1, 1, 1, 0, 1, 0]) [x0, x1, u, u, u, x5, u, u, u, u, u, u, u, u, u, u, u, u, u, u, u, u, u, u, u, u, u, u, u, u, u, u, u, u, u, u, u, u, u, x39, x40, x41, u, u, u, u, u, u, u, u, u, u, u, u, u, u, u, u, u, u, u, u, u, u, u, u, u, u, u, u, u, u, u, u, u] m).trans (by kernel_rfl))
theorem G186_2 : GoodB FN false 36 B186_2 := by
  intro r h l m
  unfold B186_2
  split
  · exact fun q hq => (E186_2 _ _ _ _ _ _ m).trans (L186_2 h _ _ _ _ _ _ m q hq)
  · exact fun q hq => by cases hq
theorem E186_3 (x0 x1 x5 x7 x39 x40 x41 : Value) (m : Mem) : FN false 37 [x0, x1, x5, x7, x39, x40, x41] m = T186_3 FN x0 x1 x5 x7 x39 x40 x41 m :=
  (show FN false 37 [x0, x1, x5, x7, x39, x40, x41] m = P186_3 x0 x1 x5 x7 x39 x40 x41 m by kernel_rfl).trans ((Pt_ev (S := S) (tab := tab) (rs := fn186.results) (at' fn186 [1, 1, 1, 1, 0, 1, 0, 0, 1, 1, 0, 0, 1, 1]) [x0, x1, u, u, u, x5, u, x7, u, u, u, u, u, u, u, u, u, u, u, u, u, u, u, u, u, u, u, u, u, u, u, u, u, u, u, u, u, u, u, x39, x40, x41, u, u, u, u, u, u, u, u, u, u, u, u, u, u, u, u, u, u, u, u, u, u, u, u, u, u, u, u, u, u, u, u, u] m).trans (by kernel_rfl))
theorem G186_3 : GoodB FN false 37 B186_3 := by
  intro r h l m
  unfold B186_3
  split
  · exact fun q hq => (E186_3 _ _ _ _ _ _ _ m).trans (L186_3 h _ _ _ _ _ _ _ m q hq)
  · exact fun q hq => by cases hq
theorem E186_4 (x0 x1 x5 : Value) (m : Mem) : FN false 38 [x0, x1, x5] m = T186_4 FN x0 x1 x5 m :=
  (show FN false 38 [x0, x1, x5] m = P186_4 x0 x1 x5 m by kernel_rfl).trans ((Pt_ev (S := S) (tab := tab) (rs := fn186.results) (at' fn186 [1, 1, 1, 1, 1]) [x0, x1, u, u, u, x5, u, u, u, u, u, u, u, u, u, u, u, u, u, u, u, u, u, u, u, u, u, u, u, u, u, u, u, u, u, u, u, u, u, u, u, u, u, u, u, u, u, u, u, u, u, u, u, u, u, u, u, u, u, u, u, u, u, u, u, u, u, u, u, u, u, u, u, u, u] m).trans (by kernel_rfl))
theorem G186_4 : GoodB FN false 38 B186_4 := by
  intro r h l m
  unfold B186_4
  split
  · exact fun q hq => (E186_4 _ _ _ m).trans (L186_4 h _ _ _ m q hq)
  · exact fun q hq => by cases hq
theorem E186_5 (x1 x8 x63 x64 x65 : Value) (m : Mem) : FN false 39 [x1, x8, x63, x64, x65] m = T186_5 FN x1 x8 x63 x64 x65 m :=
  (show FN false 39 [x1, x8, x63, x64, x65] m = P186_5 x1 x8 x63 x64 x65 m by kernel_rfl).trans ((Pt_ev (S := S) (tab := tab) (rs := fn186.results) (at' fn186 [1, 1, 1, 1, 1, 1, 1, 1, 0, 1, 0]) [u, x1, u, u, u, u, u, u, x8, u, u, u, u, u, u, u, u, u, u, u, u, u, u, u, u, u, u, u, u, u, u, u, u, u, u, u, u, u, u, u, u, u, u, u, u, u, u, u, u, u, u, u, u, u, u, u, u, u, u, u, u, u, u, x63, x64, x65, u, u, u, u, u, u, u, u, u] m).trans (by kernel_rfl))
theorem G186_5 : GoodB FN false 39 B186_5 := by
  intro r h l m
  unfold B186_5
  split
  · exact fun q hq => (E186_5 _ _ _ _ _ m).trans (L186_5 h _ _ _ _ _ m q hq)
  · exact fun q hq => by cases hq
theorem E192 (x0 x1 : Value) (m : Mem) : FN true 192 [x0, x1] m = T192 FN x0 x1 m :=
  (show FN true 192 [x0, x1] m = Call S tab 192 [x0, x1] m by kernel_rfl).trans ((Call_ev (fn := fn192) hf192 [x0, x1] m (by kernel_rfl)).trans (by kernel_rfl))
theorem G192 : GoodB FN true 192 B192 := by
  intro r h l m
  unfold B192
  split
  · exact fun q hq => (E192 _ _ m).trans (L192 h _ _ m q hq)
  · exact fun q hq => by cases hq
theorem E200 (x0 : Value) (m : Mem) : FN true 200 [x0] m = T200 FN x0 m :=
  (show FN true 200 [x0] m = Call S tab 200 [x0] m by kernel_rfl).trans ((Call_ev (fn := fn200) hf200 [x0] m (by kernel_rfl)).trans (by kernel_rfl))
theorem G200 : GoodB FN true 200 B200 := by
  intro r h l m
  unfold B200
  split
  · exact fun q hq => (E200 _ m).trans (L200 h _ m q hq)
  · exact fun q hq => by cases hq
theorem E214 (x0 : Value) (m : Mem) : FN true 214 [x0] m = T214 FN x0 m :=
  (show FN true 214 [x0] m = Call S tab 214 [x0] m by kernel_rfl).trans ((Call_ev (fn := fn214) hf214 [x0] m (by kernel_rfl)).trans (by kernel_rfl))
theorem G214 : GoodB FN true 214 B214 := by
  intro r h l m
  unfold B214
  split
  · exact fun q hq => (E214 _ m).trans (L214 h _ m q hq)
  · exact fun q hq => by cases hq
theorem E215 (x0 x1 : Value) (m : Mem) : FN true 215 [x0, x1] m = T215 FN x0 x1 m :=
  (show FN true 215 [x0, x1] m = Call S tab 215 [x0, x1] m by kernel_rfl).trans ((Call_ev (fn := fn215) hf215 [x0, x1] m (by kernel_rfl)).trans (by kernel_rfl))
theorem G215 : GoodB FN true 215 B215 := by
  intro r h l m
  unfold B215
  split
  · exact fun q hq => (E215 _ _ m).trans (L215 h _ _ m q hq)
  · exact fun q hq => by cases hq
theorem E218 (x0 x1 : Value) (m : Mem) : FN true 218 [x0, x1] m = T218 FN x0 x1 m :=
  (show FN true 218 [x0, x1] m = Call S tab 218 [x0, x1] m by kernel_rfl).trans ((Call_ev (fn := fn218) hf218 [x0, x1] m (by kernel_rfl)).trans (by kernel_rfl))
theorem G218 : GoodB FN true 218 B218 := by
  intro r h l m
  unfold B218
  split
  · exact fun q hq => (E218 _ _ m).trans (L218 h _ _ m q hq)
  · exact fun q hq => by cases hq
theorem E218_0 (x0 x1 x7 x8 : Value) (m : Mem) : FN false 40 [x0, x1, x7, x8] m = T218_0 FN x0 x1 x7 x8 m :=
  (show FN false 40 [x0, x1, x7, x8] m = P218_0 x0 x1 x7 x8 m by kernel_rfl).trans ((Pt_ev (S := S) (tab := tab) (rs := fn218.results) (at' fn218 [1, 0, 1, 0]) [x0, x1, u, u, u, u, u, x7, x8, u, u, u, u, u, u, u, u, u, u] m).trans (by kernel_rfl))
theorem G218_0 : GoodB FN false 40 B218_0 := by
  intro r h l m
  unfold B218_0
  split
  · exact fun q hq => (E218_0 _ _ _ _ m).trans (L218_0 h _ _ _ _ m q hq)
  · exact fun q hq => by cases hq
theorem E242 (x0 x1 x2 : Value) (m : Mem) : FN true 242 [x0, x1, x2] m = T242 FN x0 x1 x2 m :=
  (show FN true 242 [x0, x1, x2] m = Call S tab 242 [x0, x1, x2] m by kernel_rfl).trans ((Call_ev (fn := fn242) hf242 [x0, x1, x2] m (by kernel_rfl)).trans (by kernel_rfl))
theorem G242 : GoodB FN true 242 B242 := by
  intro r h l m
  unfold B242
  split
  · exact fun q hq => (E242 _ _ _ m).trans (L242 h _ _ _ m q hq)
  · exact fun q hq => by cases hq
theorem E242_0 (x1 x2 x10 : Value) (m : Mem) : FN false 41 [x1, x2, x10] m = T242_0 FN x1 x2 x10 m :=
  (show FN false 41 [x1, x2, x10] m = P242_0 x1 x2 x10 m by kernel_rfl).trans ((Pt_ev (S := S) (tab := tab) (rs := fn242.results) (at' fn242 [1, 0, 1, 0]) [u, x1, x2, u, u, u, u, u, u, u, x10, u, u, u, u, u, u, u, u, u, u] m).trans (by kernel_rfl))
theorem G242_0 : GoodB FN false 41 B242_0 := by
  intro r h l m
  unfold B242_0
  split
  · exact fun q hq => (E242_0 _ _ _ m).trans (L242_0 h _ _ _ m q hq)
  · exact fun q hq => by cases hq
theorem G68 : GoodB FN true 68 B68 := fun r _ l m q hq => Call_S (tab := tab) ((show S 68 l m = aRepeat l m by kernel_rfl).trans hq)
theorem G153 : GoodB FN true 153 B153 := fun r _ l m q hq => Call_S (tab := tab) ((show S 153 l m = aTrim l m by kernel_rfl).trans hq)
theorem G130 : GoodB FN true 130 B130 := fun r _ l m q hq => Call_S (tab := tab) ((show S 130 l m = aSortS l m by kernel_rfl).trans hq)
def TT : BT := (.node 98 B98 (.node 66 B66 (.node 40 B40 (.node 31 B31 (.node 27 B27 (.node 21 B21 (.node 19 B19 .nil .nil) (.node 26 B26 .nil .nil)) (.node 30 B30 (.node 28 B28 .nil .nil) .nil)) (.node 37 B37 (.node 33 B33 (.node 32 B32 .nil .nil) (.node 35 B35 .nil .nil)) (.node 39 B39 (.node 38 B38 .nil .nil) .nil))) (.node 50 B50 (.node 47 B47 (.node 45 B45 (.node 41 B41 .nil .nil) (.node 46 B46 .nil .nil)) (.node 49 B49 (.node 48 B48 .nil .nil) .nil)) (.node 63 B63 (.node 55 B55 (.node 53 B53 .nil .nil) (.node 62 B62 .nil .nil)) (.node 65 B65 (.node 64 B64 .nil .nil) .nil)))) (.node 82 B82 (.node 75 B75 (.node 71 B71 (.node 68 B68 (.node 67 B67 .nil .nil) (.node 69 B69 .nil .nil)) (.node 74 B74 (.node 73 B73 .nil .nil) .nil)) (.node 79 B79 (.node 77 B77 (.node 76 B76 .nil .nil) (.node 78 B78 .nil .nil)) (.node 81 B81 (.node 80 B80 .nil .nil) .nil))) (.node 90 B90 (.node 87 B87 (.node 84 B84 (.node 83 B83 .nil .nil) (.node 85 B85 .nil .nil)) (.node 89 B89 (.node 88 B88 .nil .nil) .nil)) (.node 95 B95 (.node 92 B92 (.node 91 B91 .nil .nil) (.node 94 B94 .nil .nil)) (.node 97 B97 (.node 96 B96 .nil .nil) .nil))))) (.node 147 B147 (.node 125 B125 (.node 110 B110 (.node 107 B107 (.node 100 B100 (.node 99 B99 .nil .nil) (.node 104 B104 .nil .nil)) (.node 109 B109 (.node 108 B108 .nil .nil) .nil)) (.node 118 B118 (.node 114 B114 (.node 113 B113 .nil .nil) (.node 117 B117 .nil .nil)) (.node 124 B124 (.node 120 B120 .nil .nil) .nil))) (.node 132 B132 (.node 129 B129 (.node 127 B127 (.node 126 B126 .nil .nil) (.node 128 B128 .nil .nil)) (.node 131 B131 (.node 130 B130 .nil .nil) .nil)) (.node 136 B136 (.node 134 B134 (.node 133 B133 .nil .nil) (.node 135 B135 .nil .nil)) (.node 146 B146 (.node 137 B137 .nil .nil) .nil)))) (.node 175 B175 (.node 154 B154 (.node 151 B151 (.node 149 B149 (.node 148 B148 .nil .nil) (.node 150 B150 .nil .nil)) (.node 153 B153 (.node 152 B152 .nil .nil) .nil)) (.node 167 B167 (.node 161 B161 (.node 157 B157 .nil .nil) (.node 166 B166 .nil .nil)) (.node 174 B174 (.node 173 B173 .nil .nil) .nil))) (.node 192 B192 (.node 184 B184 (.node 177 B177 (.node 176 B176 .nil .nil) (.node 182 B182 .nil .nil)) (.node 186 B186 (.node 185 B185 .nil .nil) .nil)) (.node 215 B215 (.node 214 B214 (.node 200 B200 .nil .nil) .nil) (.node 242 B242 (.node 218 B218 .nil .nil) .nil))))))
theorem TTgood : TT.Good FN true := (.node G98 (.node G66 (.node G40 (.node G31 (.node G27 (.node G21 (.node G19 .nil .nil) (.node G26 .nil .nil)) (.node G30 (.node G28 .nil .nil) .nil)) (.node G37 (.node G33 (.node G32 .nil .nil) (.node G35 .nil .nil)) (.node G39 (.node G38 .nil .nil) .nil))) (.node G50 (.node G47 (.node G45 (.node G41 .nil .nil) (.node G46 .nil .nil)) (.node G49 (.node G48 .nil .nil) .nil)) (.node G63 (.node G55 (.node G53 .nil .nil) (.node G62 .nil .nil)) (.node G65 (.node G64 .nil .nil) .nil)))) (.node G82 (.node G75 (.node G71 (.node G68 (.node G67 .nil .nil) (.node G69 .nil .nil)) (.node G74 (.node G73 .nil .nil) .nil)) (.node G79 (.node G77 (.node G76 .nil .nil) (.node G78 .nil .nil)) (.node G81 (.node G80 .nil .nil) .nil))) (.node G90 (.node G87 (.node G84 (.node G83 .nil .nil) (.node G85 .nil .nil)) (.node G89 (.node G88 .nil .nil) .nil)) (.node G95 (.node G92 (.node G91 .nil .nil) (.node G94 .nil .nil)) (.node G97 (.node G96 .nil .nil) .nil))))) (.node G147 (.node G125 (.node G110 (.node G107 (.node G100 (.node G99 .nil .nil) (.node G104 .nil .nil)) (.node G109 (.node G108 .nil .nil) .nil)) (.node G118 (.node G114 (.node G113 .nil .nil) (.node G117 .nil .nil)) (.node G124 (.node G120 .nil .nil) .nil))) (.node G132 (.node G129 (.node G127 (.node G126 .nil .nil) (.node G128 .nil .nil)) (.node G131 (.node G130 .nil .nil) .nil)) (.node G136 (.node G134 (.node G133 .nil .nil) (.node G135 .nil .nil)) (.node G146 (.node G137 .nil .nil) .nil)))) (.node G175 (.node G154 (.node G151 (.node G149 (.node G148 .nil .nil) (.node G150 .nil .nil)) (.node G153 (.node G152 .nil .nil) .nil)) (.node G167 (.node G161 (.node G157 .nil .nil) (.node G166 .nil .nil)) (.node G174 (.node G173 .nil .nil) .nil))) (.node G192 (.node G184 (.node G177 (.node G176 .nil .nil) (.node G182 .nil .nil)) (.node G186 (.node G185 .nil .nil) .nil)) (.node G215 (.node G214 (.node G200 .nil .nil) .nil) (.node G242 (.node G218 .nil .nil) .nil))))))
def TP : BT := (.node 21 B88_0 (.node 10 B50_0 (.node 5 B32_0 (.node 2 B27_0 (.node 1 B26_0 (.node 0 B19_0 .nil .nil) .nil) (.node 4 B27_2 (.node 3 B27_1 .nil .nil) .nil)) (.node 8 B37_1 (.node 7 B37_0 (.node 6 B32_1 .nil .nil) .nil) (.node 9 B48_0 .nil .nil))) (.node 16 B65_1 (.node 13 B53_1 (.node 12 B53_0 (.node 11 B50_1 .nil .nil) .nil) (.node 15 B65_0 (.node 14 B53_2 .nil .nil) .nil)) (.node 19 B85_0 (.node 18 B78_0 (.node 17 B67_0 .nil .nil) .nil) (.node 20 B85_1 .nil .nil)))) (.node 32 B174_0 (.node 27 B109_0 (.node 24 B99_1 (.node 23 B99_0 (.node 22 B88_1 .nil .nil) .nil) (.node 26 B108_0 (.node 25 B99_2 .nil .nil) .nil)) (.node 30 B135_0 (.node 29 B134_0 (.node 28 B117_0 .nil .nil) .nil) (.node 31 B161_0 .nil .nil))) (.node 37 B186_3 (.node 35 B186_1 (.node 34 B186_0 (.node 33 B174_1 .nil .nil) .nil) (.node 36 B186_2 .nil .nil)) (.node 40 B218_0 (.node 39 B186_5 (.node 38 B186_4 .nil .nil) .nil) (.node 41 B242_0 .nil .nil)))))
theorem TPgood : TP.Good FN false := (.node G88_0 (.node G50_0 (.node G32_0 (.node G27_0 (.node G26_0 (.node G19_0 .nil .nil) .nil) (.node G27_2 (.node G27_1 .nil .nil) .nil)) (.node G37_1 (.node G37_0 (.node G32_1 .nil .nil) .nil) (.node G48_0 .nil .nil))) (.node G65_1 (.node G53_1 (.node G53_0 (.node G50_1 .nil .nil) .nil) (.node G65_0 (.node G53_2 .nil .nil) .nil)) (.node G85_0 (.node G78_0 (.node G67_0 .nil .nil) .nil) (.node G85_1 .nil .nil)))) (.node G174_0 (.node G109_0 (.node G99_1 (.node G99_0 (.node G88_1 .nil .nil) .nil) (.node G108_0 (.node G99_2 .nil .nil) .nil)) (.node G135_0 (.node G134_0 (.node G117_0 .nil .nil) .nil) (.node G161_0 .nil .nil))) (.node G186_3 (.node G186_1 (.node G186_0 (.node G174_1 .nil .nil) .nil) (.node G186_2 .nil .nil)) (.node G218_0 (.node G186_5 (.node G186_4 .nil .nil) .nil) (.node G242_0 .nil .nil)))))
theorem run_call {n f : Nat} {l : List Value} {m : Mem} {q : Value × Mem} (h : rounds TT TP n true f l m = some q) : Call S tab f l m = some q := rounds_le TTgood TPgood n true f l m q h
end Go.Fx.Tryz.Run
