/- Parts of a proof: InsF, FxMem, FxPrim, FxAppend. Conditions: none. -/
import Derived.Test.YtbhdhhgpfanmcaaGreatDoorChecked
import Derived.KernelRfl
import Derived.Calls
import Derived.Laws.Sem
set_option linter.unusedSimpArgs false
set_option linter.unusedVariables false
theorem bsI {α β : Type _} {b : β} {x : Option α} {f : α → Option β} : x.bind f = some b ↔ ∃ a, x = some a ∧ f a = some b := Option.bind_eq_some_iff
theorem msI {α β : Type _} {b : β} {x : Option α} {f : α → β} : Option.map f x = some b ↔ ∃ a, x = some a ∧ f a = b := Option.map_eq_some_iff
theorem bmI {α β : Type _} (a : α) (f : α → Option β) : (some a).bind f = f a := Option.bind_some ..
theorem lcI {α : Type _} {b : α} {l : List α} {a : α} : a ∈ b :: l ↔ a = b ∨ a ∈ l := List.mem_cons
theorem laI {α : Type _} {a b : List α} : (a ++ b).length = a.length + b.length := List.length_append
theorem pjI {α β : Type _} (a : α) (b : β) (c : α) (d : β) : ((a, b) = (c, d)) = (a = c ∧ b = d) := Prod.mk.injEq ..
theorem baI (a b : Bool) : ((a && b) = true) = (a = true ∧ b = true) := Bool.and_eq_true ..
theorem nmI {α : Type _} {a : α} : ¬a ∈ [] := List.not_mem_nil
theorem lnI {α : Type _} {a : α} {b : List α} : (a :: b).length = b.length + 1 := List.length_cons
theorem ltI {α : Type _} {i : Nat} {l : List α} : (List.take i l).length = min i l.length := List.length_take
theorem aaI {α : Type _} (a b c : List α) : a ++ b ++ c = a ++ (b ++ c) := List.append_assoc ..
theorem ldI {α : Type _} {i : Nat} {l : List α} : (List.drop i l).length = l.length - i := List.length_drop
theorem sjI {α : Type _} (a b : α) : (some a = some b) = (a = b) := Option.some.injEq ..
theorem tsI {α : Type _} {i : Nat} {l : List α} (h : i < l.length) : List.take (i + 1) l = List.take i l ++ [l[i]] := List.take_succ_eq_append_getElem h
namespace Go.Fx.Tryz
open Go
set_option maxRecDepth 100000
noncomputable def insFn : Func := ⟨ "slices.Insert[[]factotum/api.Pair,factotum/api.Pair]", "slices.Insert", #[39, 81], #[39, 3, 39], #[39], 0, 95, #[(.tmp 6)], (some (.seq (.region 0 #[⟨(some 6), (.assign (.const (.slice none 0 0))), 39, "slices.go:136", #[], none⟩] .false) (.seq (.region 1 #[⟨(some 10), (.move (.tmp 0)), 39, "slices.go:137", #[], none⟩, ⟨(some 11), (.move (.tmp 1)), 3, "slices.go:137", #[], none⟩, ⟨(some 12), (.slice 39 (.tmp 10) (some (.tmp 11)) none none), 39, "slices.go:137", #[⟨0, .data⟩, ⟨1, .data⟩], none⟩] .false) (.seq (.region 2 #[⟨(some 13), (.move (.tmp 2)), 39, "slices.go:139", #[], none⟩, ⟨(some 14), (.call ⟨(.builtin .len), #[(.tmp 13)], #[39]⟩), 3, "slices.go:139", #[⟨0, .data⟩], none⟩, ⟨(some 7), (.assign (.tmp 14)), 3, "slices.go:139", #[⟨1, .data⟩, ⟨0, .phase⟩, ⟨1, .phase⟩], none⟩] .false) (.seq (.seq (.region 3 #[⟨(some 15), (.move (.tmp 7)), 3, "slices.go:140", #[], none⟩, ⟨(some 16), (.binOp .eql 3 (.tmp 15) (.const (.int .i64 (0))) 3), 4, "slices.go:140", #[⟨0, .data⟩], none⟩] .false) (.cond (.tmp 16) (.seq (.region 4 #[⟨(some 17), (.move (.tmp 0)), 39, "slices.go:141", #[], none⟩, ⟨(some 6), (.assign (.tmp 17)), 39, "slices.go:141", #[⟨0, .data⟩, ⟨0, .phase⟩], none⟩] .false) .ret) .skip)) (.seq (.region 5 #[⟨(some 18), (.move (.tmp 0)), 39, "slices.go:143", #[], none⟩, ⟨(some 19), (.call ⟨(.builtin .len), #[(.tmp 18)], #[39]⟩), 3, "slices.go:143", #[⟨0, .data⟩], none⟩, ⟨(some 8), (.assign (.tmp 19)), 3, "slices.go:143", #[⟨1, .data⟩, ⟨0, .phase⟩, ⟨1, .phase⟩], none⟩] .false) (.seq (.seq (.region 6 #[⟨(some 20), (.move (.tmp 1)), 3, "slices.go:144", #[], none⟩, ⟨(some 21), (.move (.tmp 8)), 3, "slices.go:144", #[], none⟩, ⟨(some 22), (.binOp .eql 3 (.tmp 20) (.tmp 21) 3), 4, "slices.go:144", #[⟨0, .data⟩, ⟨1, .data⟩], none⟩] .false) (.cond (.tmp 22) (.seq (.region 7 #[⟨(some 23), (.move (.tmp 0)), 39, "slices.go:145", #[], none⟩, ⟨(some 24), (.move (.tmp 2)), 39, "slices.go:145", #[], none⟩, ⟨(some 25), (.call ⟨(.builtin .append), #[(.tmp 23), (.tmp 24)], #[39, 39]⟩), 39, "slices.go:145", #[⟨0, .data⟩, ⟨1, .data⟩], none⟩, ⟨(some 6), (.assign (.tmp 25)), 39, "slices.go:145", #[⟨2, .data⟩, ⟨2, .chain⟩, ⟨0, .phase⟩, ⟨1, .phase⟩, ⟨2, .phase⟩], none⟩] .false) .ret) .skip)) (.seq (.seq (.region 8 #[⟨(some 26), (.move (.tmp 8)), 3, "slices.go:147", #[], none⟩, ⟨(some 27), (.move (.tmp 7)), 3, "slices.go:147", #[], none⟩, ⟨(some 28), (.binOp .add 3 (.tmp 26) (.tmp 27) 3), 3, "slices.go:147", #[⟨0, .data⟩, ⟨1, .data⟩], none⟩, ⟨(some 29), (.move (.tmp 0)), 39, "slices.go:147", #[], none⟩, ⟨(some 30), (.call ⟨(.builtin .cap), #[(.tmp 29)], #[39]⟩), 3, "slices.go:147", #[⟨3, .data⟩], none⟩, ⟨(some 31), (.binOp .gtr 3 (.tmp 28) (.tmp 30) 3), 4, "slices.go:147", #[⟨2, .data⟩, ⟨4, .data⟩], none⟩] .false) (.cond (.tmp 31) (.seq (.region 9 #[⟨(some 32), (.move (.tmp 0)), 39, "slices.go:152", #[], none⟩, ⟨(some 33), (.move (.tmp 1)), 3, "slices.go:152", #[], none⟩, ⟨(some 34), (.slice 39 (.tmp 32) none (some (.tmp 33)) none), 39, "slices.go:152", #[⟨0, .data⟩, ⟨1, .data⟩], none⟩, ⟨(some 35), (.move (.tmp 8)), 3, "slices.go:152", #[], none⟩, ⟨(some 36), (.move (.tmp 7)), 3, "slices.go:152", #[], none⟩, ⟨(some 37), (.binOp .add 3 (.tmp 35) (.tmp 36) 3), 3, "slices.go:152", #[⟨3, .data⟩, ⟨4, .data⟩], none⟩, ⟨(some 38), (.move (.tmp 1)), 3, "slices.go:152", #[], none⟩, ⟨(some 39), (.binOp .sub 3 (.tmp 37) (.tmp 38) 3), 3, "slices.go:152", #[⟨5, .data⟩, ⟨6, .data⟩], none⟩, ⟨(some 40), (.call ⟨(.builtin .append), #[(.tmp 34), (.tmp 39)], #[39, 3]⟩), 39, "slices.go:152", #[⟨2, .data⟩, ⟨7, .data⟩], none⟩, ⟨(some 9), (.assign (.tmp 40)), 39, "slices.go:152", #[⟨8, .data⟩, ⟨8, .chain⟩, ⟨0, .phase⟩, ⟨1, .phase⟩, ⟨2, .phase⟩, ⟨3, .phase⟩, ⟨4, .phase⟩, ⟨5, .phase⟩, ⟨6, .phase⟩, ⟨7, .phase⟩, ⟨8, .phase⟩], none⟩] .false) (.seq (.region 10 #[⟨(some 41), (.move (.tmp 9)), 39, "slices.go:153", #[], none⟩, ⟨(some 42), (.move (.tmp 1)), 3, "slices.go:153", #[], none⟩, ⟨(some 43), (.slice 39 (.tmp 41) (some (.tmp 42)) none none), 39, "slices.go:153", #[⟨0, .data⟩, ⟨1, .data⟩], none⟩, ⟨(some 44), (.move (.tmp 2)), 39, "slices.go:153", #[], none⟩, ⟨(some 45), (.call ⟨(.builtin .copy), #[(.tmp 43), (.tmp 44)], #[39, 39]⟩), 3, "slices.go:153", #[⟨2, .data⟩, ⟨3, .data⟩], none⟩] .false) (.seq (.region 11 #[⟨(some 46), (.move (.tmp 9)), 39, "slices.go:154", #[], none⟩, ⟨(some 47), (.move (.tmp 1)), 3, "slices.go:154", #[], none⟩, ⟨(some 48), (.move (.tmp 7)), 3, "slices.go:154", #[], none⟩, ⟨(some 49), (.binOp .add 3 (.tmp 47) (.tmp 48) 3), 3, "slices.go:154", #[⟨1, .data⟩, ⟨2, .data⟩], none⟩, ⟨(some 50), (.slice 39 (.tmp 46) (some (.tmp 49)) none none), 39, "slices.go:154", #[⟨0, .data⟩, ⟨3, .data⟩], none⟩, ⟨(some 51), (.move (.tmp 0)), 39, "slices.go:154", #[], none⟩, ⟨(some 52), (.move (.tmp 1)), 3, "slices.go:154", #[], none⟩, ⟨(some 53), (.slice 39 (.tmp 51) (some (.tmp 52)) none none), 39, "slices.go:154", #[⟨5, .data⟩, ⟨6, .data⟩], none⟩, ⟨(some 54), (.call ⟨(.builtin .copy), #[(.tmp 50), (.tmp 53)], #[39, 39]⟩), 3, "slices.go:154", #[⟨4, .data⟩, ⟨7, .data⟩], none⟩] .true) (.seq (.region 12 #[⟨(some 55), (.move (.tmp 9)), 39, "slices.go:155", #[], none⟩, ⟨(some 6), (.assign (.tmp 55)), 39, "slices.go:155", #[⟨0, .data⟩, ⟨0, .phase⟩], none⟩] .false) .ret)))) .skip)) (.seq (.region 13 #[⟨(some 56), (.move (.tmp 0)), 39, "slices.go:157", #[], none⟩, ⟨(some 57), (.move (.tmp 8)), 3, "slices.go:157", #[], none⟩, ⟨(some 58), (.move (.tmp 7)), 3, "slices.go:157", #[], none⟩, ⟨(some 59), (.binOp .add 3 (.tmp 57) (.tmp 58) 3), 3, "slices.go:157", #[⟨1, .data⟩, ⟨2, .data⟩], none⟩, ⟨(some 60), (.slice 39 (.tmp 56) none (some (.tmp 59)) none), 39, "slices.go:157", #[⟨0, .data⟩, ⟨3, .data⟩], none⟩, ⟨(some 0), (.assign (.tmp 60)), 39, "slices.go:157", #[⟨4, .data⟩, ⟨0, .phase⟩, ⟨1, .phase⟩, ⟨2, .phase⟩, ⟨3, .phase⟩, ⟨4, .phase⟩], none⟩] .false) (.seq (.seq (.region 14 #[⟨(some 61), (.move (.tmp 2)), 39, "slices.go:173", #[], none⟩, ⟨(some 62), (.move (.tmp 0)), 39, "slices.go:173", #[], none⟩, ⟨(some 63), (.move (.tmp 1)), 3, "slices.go:173", #[], none⟩, ⟨(some 64), (.move (.tmp 7)), 3, "slices.go:173", #[], none⟩, ⟨(some 65), (.binOp .add 3 (.tmp 63) (.tmp 64) 3), 3, "slices.go:173", #[⟨2, .data⟩, ⟨3, .data⟩], none⟩, ⟨(some 66), (.slice 39 (.tmp 62) (some (.tmp 65)) none none), 39, "slices.go:173", #[⟨1, .data⟩, ⟨4, .data⟩], none⟩, ⟨(some 67), (.call ⟨(.value (.func 178)), #[(.tmp 61), (.tmp 66)], #[39, 39]⟩), 4, "slices.go:173", #[⟨0, .data⟩, ⟨5, .data⟩], none⟩, ⟨(some 68), (.unOp .not 4 (.tmp 67)), 4, "slices.go:173", #[⟨6, .data⟩], none⟩] .false) (.cond (.tmp 68) (.seq (.region 15 #[⟨(some 69), (.move (.tmp 0)), 39, "slices.go:178", #[], none⟩, ⟨(some 70), (.move (.tmp 1)), 3, "slices.go:178", #[], none⟩, ⟨(some 71), (.move (.tmp 7)), 3, "slices.go:178", #[], none⟩, ⟨(some 72), (.binOp .add 3 (.tmp 70) (.tmp 71) 3), 3, "slices.go:178", #[⟨1, .data⟩, ⟨2, .data⟩], none⟩, ⟨(some 73), (.slice 39 (.tmp 69) (some (.tmp 72)) none none), 39, "slices.go:178", #[⟨0, .data⟩, ⟨3, .data⟩], none⟩, ⟨(some 74), (.move (.tmp 0)), 39, "slices.go:178", #[], none⟩, ⟨(some 75), (.move (.tmp 1)), 3, "slices.go:178", #[], none⟩, ⟨(some 76), (.slice 39 (.tmp 74) (some (.tmp 75)) none none), 39, "slices.go:178", #[⟨5, .data⟩, ⟨6, .data⟩], none⟩, ⟨(some 77), (.call ⟨(.builtin .copy), #[(.tmp 73), (.tmp 76)], #[39, 39]⟩), 3, "slices.go:178", #[⟨4, .data⟩, ⟨7, .data⟩], none⟩] .true) (.seq (.region 16 #[⟨(some 78), (.move (.tmp 0)), 39, "slices.go:186", #[], none⟩, ⟨(some 79), (.move (.tmp 1)), 3, "slices.go:186", #[], none⟩, ⟨(some 80), (.slice 39 (.tmp 78) (some (.tmp 79)) none none), 39, "slices.go:186", #[⟨0, .data⟩, ⟨1, .data⟩], none⟩, ⟨(some 81), (.move (.tmp 2)), 39, "slices.go:186", #[], none⟩, ⟨(some 82), (.call ⟨(.builtin .copy), #[(.tmp 80), (.tmp 81)], #[39, 39]⟩), 3, "slices.go:186", #[⟨2, .data⟩, ⟨3, .data⟩], none⟩] .false) (.seq (.region 17 #[⟨(some 83), (.move (.tmp 0)), 39, "slices.go:193", #[], none⟩, ⟨(some 6), (.assign (.tmp 83)), 39, "slices.go:193", #[⟨0, .data⟩, ⟨0, .phase⟩], none⟩] .false) .ret))) .skip)) (.seq (.region 18 #[⟨(some 84), (.move (.tmp 0)), 39, "slices.go:200", #[], none⟩, ⟨(some 85), (.move (.tmp 8)), 3, "slices.go:200", #[], none⟩, ⟨(some 86), (.slice 39 (.tmp 84) (some (.tmp 85)) none none), 39, "slices.go:200", #[⟨0, .data⟩, ⟨1, .data⟩], none⟩, ⟨(some 87), (.move (.tmp 2)), 39, "slices.go:200", #[], none⟩, ⟨(some 88), (.call ⟨(.builtin .copy), #[(.tmp 86), (.tmp 87)], #[39, 39]⟩), 3, "slices.go:200", #[⟨2, .data⟩, ⟨3, .data⟩], none⟩] .false) (.seq (.region 19 #[⟨(some 89), (.move (.tmp 0)), 39, "slices.go:207", #[], none⟩, ⟨(some 90), (.move (.tmp 1)), 3, "slices.go:207", #[], none⟩, ⟨(some 91), (.slice 39 (.tmp 89) (some (.tmp 90)) none none), 39, "slices.go:207", #[⟨0, .data⟩, ⟨1, .data⟩], none⟩, ⟨(some 92), (.move (.tmp 7)), 3, "slices.go:207", #[], none⟩, ⟨(some 93), (.call ⟨(.value (.func 179)), #[(.tmp 91), (.tmp 92)], #[39, 3]⟩), 0, "slices.go:207", #[⟨2, .data⟩, ⟨3, .data⟩], none⟩] .false) (.seq (.region 20 #[⟨(some 94), (.move (.tmp 0)), 39, "slices.go:214", #[], none⟩, ⟨(some 6), (.assign (.tmp 94)), 39, "slices.go:214", #[⟨0, .data⟩, ⟨0, .phase⟩], none⟩] .false) .ret))))))))))))), .false, .false, "slices/slices.go", 215, none, [.appendOfMake], #["s", "i", "v", "s", "i", "v", "", "m", "n", "s2", "", "", "", "", "", "", "", "", "", "", "", "", "", "", "", "", "", "", "", "", "", "", "", "", "", "", "", "", "", "", "", "", "", "", "", "", "", "", "", "", "", "", "", "", "", "", "", "", "", "", "", "", "", "", "", "", "", "", "", "", "", "", "", "", "", "", "", "", "", "", "", "", "", "", "", "", "", "", "", "", "", "", "", "", ""]⟩
theorem qft:Proofs.Tryz.prog.funcs[132]? = some insFn:=by kernel_rfl
noncomputable def ovlFn : Func := ⟨ "slices.overlaps[factotum/api.Pair]", "slices.overlaps", #[81], #[39, 39], #[4], 0, 2, #[], none, .false, .false, "slices/slices.go", 0, none, [], #[]⟩
theorem qjz:Proofs.Tryz.prog.funcs[178]? = some ovlFn:=by kernel_rfl
end Go.Fx.Tryz
namespace Go.Fx
open Go
def fits:List Value->Nat->Bool
 | _,0=>true
 | [],_+1=>false
 | _::c,k+1=>fits c k
theorem HE:∀ (c:List Value) (k:Nat),fits c k=true↔k<=c.length
 | c,0=>by simp [fits]
 | [],k+1=>by simp [fits]
 | _::c,k+1=>by simp only [fits,HE c k,lnI]; omega
theorem qeR (a b:Nat) (c:List Value):fits (c.drop a) (b+1)=true↔a+(b+1)<=c.length:=by
 rw [HE,ldI]; omega
instance (priority:=high) decRoom (a:Nat) (c:List Value):(b:Nat)->Decidable (a+b<=c.length)
 | 0=>Nat.decLe ..
 | b+1=>decidable_of_iff _ (qeR a b c)
inductive Trie (α:Type) where
 | leaf
 | node (v:Option α) (l r:Trie α)
def Trie.get {α:Type}:Trie α->Nat->Option α
 | .leaf,_=>none
 | .node v l r,k=>if k=0 then v else if k % 2=1 then l.get (k / 2) else r.get (k / 2 - 1)
def Trie.YU {α:Type}:Nat->Trie α->Nat->Option α->Trie α
 | 0,t,_,_=>t
 | f+1,.leaf,k,x =>
  if k=0 then .node x .leaf .leaf
  else if k % 2=1 then .node none (Trie.YU f .leaf (k / 2) x) .leaf
  else .node none .leaf (Trie.YU f .leaf (k / 2 - 1) x)
 | f+1,.node v l r,k,x =>
  if k=0 then .node x l r
  else if k % 2=1 then .node v (Trie.YU f l (k / 2) x) r
  else .node v l (Trie.YU f r (k / 2 - 1) x)
def Trie.set {α:Type} (t:Trie α) (k:Nat) (x:Option α):Trie α:=Trie.YU (k+1) t k x
theorem Trie.qfB {α:Type} (x:Option α):∀ (f:Nat) (t:Trie α) (k j:Nat),k<f ->
  (Trie.YU f t k x).get j=if j=k then x else t.get j:=by
 intro f
 induction f with
 | zero=>intro t k j h; omega
 | succ f ih =>
  intro t k j h;cases t with
  | leaf =>
   simp only [Trie.YU];by_cases hk:k=0
   ·subst hk;simp only [if_true,Trie.get];by_cases hj:j=0<;>simp [hj]
   ·rw [if_neg hk];by_cases hp:k % 2=1
    ·rw [if_pos hp];simp only [Trie.get];by_cases hj:j=0
     ·rw [if_pos hj,if_neg (by omega)]
     ·rw [if_neg hj];by_cases hq:j % 2=1
      ·rw [if_pos hq,ih _ _ _ (by omega)];by_cases e:j=k
       ·subst e; simp
       ·rw [if_neg (by omega),if_neg e]; rfl
      ·rw [if_neg hq,if_neg (by omega)]
    ·rw [if_neg hp];simp only [Trie.get];by_cases hj:j=0
     ·rw [if_pos hj,if_neg (by omega)]
     ·rw [if_neg hj];by_cases hq:j % 2=1
      ·rw [if_pos hq,if_neg (by omega)]
      ·rw [if_neg hq,ih _ _ _ (by omega)];by_cases e:j=k
       ·subst e; simp
       ·rw [if_neg (by omega),if_neg e]; rfl
  | node v l r =>
   simp only [Trie.YU];by_cases hk:k=0
   ·subst hk;simp only [if_true,Trie.get];by_cases hj:j=0
    ·simp [hj]
    ·simp [hj]
   ·rw [if_neg hk];by_cases hp:k % 2=1
    ·rw [if_pos hp];simp only [Trie.get];by_cases hj:j=0
     ·rw [if_pos hj,if_neg (by omega),if_pos hj]
     ·rw [if_neg hj,if_neg hj];by_cases hq:j % 2=1
      ·rw [if_pos hq,if_pos hq,ih _ _ _ (by omega)];by_cases e:j=k
       ·subst e; simp
       ·rw [if_neg (by omega),if_neg e]
      ·rw [if_neg hq,if_neg hq,if_neg (by omega)]
    ·rw [if_neg hp];simp only [Trie.get];by_cases hj:j=0
     ·rw [if_pos hj,if_neg (by omega),if_pos hj]
     ·rw [if_neg hj,if_neg hj];by_cases hq:j % 2=1
      ·rw [if_pos hq,if_pos hq,if_neg (by omega)]
      ·rw [if_neg hq,if_neg hq,ih _ _ _ (by omega)];by_cases e:j=k
       ·subst e; simp
       ·rw [if_neg (by omega),if_neg e]
theorem Trie.WE {α:Type} (t:Trie α) (k j:Nat) (x:Option α):(t.set k x).get j=if j=k then x else t.get j :=
 Trie.qfB x (k+1) t k j (by omega)
inductive GKind where
 | tab (c:List Value)
 | err
 | num
def GKind.Ok:GKind->Array Value->Prop
 | .tab c,C=>C=c.toArray
 | .err,C=>∃ v,C[0]? = some v/\(v=.nilIface∨∃ t p,v=.iface t p)
 | .num,C=>∃ n,C[0]? = some (.int .i64 n)
inductive AObj where
 | cells (c:List Value) (elem:TypeId)
 | map (es:List MapEntry) (clock:Nat)
 | siter (s:ByteArray) (pos:Nat)
 | glob (g:Nat) (k:GKind)
 | loopR (ts:List Value) (ps:List Nat) (a b:Code) (st:LoopState) (pend:Option Code)
 | deferR
 | sects (n:Nat) (t:Trie (List UInt8)) (e:TypeId)
def qeH (t:Trie (List UInt8)) (i:Nat):List UInt8:=(t.get i).getD (List.replicate 64 0)
structure ABlk where
 obj:AObj
 ro:Bool
 loose:Option Nat
structure Mem where
 next:Nat
 t:Trie ABlk
def Mem.get (m:Mem) (b:Nat):Option ABlk:=m.t.get b
def Mem.put (m:Mem) (b:Nat) (x:ABlk):Mem:={ m with t:=m.t.set b (some x) }
def Mem.kill (m:Mem) (b:Nat):Mem:={ m with t:=m.t.set b none }
def Mem.zu (m:Mem) (n:Nat):Mem:={ m with next:=m.next+n }
def Mem.add (m:Mem) (x:ABlk):Mem:={ next:=m.next+1,t:=m.t.set m.next (some x) }
theorem Mem.zi (m:Mem) (b c:Nat) (x:ABlk):(m.put b x).get c=if c=b then some x else m.get c:=Trie.WE ..
theorem Mem.xW (m:Mem) (b c:Nat):(m.kill b).get c=if c=b then none else m.get c:=Trie.WE ..
theorem Mem.zw (m:Mem) (c:Nat) (x:ABlk):(m.add x).get c=if c=m.next then some x else m.get c:=Trie.WE ..
@[simp] theorem Mem.qkx (m:Mem) (n:Nat):(m.zu n).next=m.next+n:=rfl
@[simp] theorem Mem.qkJ (m:Mem) (b:Nat) (x:ABlk):(m.put b x).next=m.next:=rfl
@[simp] theorem Mem.xY (m:Mem) (b:Nat):(m.kill b).next=m.next:=rfl
@[simp] theorem Mem.QQ (m:Mem) (x:ABlk):(m.add x).next=m.next+1:=rfl
structure Loc where
 blk:Nat
 base:Nat
 loose:Option Nat
 size:Nat
abbrev Ren:=Nat->Option Loc
def Ren.le (φ ψ:Ren):Prop:=∀ b l,φ b=some l->ψ b=some l
theorem Ren.le_refl (φ:Ren):Ren.le φ φ:=λ_ _ h=>h
theorem Ren.le_trans {φ ψ χ:Ren} (h:Ren.le φ ψ) (h':Ren.le ψ χ):Ren.le φ χ:=λb l e=>h' b l (h b l e)
inductive VR (φ:Ren):Value->Value->Prop where
 | bool (b:Bool):VR φ (.bool b) (.bool b)
 | int (k:IntKind) (n:Int):VR φ (.int k n) (.int k n)
 | string (s:ByteArray):VR φ (.string s) (.string s)
 | ptrNil:VR φ (.pointer none) (.pointer none)
 | ptr (b off:Nat) (l:Loc) (h:φ b=some l):VR φ (.pointer (some ⟨b,off,none⟩)) (.pointer (some ⟨l.blk,l.base+off,none⟩))
 | sliceNil:VR φ (.slice none 0 0) (.slice none 0 0)
 | sliceEx (b off len cap:Nat) (l:Loc) (h:φ b=some l) (hl:l.loose=none) :
   VR φ (.slice (some ⟨b,off,none⟩) len cap) (.slice (some ⟨l.blk,l.base+off,none⟩) len cap)
 | sliceLoose (b off len cap off' cap' s:Nat) (l:Loc) (h:φ b=some l) (hl:l.loose=some s) (hoff:cap≠0->off'=l.base+off) (hlen:len<=cap) (hcap:cap<=cap')
   (hroom:off'+cap' * s<=l.size):VR φ (.slice (some ⟨b,off,none⟩) len cap) (.slice (some ⟨l.blk,off',none⟩) len cap')
 | sliceZero (b off:Nat) (A:Addr):VR φ (.slice (some ⟨b,off,none⟩) 0 0) (.slice (some A) 0 0)
 | mapNil:VR φ (.map none) (.map none)
 | map (b:Nat) (l:Loc) (h:φ b=some l):VR φ (.map (some b)) (.map (some l.blk))
 | nilFunc:VR φ .nilFunc .nilFunc
 | nilIface:VR φ .nilIface .nilIface
 | iface (t:TypeId) (v v':Value) (h:VR φ v v'):VR φ (.iface t v) (.iface t v')
 | qdH (n:Int):VR φ (.chan (some 0)) (.int .u8 n)
 | func (f:FuncId) (us vs xs ys:Array Value) (hu:us.size=vs.size) (hus:∀ (i:Nat) (x y:Value),us[i]? = some x->vs[i]? = some y->VR φ x y) (h:xs.size=ys.size) (hs:∀ (i:Nat) (x y:Value),xs[i]? = some x->ys[i]? = some y->VR φ x y) :
   VR φ (.func (.func f) us xs) (.func (.func f) vs ys)
 | yield (N:Nat) (l:Loc) (h:φ N=some l):VR φ (.func (.yield N) #[] #[]) (.func (.yield l.blk) #[] #[])
 | agg (xs ys:Array Value) (h:xs.size=ys.size) (hs:∀ (i:Nat) (x y:Value),xs[i]? = some x->ys[i]? = some y->VR φ x y):VR φ (.agg xs) (.agg ys)
 | tuple (xs ys:Array Value) (h:xs.size=ys.size) (hs:∀ (i:Nat) (x y:Value),xs[i]? = some x->ys[i]? = some y->VR φ x y):VR φ (.tuple xs) (.tuple ys)
theorem VR.mono {φ ψ:Ren} (hle:Ren.le φ ψ) {v v':Value} (h:VR φ v v'):VR ψ v v':=by
 induction h with
 | bool b=>exact .bool b
 | int k n=>exact .int k n
 | string s=>exact .string s
 | ptrNil=>exact .ptrNil
 | ptr b off l h=>exact .ptr b off l (hle _ _ h)
 | sliceNil=>exact .sliceNil
 | sliceEx b off len cap l h hl=>exact .sliceEx b off len cap l (hle _ _ h) hl
 | sliceLoose b off len cap off' cap' s l h hl hoff hlen hcap hroom=>exact .sliceLoose b off len cap off' cap' s l (hle _ _ h) hl hoff hlen hcap hroom
 | sliceZero b off A=>exact .sliceZero b off A
 | mapNil=>exact .mapNil
 | map b l h=>exact .map b l (hle _ _ h)
 | nilFunc=>exact .nilFunc
 | nilIface=>exact .nilIface
 | iface t v v' _ ih=>exact .iface t v v' ih
 | qdH n=>exact .qdH n
 | func f us vs xs ys hu _ h _ ihu ih=>exact .func f us vs xs ys hu ihu h ih
 | yield N l h=>exact .yield N l (hle _ _ h)
 | agg xs ys h _ ih=>exact .agg xs ys h ih
 | tuple xs ys h _ ih=>exact .tuple xs ys h ih
def VRs (φ:Ren) (xs ys:List Value):Prop:=xs.length=ys.length/\∀ (i:Nat) (x y:Value),xs[i]? = some x->ys[i]? = some y->VR φ x y
theorem VRs.mono {φ ψ:Ren} (hle:Ren.le φ ψ) {xs ys:List Value} (h:VRs φ xs ys):VRs ψ xs ys:=⟨h.1,λi x y hx hy=>(h.2 i x y hx hy).mono hle⟩
theorem VRs.nil (φ:Ren):VRs φ [] []:=⟨rfl,λi x y h=>by simp at h⟩
theorem VRs.cons {φ:Ren} {x y:Value} {xs ys:List Value} (h:VR φ x y) (hs:VRs φ xs ys):VRs φ (x::xs) (y::ys):=by
 refine ⟨by simp [hs.1],λi a b ha hb=>?_⟩;cases i with
 | zero=>simp at ha hb; subst ha; subst hb; exact h
 | succ i=>exact hs.2 i a b (by simpa using ha) (by simpa using hb)
theorem VRs.get {φ:Ren} {xs ys:List Value} (h:VRs φ xs ys) {i:Nat} {x:Value} (hx:xs[i]? = some x):∃ y,ys[i]? = some y/\VR φ x y:=by
 have hi:i<xs.length:=by
  rcases Nat.lt_or_ge i xs.length with h'|h'
  ·exact h'
  ·rw [List.getElem?_eq_none h'] at hx; cases hx
 have hi':i<ys.length:=h.1 ▸ hi;exact ⟨ys[i],List.getElem?_eq_getElem hi',h.2 i x _ hx (List.getElem?_eq_getElem hi')⟩
theorem VRs.append {φ:Ren} {xs ys xs' ys':List Value} (h:VRs φ xs ys) (h':VRs φ xs' ys'):VRs φ (xs++xs') (ys++ys'):=by
 refine ⟨by simp [h.1,h'.1],λi a b ha hb=>?_⟩;by_cases hi:i<xs.length
 ·rw [List.getElem?_append_left hi] at ha;rw [List.getElem?_append_left (h.1 ▸ hi)] at hb;exact h.2 i a b ha hb
 ·rw [List.getElem?_append_right (by omega)] at ha;rw [List.getElem?_append_right (by rw [<- h.1]; omega),<- h.1] at hb;exact h'.2 _ a b ha hb
theorem VRs.set {φ:Ren} {xs ys:List Value} {x y:Value} (h:VRs φ xs ys) (hv:VR φ x y) (i:Nat):VRs φ (xs.set i x) (ys.set i y):=by
 refine ⟨by simp [h.1],λj a b ha hb=>?_⟩;rw [List.getElem?_set] at ha hb;by_cases e:i=j
 ·subst e;by_cases hi:i<xs.length
  ·rw [if_pos rfl,if_pos hi] at ha;rw [if_pos rfl,if_pos (h.1 ▸ hi)] at hb;cases ha; cases hb; exact hv
  ·rw [if_pos rfl,if_neg hi] at ha; cases ha
 ·rw [if_neg e] at ha hb;exact h.2 j a b ha hb
theorem VRs.of_array {φ:Ren} {xs ys:Array Value} (h:xs.size=ys.size) (hs:∀ (i:Nat) (x y:Value),xs[i]? = some x->ys[i]? = some y->VR φ x y):VRs φ xs.toList ys.toList :=
 ⟨by simpa using h,λi x y hx hy=>hs i x y (by simpa using hx) (by simpa using hy)⟩
theorem VRs.agg {φ:Ren} {xs ys:List Value} (h:VRs φ xs ys):VR φ (.agg xs.toArray) (.agg ys.toArray) :=
 .agg _ _ (by simpa using h.1) λi x y hx hy=>h.2 i x y (by simpa using hx) (by simpa using hy)
theorem VRs.tuple {φ:Ren} {xs ys:List Value} (h:VRs φ xs ys):VR φ (.tuple xs.toArray) (.tuple ys.toArray) :=
 .tuple _ _ (by simpa using h.1) λi x y hx hy=>h.2 i x y (by simpa using hx) (by simpa using hy)
theorem VR.cells {φ:Ren} {v v':Value} (h:VR φ v v'):VRs φ v.cells.toList v'.cells.toList:=by
 cases h with
 | agg xs ys h hs=>exact VRs.of_array h hs
 | _ =>
  first
   | exact VRs.cons (by constructor<;>assumption) (VRs.nil _)
   | exact VRs.cons (by assumption) (VRs.nil _)
   | (refine VRs.cons ?_ (VRs.nil _); first|constructor|exact .ptr _ _ _ ‹_›|exact .map _ _ ‹_›)
def EsR (φ:Ren) (es ES:List MapEntry):Prop :=
 es.length=ES.length/\∀ (i:Nat) (x y:MapEntry),es[i]? = some x->ES[i]? = some y->x.key=y.key/\x.born=y.born/\VR φ x.val y.val
def qkr (n:Nat) (fz:Nat × Nat):Prop:=∀ i,i<n->¬ (fz.1<=i/\i<fz.2)
def kq (φ:Ren) (w:World) (x:ABlk) (l:Loc):Prop :=
 (l.loose=x.loose/\(x.ro=false->x.loose=none->l.base=0))/\match x.obj with
  | .cells c e=>∃ C e' fz,w.heap[l.blk]? = some (.cells C e' fz)/\(∀ (i:Nat) (v:Value),c[i]? = some v->∃ V,C[l.base+i]? = some V/\VR φ v V) /\
    (x.ro=false->qkr C.size fz)/\(x.ro=false->x.loose≠some 1->fz=(0,0))/\(∀ s,x.loose=some s->C.size=l.size)/\(x.ro=false->e'=e)
  | .map es clock=>∃ ES,w.heap[l.blk]? = some (.map ES clock)/\EsR φ es ES.toList
  | .siter s pos=>w.heap[l.blk]? = some (.stringIter s pos)
  | .glob g k=>l.blk=g/\∃ C e' fz,w.heap[l.blk]? = some (.cells C e' fz)/\k.Ok C
  | .loopR ts ps a b st pend=>∃ r:Loop,w.heap[l.blk]? = some (.loop r)/\r.state=st/\r.pending=pend/\r.params.toList=ps/\r.assign=a/\r.body=b/\VRs φ ts r.tmps.toList
  | .deferR=>w.heap[l.blk]? = some (.deferred (some []))
  | .sects n t e=>∃ C,w.heap[l.blk]? = some (.cells C e (0,0))/\∀ i,i<n->(qeH t i).length=64/\∀ (j:Nat) (b:UInt8),(qeH t i)[j]? = some b->C[i * 64+j]? = some (.int .u8 b.toNat)
structure Inv (φ:Ren) (m:Mem) (w:World):Prop where
 live:∀ b x,m.get b=some x->∃ l,φ b=some l/\kq φ w x l
 apart:∀ b c x y l k,m.get b=some x->m.get c=some y->φ b=some l->φ c=some k->x.ro=false->b≠c->l.blk≠k.blk
 below:∀ b l,φ b=some l->b<m.next/\l.blk<w.heap.size
structure Frm (φ:Ren) (m:Mem) (w:World) (φ':Ren) (m':Mem) (w':World):Prop where
 ren:Ren.le φ φ'
 size:w.heap.size<=w'.heap.size
 same:∀ B,B<w.heap.size->(∀ b x l,m.get b=some x->φ b=some l->x.ro=false->l.blk≠B)->w'.heap[B]? = w.heap[B]?
 own:∀ b x l,m'.get b=some x->φ' b=some l->x.ro=false->w.heap.size<=l.blk∨∃ c y k,m.get c=some y/\φ c=some k/\y.ro=false/\k.blk=l.blk
 os:w'.os=w.os
 output:w'.output=w.output
 tape:w'.tape=w.tape
 nxt:m.next<=m'.next
 old:∀ b,b<m.next->φ' b=φ b
 dead:∀ b,b<m.next->m.get b=none->m'.get b=none
 all:∀ b x l,m'.get b=some x->φ' b=some l->w.heap.size<=l.blk∨∃ c y k,m.get c=some y/\φ c=some k/\k.blk=l.blk
theorem Frm.refl (φ:Ren) (m:Mem) (w:World):Frm φ m w φ m w :=
 ⟨Ren.le_refl φ,Nat.le_refl _,λ_ _ _=>rfl,λb x l h h' h''=>.inr ⟨b,x,l,h,h',h'',rfl⟩,rfl,rfl,rfl,Nat.le_refl _,λ_ _=>rfl,λ_ _ h=>h,λb x l h h'=>.inr ⟨b,x,l,h,h',rfl⟩⟩
theorem Frm.trans {φ φ' φ'':Ren} {m m' m'':Mem} {w w' w'':World} (h:Frm φ m w φ' m' w') (h':Frm φ' m' w' φ'' m'' w''):Frm φ m w φ'' m'' w'':=by
 refine ⟨Ren.le_trans h.ren h'.ren,Nat.le_trans h.size h'.size,λB hB hno=>?_,λb x l hb hl hr=>?_,h'.os.trans h.os,h'.output.trans h.output,h'.tape.trans h.tape,Nat.le_trans h.nxt h'.nxt,λb hb=>(h'.old b (Nat.lt_of_lt_of_le hb h.nxt)).trans (h.old b hb),λb hb hn=>h'.dead b (Nat.lt_of_lt_of_le hb h.nxt) (h.dead b hb hn),λb x l hb hl=>?_⟩
 ·rw [h'.same B (Nat.lt_of_lt_of_le hB h.size) ?_,h.same B hB hno];intro b x l hb hl hr e;rcases h.own b x l hb hl hr with hge|⟨c,y,k,hc,hk,hy,e'⟩
  ·omega
  ·exact hno c y k hc hk hy (e'.trans e)
 ·rcases h'.own b x l hb hl hr with hge|⟨c,y,k,hc,hk,hy,e⟩
  ·exact .inl (Nat.le_trans h.size hge)
  ·rcases h.own c y k hc hk hy with hge|⟨d,z,j,hd,hj,hz,e'⟩
   ·exact .inl (e ▸ hge)
   ·exact .inr ⟨d,z,j,hd,hj,hz,e'.trans e⟩
 ·rcases h'.all b x l hb hl with hge|⟨c,y,k,hc,hk,e⟩
  ·exact .inl (Nat.le_trans h.size hge)
  ·rcases h.all c y k hc hk with hge|⟨d,z,j,hd,hj,e'⟩
   ·exact .inl (e ▸ hge)
   ·exact .inr ⟨d,z,j,hd,hj,e'.trans e⟩
end Go.Fx
namespace Go.Fx
open Go
theorem jd (w:World) (a:Addr) (v:Value) (B:Nat) (hB:B≠a.block):(w.setCell a v).heap[B]? = w.heap[B]?:=by
 simp only [World.setCell,Array.getElem?_modify];rw [if_neg (λh=>hB h.symm)]
theorem heap_setCell (w:World) (b i:Nat) (v:Value) {C:Array Value} {e:TypeId} {fz:Nat × Nat} (h:w.heap[b]? = some (.cells C e fz)) :
  (w.setCell ⟨b,i,none⟩ v).heap[b]? = some (.cells (C.setIfInBounds i v) e fz):=by
 simp only [World.setCell,Array.getElem?_modify];simp [h]
theorem size_setCell (w:World) (a:Addr) (v:Value):(w.setCell a v).heap.size=w.heap.size:=by simp [World.setCell]
theorem kM {w:World} {b i:Nat} {C:Array Value} {e:TypeId} {fz:Nat × Nat} (h:w.heap[b]? = some (.cells C e fz)):w.cell? ⟨b,i,none⟩=C[i]?:=by
 simp [World.cell?,h]
theorem wV {w:World} {b i:Nat} {C:Array Value} {e:TypeId} {fz:Nat × Nat} (h:w.heap[b]? = some (.cells C e fz)) (hw:qkr C.size fz) (hi:i<C.size) :
  w.frozen? ⟨b,i,none⟩=false:=by
 have:=hw i hi;simp only [World.frozen?,h];simpa using this
theorem kq.congr {φ:Ren} {w w':World} {x:ABlk} {l:Loc} (h:kq φ w x l) (e:w'.heap[l.blk]? = w.heap[l.blk]?):kq φ w' x l:=by
 unfold kq at *;rw [e]; exact h
theorem kq.mono {φ ψ:Ren} {w:World} {x:ABlk} {l:Loc} (hle:Ren.le φ ψ) (h:kq φ w x l):kq ψ w x l:=by
 obtain ⟨h1,h2⟩:=h;refine ⟨h1,?_⟩;split at h2
 ·obtain ⟨C,e',fz,h3,h4,h5⟩:=h2;exact ⟨C,e',fz,h3,λi v hv=>let ⟨V,hV,r⟩:=h4 i v hv; ⟨V,hV,r.mono hle⟩,h5⟩
 ·obtain ⟨ES,h3,h4,h5⟩:=h2;exact ⟨ES,h3,h4,λi a b ha hb=>let ⟨k,l,r⟩:=h5 i a b ha hb; ⟨k,l,r.mono hle⟩⟩
 ·exact h2
 ·exact h2
 ·obtain ⟨r,h3,h4,h5,h6,h7,h8,h9⟩:=h2;exact ⟨r,h3,h4,h5,h6,h7,h8,h9.mono hle⟩
 ·exact h2
 ·exact h2
theorem Inv.drawn {φ:Ren} {m:Mem} {w w':World} (h:Inv φ m w) (e:w'.heap=w.heap):Inv φ m w':=by
 refine ⟨λb x hb=>?_,h.apart,λb l hl=>by rw [e]; exact h.below b l hl⟩;obtain ⟨l,hl,ok⟩:=h.live b x hb;exact ⟨l,hl,ok.congr (by rw [e])⟩
theorem Frm.drawn {φ:Ren} {m:Mem} {w w':World} (e:w'.heap=w.heap) (ho:w'.os=w.os) (hu:w'.output=w.output) (ht:w'.tape=w.tape):Frm φ m w φ m w' :=
 ⟨Ren.le_refl φ,by rw [e]; exact Nat.le_refl _,λB _ _=>by rw [e],λb x l h h' h''=>.inr ⟨b,x,l,h,h',h'',rfl⟩,ho,hu,ht,Nat.le_refl _,λ_ _=>rfl,λ_ _ h=>h,λb x l h h'=>.inr ⟨b,x,l,h,h',rfl⟩⟩
theorem Inv.jm {φ:Ren} {m:Mem} {w:World} (h:Inv φ m w) {b:Nat} {l:Loc} (hl:φ b=some l):l.blk<w.heap.size:=(h.below b l hl).2
theorem Inv.push {φ:Ren} {m:Mem} {w:World} (h:Inv φ m w) (o:Obj):Inv φ m { w with heap:=w.heap.push o }:=by
 refine ⟨λb x hb=>?_,h.apart,λb l hl=>?_⟩
 ·obtain ⟨l,hl,ok⟩:=h.live b x hb;refine ⟨l,hl,ok.congr ?_⟩;have:=h.jm hl;rw [Array.getElem?_push_lt this,Array.getElem?_eq_getElem this]
 ·have:=h.below b l hl;simp only [Array.size_push]; omega
theorem Frm.push {φ:Ren} {m:Mem} {w:World} (o:Obj):Frm φ m w φ m { w with heap:=w.heap.push o }:=by
 refine ⟨Ren.le_refl φ,by simp,λB hB _=>?_,λb x l h h' h''=>.inr ⟨b,x,l,h,h',h'',rfl⟩,rfl,rfl,rfl,Nat.le_refl _,λ_ _=>rfl,λ_ _ h=>h,λb x l h h'=>.inr ⟨b,x,l,h,h',rfl⟩⟩;show (w.heap.push o)[B]? = w.heap[B]?;rw [Array.getElem?_push_lt hB,Array.getElem?_eq_getElem hB]
def Ren.set (φ:Ren) (b:Nat) (l:Loc):Ren:=λc=>if c=b then some l else φ c
theorem Inv.fresh {φ:Ren} {m:Mem} {w:World} (h:Inv φ m w):φ m.next=none:=by
 cases e:φ m.next with
 | none=>rfl
 | some l=>have:=(h.below _ l e).1; omega
theorem Inv.qdN {φ:Ren} {m:Mem} {w:World} (h:Inv φ m w):m.get m.next=none:=by
 cases e:m.get m.next with
 | none=>rfl
 | some x =>
  obtain ⟨l,hl,_⟩:=h.live _ x e;rw [h.fresh] at hl; cases hl
theorem Ren.wM {φ:Ren} {b:Nat} {l:Loc} (h:φ b=none):Ren.le φ (φ.set b l):=by
 intro c k hk;unfold Ren.set;by_cases e:c=b
 ·subst e; rw [h] at hk; cases hk
 ·rw [if_neg e]; exact hk
theorem Ren.zB (φ:Ren) (b:Nat) (l:Loc):φ.set b l b=some l:=by simp [Ren.set]
theorem Ren.zk (φ:Ren) {b c:Nat} (l:Loc) (h:c≠b):φ.set b l c=φ c:=by simp [Ren.set,h]
theorem Inv.alloc {φ:Ren} {m:Mem} {w:World} (h:Inv φ m w) (o:Obj) (x:ABlk) (l:Loc) (hb:l.blk=w.heap.size)
  (ok:kq (φ.set m.next l) { w with heap:=w.heap.push o } x l) :
  Inv (φ.set m.next l) (m.add x) { w with heap:=w.heap.push o }/\Frm φ m w (φ.set m.next l) (m.add x) { w with heap:=w.heap.push o }:=by
 have hle:=Ren.wM (l:=l) h.fresh;have hp:=h.push o;refine ⟨⟨λb y hy=>?_,λb c y z k j hy hz hk hj hr hbc=>?_,λb k hk=>?_⟩,⟨hle,by simp,(Frm.push (φ:=φ) (m:=m) o).same,λb y k hy hk hr=>?_,rfl,rfl,rfl,by simp,λb hb=>Ren.zk _ _ (by omega),λb hb hn=>by rw [Mem.zw,if_neg (by omega)]; exact hn,λb y k hy hk=>?_⟩⟩
 ·rw [Mem.zw] at hy;by_cases e:b=m.next
  ·rw [if_pos e] at hy;cases hy
   exact ⟨l,by rw [e]; exact Ren.zB ..,ok⟩
  ·rw [if_neg e] at hy;obtain ⟨k,hk,okk⟩:=hp.live b y hy;exact ⟨k,hle _ _ hk,okk.mono hle⟩
 ·rw [Mem.zw] at hy hz;by_cases e:b=m.next
  ·have ec:c≠m.next:=λh=>hbc (e.trans h.symm)
   rw [if_neg ec] at hz;rw [e,Ren.zB] at hk;rw [Ren.zk _ _ ec] at hj;cases hk
   have:=h.jm hj;omega
  ·rw [if_neg e] at hy;rw [Ren.zk _ _ e] at hk;by_cases ec:c=m.next
   ·rw [ec,Ren.zB] at hj;cases hj
    have:=h.jm hk;omega
   ·rw [if_neg ec] at hz;rw [Ren.zk _ _ ec] at hj;exact h.apart b c y z k j hy hz hk hj hr hbc
 ·simp only [Mem.QQ,Array.size_push];by_cases e:b=m.next
  ·rw [e,Ren.zB] at hk;cases hk
   omega
  ·rw [Ren.zk _ _ e] at hk;have:=h.below b k hk;omega
 ·rw [Mem.zw] at hy;by_cases e:b=m.next
  ·rw [e,Ren.zB] at hk;cases hk
   exact .inl (by omega)
  ·rw [if_neg e] at hy;rw [Ren.zk _ _ e] at hk;exact .inr ⟨b,y,k,hy,hk,hr,rfl⟩
 ·rw [Mem.zw] at hy;by_cases e:b=m.next
  ·rw [e,Ren.zB] at hk;cases hk
   exact .inl (by omega)
  ·rw [if_neg e] at hy;rw [Ren.zk _ _ e] at hk;exact .inr ⟨b,y,k,hy,hk,rfl⟩
theorem Inv.Qt {φ:Ren} {m:Mem} {w:World} (h:Inv φ m w) {c C:List Value} (e:TypeId) (hc:VRs φ c C) :
  ∃ φ',Inv φ' (m.add ⟨.cells c e,false,none⟩) { w with heap:=w.heap.push (.cells C.toArray e) } /\
   Frm φ m w φ' (m.add ⟨.cells c e,false,none⟩) { w with heap:=w.heap.push (.cells C.toArray e) }/\φ' m.next=some ⟨w.heap.size,0,none,0⟩:=by
 refine ⟨φ.set m.next ⟨w.heap.size,0,none,0⟩,?_⟩;have hle:=Ren.wM (l:=⟨w.heap.size,0,none,0⟩) h.fresh;have:=h.alloc (.cells C.toArray e) ⟨.cells c e,false,none⟩ ⟨w.heap.size,0,none,0⟩ rfl ?_
 ·exact ⟨this.1,this.2,Ren.zB ..⟩
 ·refine ⟨⟨rfl,λ_ _=>rfl⟩,C.toArray,e,(0,0),by simp,λi v hv=>?_,λ_ i _ h=>by simp at h,λ_ _=>rfl,λs hs=>(by cases hs),λ_=>rfl⟩
  obtain ⟨V,hV,r⟩:=hc.get hv;exact ⟨V,by simpa using hV,r.mono hle⟩
theorem Inv.wS {φ:Ren} {m:Mem} {w:World} (h:Inv φ m w) {c C:List Value} (R:List Value) (e:TypeId) (s:Nat) (hc:VRs φ c C) :
  ∃ φ',Inv φ' (m.add ⟨.cells c e,false,some s⟩) { w with heap:=w.heap.push (.cells (C++R).toArray e) } /\
   Frm φ m w φ' (m.add ⟨.cells c e,false,some s⟩) { w with heap:=w.heap.push (.cells (C++R).toArray e) }/\φ' m.next=some ⟨w.heap.size,0,some s,(C++R).length⟩:=by
 refine ⟨φ.set m.next ⟨w.heap.size,0,some s,(C++R).length⟩,?_⟩;have hle:=Ren.wM (l:=⟨w.heap.size,0,some s,(C++R).length⟩) h.fresh;have:=h.alloc (.cells (C++R).toArray e) ⟨.cells c e,false,some s⟩ ⟨w.heap.size,0,some s,(C++R).length⟩ rfl ?_
 ·exact ⟨this.1,this.2,Ren.zB ..⟩
 ·refine ⟨⟨rfl,λ_ h=>(by cases h)⟩,(C++R).toArray,e,(0,0),by simp,λi v hv=>?_,λ_ i _ h=>by simp at h,λ_ _=>rfl,λs hs=>(by simp),λ_=>rfl⟩
  obtain ⟨V,hV,r⟩:=hc.get hv;refine ⟨V,?_,r.mono hle⟩;have hi:i<C.length:=by
   rcases Nat.lt_or_ge i C.length with h'|h'
   ·exact h'
   ·rw [List.getElem?_eq_none h'] at hV; cases hV
  simp only [Nat.zero_add,List.getElem?_toArray];rw [List.getElem?_append_left hi]; exact hV
theorem Inv.load {φ:Ren} {m:Mem} {w:World} (h:Inv φ m w) {b off:Nat} {c:List Value} {e:TypeId} {ro:Bool} {lo:Option Nat} {v:Value} {l:Loc}
  (hb:m.get b=some ⟨.cells c e,ro,lo⟩) (hl:φ b=some l) (hv:c[off]? = some v):∃ V,w.cell? ⟨l.blk,l.base+off,none⟩=some V/\VR φ v V:=by
 obtain ⟨k,hk,_,C,e',fz,hh,hc,_⟩:=h.live b _ hb;rw [hl] at hk; cases hk
 obtain ⟨V,hV,r⟩:=hc off v hv;exact ⟨V,by rw [kM hh]; exact hV,r⟩
theorem Inv.frozen {φ:Ren} {m:Mem} {w:World} (h:Inv φ m w) {b off:Nat} {c:List Value} {e:TypeId} {lo:Option Nat} {l:Loc}
  (hb:m.get b=some ⟨.cells c e,false,lo⟩) (hl:φ b=some l) (hv:off<c.length):w.frozen? ⟨l.blk,l.base+off,none⟩=false:=by
 obtain ⟨k,hk,_,C,e',fz,hh,hc,hw,_⟩:=h.live b _ hb;rw [hl] at hk; cases hk
 obtain ⟨V,hV,r⟩:=hc off c[off] (List.getElem?_eq_getElem hv);refine wV hh (hw rfl) ?_;rcases Nat.lt_or_ge (l.base+off) C.size with h'|h'
 ·exact h'
 ·rw [Array.getElem?_eq_none h'] at hV; cases hV
theorem Inv.store {φ:Ren} {m:Mem} {w:World} (h:Inv φ m w) {b off:Nat} {c:List Value} {e:TypeId} {lo:Option Nat} {l:Loc} {v V:Value}
  (hb:m.get b=some ⟨.cells c e,false,lo⟩) (hl:φ b=some l) (hr:VR φ v V) :
  Inv φ (m.put b ⟨.cells (c.set off v) e,false,lo⟩) (w.setCell ⟨l.blk,l.base+off,none⟩ V) /\
   Frm φ m w φ (m.put b ⟨.cells (c.set off v) e,false,lo⟩) (w.setCell ⟨l.blk,l.base+off,none⟩ V):=by
 obtain ⟨k,hk,hloose,C,e',fz,hh,hc,hw,hz,hs,hee⟩:=h.live b _ hb;rw [hl] at hk; cases hk
 refine ⟨⟨λd y hy=>?_,λd f y z k j hy hz hk hj hr hdf=>?_,λd k hk=>by rw [size_setCell]; exact h.below d k hk⟩,⟨Ren.le_refl φ,by rw [size_setCell]; exact Nat.le_refl _,λB hB hno=>?_,λd y k hy hk hr=>?_,rfl,rfl,rfl,Nat.le_refl _,λ_ _=>rfl,λd _ hn=>?_,λd y k hy hk=>?_⟩⟩
 ·rw [Mem.zi] at hy;by_cases ed:d=b
  ·rw [if_pos ed] at hy;cases hy
   subst ed;refine ⟨l,hl,hloose,C.setIfInBounds (l.base+off) V,e',fz,heap_setCell w _ _ _ hh,λi u hu=>?_,λhr=>by rw [Array.size_setIfInBounds]; exact hw hr,hz,(λs h=>by rw [Array.size_setIfInBounds]; exact hs s h),hee⟩;rw [List.getElem?_set] at hu;by_cases ei:off=i
   ·subst ei;rw [if_pos rfl] at hu;by_cases hlt:off<c.length
    ·rw [if_pos hlt] at hu;cases hu
     obtain ⟨U,hU,_⟩:=hc off c[off] (List.getElem?_eq_getElem hlt);have hlt':l.base+off<C.size:=by
      rcases Nat.lt_or_ge (l.base+off) C.size with h'|h'
      ·exact h'
      ·rw [Array.getElem?_eq_none h'] at hU; cases hU
     exact ⟨V,by rw [Array.getElem?_setIfInBounds_self]; simp [hlt'],hr⟩
    ·rw [if_neg hlt] at hu; cases hu
   ·rw [if_neg ei] at hu;obtain ⟨U,hU,r⟩:=hc i u hu;exact ⟨U,by rw [Array.getElem?_setIfInBounds_ne (by omega)]; exact hU,r⟩
  ·rw [if_neg ed] at hy;obtain ⟨k,hk,ok⟩:=h.live d y hy;exact ⟨k,hk,ok.congr (jd _ _ _ _ (λe=>h.apart b d ⟨.cells c _,false,lo⟩ y l k hb hy hl hk rfl (Ne.symm ed) e.symm))⟩
 ·rw [Mem.zi] at hy hz;have g:∀ d (y:ABlk),(if d=b then some ⟨.cells (c.set off v) e,false,lo⟩ else m.get d)=some y->∃ y',m.get d=some y'/\y'.ro=y.ro:=by
   intro d y hy;by_cases ed:d=b
   ·rw [if_pos ed] at hy; cases hy; exact ⟨⟨.cells c e,false,lo⟩,by rw [ed]; exact hb,rfl⟩
   ·rw [if_neg ed] at hy; exact ⟨y,hy,rfl⟩
  obtain ⟨y',hy',ry⟩:=g d y hy;obtain ⟨z',hz',_⟩:=g f z hz;exact h.apart d f y' z' k j hy' hz' hk hj (ry.trans hr) hdf
 ·exact jd _ _ _ _ (λe=>hno b ⟨.cells c _,false,lo⟩ l hb hl rfl e.symm)
 ·rw [Mem.zi] at hy;by_cases ed:d=b
  ·rw [if_pos ed] at hy;rw [ed] at hk;rw [hl] at hk; cases hk
   exact .inr ⟨b,⟨.cells c e,false,lo⟩,l,hb,hl,rfl,rfl⟩
  ·rw [if_neg ed] at hy;exact .inr ⟨d,y,k,hy,hk,hr,rfl⟩
 ·rw [Mem.zi,if_neg (by rintro rfl; rw [hb] at hn; cases hn)]; exact hn
 ·rw [Mem.zi] at hy;by_cases ed:d=b
  ·rw [ed] at hk;exact .inr ⟨b,⟨.cells c e,false,lo⟩,k,hb,hk,rfl⟩
  ·rw [if_neg ed] at hy;exact .inr ⟨d,y,k,hy,hk,rfl⟩
theorem Inv.kill {φ:Ren} {m:Mem} {w:World} (h:Inv φ m w) (b:Nat):Inv φ (m.kill b) w/\Frm φ m w φ (m.kill b) w:=by
 have g:∀ d (y:ABlk),(m.kill b).get d=some y->m.get d=some y:=by
  intro d y hy;rw [Mem.xW] at hy;by_cases ed:d=b
  ·rw [if_pos ed] at hy; cases hy
  ·rwa [if_neg ed] at hy
 exact ⟨⟨λd y hy=>h.live d y (g d y hy),λd f y z k j hy hz=>h.apart d f y z k j (g d y hy) (g f z hz),h.below⟩,
  ⟨Ren.le_refl φ,Nat.le_refl _,λ_ _ _=>rfl,λd y k hy hk hr=>.inr ⟨d,y,k,g d y hy,hk,hr,rfl⟩,rfl,rfl,rfl,Nat.le_refl _,λ_ _=>rfl,λd _ hn=>by rw [Mem.xW]; split<;>first|rfl|exact hn,λd y k hy hk=>.inr ⟨d,y,k,g d y hy,hk,rfl⟩⟩⟩
theorem Inv.ext {φ:Ren} {m m':Mem} {w:World} (hg:∀ b,m'.get b=m.get b) (hn:m'.next=m.next) (h:Inv φ m w):Inv φ m' w :=
 ⟨λb x hb=>h.live b x (by rw [<- hg]; exact hb),λb c x y l k hb hc=>h.apart b c x y l k (by rw [<- hg]; exact hb) (by rw [<- hg]; exact hc),λb l hl=>by rw [hn]; exact h.below b l hl⟩
theorem Frm.ext {φ φ':Ren} {m m' m'':Mem} {w w':World} (hg:∀ b,m''.get b=m'.get b) (hn:m''.next=m'.next) (h:Frm φ m w φ' m' w'):Frm φ m w φ' m'' w' :=
 ⟨h.ren,h.size,h.same,λb x l hb=>h.own b x l (by rw [<- hg]; exact hb),h.os,h.output,h.tape,by rw [hn]; exact h.nxt,h.old,λb hb hd=>by rw [hg]; exact h.dead b hb hd,λb x l hb=>h.all b x l (by rw [<- hg]; exact hb)⟩
def QG:List Value->List Value->List Value
 | [],c=>c
 | _::_,[]=>[]
 | v::vs,_::c=>v::QG vs c
def qQ:List Value->Nat->List Value->List Value
 | c,0,vs=>QG vs c
 | [],_+1,_=>[]
 | x::c,o+1,vs=>x::qQ c o vs
theorem xm:∀ (c:List Value) (o:Nat),qQ c o []=c
 | c,0=>by simp only [qQ,QG]
 | [],_+1=>rfl
 | x::c,o+1=>by simp only [qQ]; rw [xm c o]
theorem zY:∀ (c:List Value) (o:Nat) (v:Value) (r:List Value),qQ c o (v::r)=qQ (c.set o v) (o+1) r
 | [],0,v,r=>by simp [qQ,QG]
 | x::c,0,v,r=>by simp [qQ,QG]
 | [],o+1,v,r=>by simp [qQ]
 | x::c,o+1,v,r=>by
  rw [List.set_cons_succ];simp only [qQ];rw [zY c o v r]
theorem XB (vs:List Value):∀ (c:List Value) (o:Nat),(qQ c o vs).length=c.length:=by
 induction vs with
 | nil=>intro c o; rw [xm]
 | cons v r ih=>intro c o; simp [zY,ih]
theorem vP (vs:List Value):∀ (c:List Value) (o j:Nat),o+vs.length<=c.length ->
  (qQ c o vs)[j]? = if o<=j/\j<o+vs.length then vs[j - o]? else c[j]?:=by
 induction vs with
 | nil=>intro c o j _; rw [if_neg (by simp only [List.length_nil]; omega),xm]
 | cons v r ih =>
  intro c o j h;simp only [lnI] at h;rw [zY];rw [ih _ _ _ (by rw [List.length_set]; omega)];by_cases h1:o+1<=j/\j<o+1+r.length
  ·rw [if_pos h1,if_pos (by simp only [lnI]; omega)];obtain ⟨d,rfl⟩:∃ d,j=o+1+d:=⟨j - (o+1),by omega⟩;rw [show o+1+d - (o+1)=d by omega,show o+1+d - o=d+1 by omega];simp
  ·rw [if_neg h1];by_cases h2:j=o
   ·subst h2;rw [if_pos (by simp only [lnI]; omega),List.getElem?_set_self (by omega)];simp
   ·rw [if_neg (by simp only [lnI]; omega),List.getElem?_set_ne (by omega)]
theorem jq (b o n:Nat):Addr.add ⟨b,o,none⟩ n=⟨b,o+n,none⟩:=by
 unfold Addr.add;by_cases h:n=0
 ·subst h; simp
 ·simp [h]
theorem VR.one {φ:Ren} {v V:Value} (h:VR φ v V):V.oneCell'=v.oneCell':=by cases h<;>rfl
theorem Inv.storeCells {φ:Ren} {P:Program} {b:Nat} {l:Loc} {e:TypeId} {lo:Option Nat} (hl:φ b=some l) (o:Nat):∀ (vs Vs:List Value) (i:Nat) (c:List Value) (m:Mem) (w:World),Inv φ m w ->
  m.get b=some ⟨.cells c e,false,lo⟩->VRs φ vs Vs->(∀ v∈vs,v.oneCell'=true)->o+i+vs.length<=c.length ->
  ∃ w',(Go.storeCells ⟨l.blk,l.base+o,none⟩ Vs i).run P w=.ok () w'/\Inv φ (m.put b ⟨.cells (qQ c (o+i) vs) e,false,lo⟩) w'/\Frm φ m w φ (m.put b ⟨.cells (qQ c (o+i) vs) e,false,lo⟩) w':=by
 intro vs
 induction vs with
 | nil =>
  intro Vs i c m w h hb hr h1 hlen;have hV:Vs=[]:=by have:=hr.1; simpa using this.symm
  subst hV;have hg:∀ d,(m.put b ⟨.cells (qQ c (o+i) []) e,false,lo⟩).get d=m.get d:=by
   intro d; rw [Mem.zi]; by_cases ed:d=b
   ·rw [if_pos ed,ed,hb,xm]
   ·rw [if_neg ed]
  exact ⟨w,by simp [Go.storeCells],h.ext hg rfl,(Frm.refl φ m w).ext hg rfl⟩
 | cons v r ih =>
  intro Vs i c m w h hb hr h1 hlen;simp only [lnI] at hlen;cases Vs with
  | nil=>have:=hr.1; simp at this
  | cons V R =>
   have hv:VR φ v V:=hr.2 0 v V rfl rfl;have hR:VRs φ r R:=⟨by have:=hr.1; simpa using this,λj x y hx hy=>hr.2 (j+1) x y (by simpa using hx) (by simpa using hy)⟩;have hcell:∃ U,c[o+i]? = some U:=⟨c[o+i]'(by omega),List.getElem?_eq_getElem (by omega)⟩;obtain ⟨U,hU⟩:=hcell;obtain ⟨U',hU',_⟩:=h.load hb hl hU;have hf:=h.frozen (off:=o+i) hb hl (by omega);obtain ⟨h2,f2⟩:=h.store (off:=o+i) hb hl hv;obtain ⟨w',hrun,h3,f3⟩:=ih R (i+1) (c.set (o+i) v) _ _ h2 (by rw [Mem.zi,if_pos rfl]) hR (λx hx=>h1 x (List.mem_cons_of_mem _ hx)) (by rw [List.length_set]; omega);have hg:∀ d,(m.put b ⟨.cells (qQ c (o+i) (v::r)) e,false,lo⟩).get d =
     ((m.put b ⟨.cells (c.set (o+i) v) e,false,lo⟩).put b ⟨.cells (qQ (c.set (o+i) v) (o+(i+1)) r) e,false,lo⟩).get d:=by
    intro d; rw [Mem.zi,Mem.zi,Mem.zi];by_cases ed:d=b
    ·rw [if_pos ed,if_pos ed,zY]; rfl
    ·rw [if_neg ed,if_neg ed,if_neg ed]
   refine ⟨w',?_,h3.ext hg rfl,(f2.trans f3).ext hg rfl⟩;rw [show l.base+(o+i)=l.base+o+i by omega] at hU' hf hrun;simp only [Go.storeCells,Sem.run_bind,jq];rw [run_store _ _ _ _ _ (by rw [hv.one]; exact h1 v (List.mem_cons_self ..)),hU',hf];simpa using hrun
theorem Inv.loadCellsFrom {φ:Ren} {P:Program} {m:Mem} {w:World} (h:Inv φ m w) {b:Nat} {c:List Value} {e:TypeId} {ro:Bool} {lo:Option Nat} {l:Loc}
  (hb:m.get b=some ⟨.cells c e,ro,lo⟩) (hl:φ b=some l) (o:Nat):∀ (n i:Nat) (acc:Array Value),o+i+n<=c.length ->
  ∃ Vs,(Go.loadCellsFrom ⟨l.blk,l.base+o,none⟩ i n acc).run P w=.ok (acc++Vs.toArray) w/\VRs φ ((c.drop (o+i)).take n) Vs:=by
 intro n
 induction n with
 | zero=>intro i acc _; exact ⟨[],by simp [Go.loadCellsFrom],by simpa using VRs.nil φ⟩
 | succ n ih =>
  intro i acc hlen;have hU:c[o+i]? = some (c[o+i]'(by omega)):=List.getElem?_eq_getElem (by omega);obtain ⟨V,hV,hr⟩:=h.load hb hl hU;obtain ⟨Vs,hrun,hrs⟩:=ih (i+1) (acc.push V) (by omega);refine ⟨V::Vs,?_,?_⟩
  ·rw [show l.base+(o+i)=l.base+o+i by omega] at hV;simp only [Go.loadCellsFrom,Sem.run_bind,jq,run_load,hV,Result.andThen_ok];rw [hrun];simp
  ·rw [List.drop_eq_getElem_cons (show o+i<c.length by omega),List.take_succ_cons];exact VRs.cons hr hrs
theorem Inv.loadCells {φ:Ren} {P:Program} {m:Mem} {w:World} (h:Inv φ m w) {b:Nat} {c:List Value} {e:TypeId} {ro:Bool} {lo:Option Nat} {l:Loc}
  (hb:m.get b=some ⟨.cells c e,ro,lo⟩) (hl:φ b=some l) (o n:Nat) (hlen:o+n<=c.length) :
  ∃ Vs,(Go.loadCells ⟨l.blk,l.base+o,none⟩ n).run P w=.ok Vs.toArray w/\VRs φ ((c.drop o).take n) Vs:=by
 obtain ⟨Vs,hr,hs⟩:=h.loadCellsFrom (P:=P) hb hl o n 0 #[] (by omega);exact ⟨Vs,by simpa [Go.loadCells] using hr,by simpa using hs⟩
end Go.Fx
namespace Go.Fx
open Go
theorem Jz {P:Program} {B:Nat} {e:TypeId} {fz:Nat × Nat}:∀ (vs:List Value) (o i:Nat) (C:Array Value) (w:World),w.heap[B]? = some (.cells C e fz)->qkr C.size fz ->
  (∀ v∈vs,v.oneCell'=true)->o+i+vs.length<=C.size ->
  ∃ w' C',(Go.storeCells ⟨B,o,none⟩ vs i).run P w=.ok () w'/\w'.heap[B]? = some (.cells C' e fz)/\C'.size=C.size /\
   (∀ j,C'[j]? = if o+i<=j/\j<o+i+vs.length then vs[j - (o+i)]? else C[j]?)/\(∀ D,D≠B->w'.heap[D]? = w.heap[D]?)/\w'.heap.size=w.heap.size /\
   w'.os=w.os/\w'.output=w.output/\w'.tape=w.tape:=by
 intro vs
 induction vs with
 | nil =>
  intro o i C w h _ _ _;exact ⟨w,C,by simp [Go.storeCells],h,rfl,λj=>by rw [if_neg (by simp only [List.length_nil]; omega)],λ_ _=>rfl,rfl,rfl,rfl,rfl⟩
 | cons v r ih =>
  intro o i C w h hw h1 hlen;simp only [lnI] at hlen;have hcell:w.cell? ⟨B,o+i,none⟩=some (C[o+i]'(by omega)):=by rw [kM h]; exact Array.getElem?_eq_getElem (by omega)
  have hf:=wV h hw (i:=o+i) (by omega);have h2:=heap_setCell w B (o+i) v h;obtain ⟨w',C',hrun,hh,hs,hc,ho,hz,q1,q2,q3⟩:=ih o (i+1) (C.setIfInBounds (o+i) v) _ h2 (by rw [Array.size_setIfInBounds]; exact hw) (λx hx=>h1 x (List.mem_cons_of_mem _ hx)) (by rw [Array.size_setIfInBounds]; omega);refine ⟨w',C',?_,hh,by rw [hs,Array.size_setIfInBounds],λj=>?_,λD hD=>by rw [ho D hD,jd _ _ _ _ hD],by rw [hz,size_setCell],by rw [q1]; rfl,by rw [q2]; rfl,by rw [q3]; rfl⟩
  ·simp only [Go.storeCells,Sem.run_bind,jq];rw [run_store _ _ _ _ _ (h1 v (List.mem_cons_self ..)),hcell,hf];simpa using hrun
  ·rw [hc j];by_cases g1:o+(i+1)<=j/\j<o+(i+1)+r.length
   ·rw [if_pos g1,if_pos (by simp only [lnI]; omega)];obtain ⟨d,rfl⟩:∃ d,j=o+(i+1)+d:=⟨j - (o+(i+1)),by omega⟩;rw [show o+(i+1)+d - (o+(i+1))=d by omega,show o+(i+1)+d - (o+i)=d+1 by omega];simp
   ·rw [if_neg g1];by_cases g2:j=o+i
    ·subst g2;rw [if_pos (by simp only [lnI]; omega),Array.getElem?_setIfInBounds_self];rw [if_pos (show o+i<C.size by omega)];simp
    ·rw [if_neg (by simp only [lnI]; omega),Array.getElem?_setIfInBounds_ne (by omega)]
theorem Inv.HY {φ:Ren} {P:Program} {m:Mem} {w:World} (h:Inv φ m w) {b:Nat} {c:List Value} {e:TypeId} {s:Nat} {l:Loc}
  (hb:m.get b=some ⟨.cells c e,false,some s⟩) (hl:φ b=some l) {off len cap off' cap' n:Nat} (hoff:cap≠0->off'=l.base+off) (hlen:len<=cap)
  (hroom:off'+cap' * s<=l.size) (hneed:len+n<=cap') (hc:off+len * s<=c.length) {vs Vs:List Value} (hvs:VRs φ vs Vs) (h1:∀ v∈vs,v.oneCell'=true) (hn:vs.length=n * s) :
  ∃ w' φ',(Go.storeCells ⟨l.blk,off'+len * s,none⟩ Vs).run P w=.ok () w'/\Inv φ' ((m.kill b).add ⟨.cells ((c.drop off).take (len * s)++vs) e,false,some s⟩) w' /\
   Frm φ m w φ' ((m.kill b).add ⟨.cells ((c.drop off).take (len * s)++vs) e,false,some s⟩) w'/\φ' m.next=some ⟨l.blk,off',some s,l.size⟩:=by
 obtain ⟨k,hk,hloose,C,e',fz,hh,hcc,hw,hz,hsz,hee⟩:=h.live b _ hb;rw [hl] at hk; cases hk
 have hCs:C.size=l.size:=hsz s rfl;have hmul:(len+n) * s<=cap' * s:=Nat.mul_le_mul_right s hneed;rw [Nat.add_mul] at hmul;have hVn:Vs.length=n * s:=by rw [<- hvs.1]; exact hn
 have h1':∀ v∈Vs,v.oneCell'=true:=by
  intro V hV;obtain ⟨i,hi,rfl⟩:=List.mem_iff_getElem.1 hV;have hi':i<vs.length:=by rw [hvs.1]; exact hi
  rw [(hvs.2 i vs[i] Vs[i] (List.getElem?_eq_getElem hi') (List.getElem?_eq_getElem hi)).one];exact h1 _ (List.getElem_mem hi')
 obtain ⟨w',C',hrun,hh',hs',hc',ho,hz',q1,q2,q3⟩:=Jz (P:=P) (B:=l.blk) (e:=e') (fz:=fz) Vs (off'+len * s) 0 C w hh (hw rfl) h1' (by omega);simp only [Nat.add_zero] at hc';have hle:=Ren.wM (l:=⟨l.blk,off',some s,l.size⟩) h.fresh;have hself:=Ren.zB φ m.next ⟨l.blk,off',some s,l.size⟩;have hbn:b≠m.next:=by have:=(h.below b l hl).1; omega
 have hget:∀ d x,((m.kill b).add ⟨.cells ((c.drop off).take (len * s)++vs) e,false,some s⟩).get d=some x ->
   (d=m.next/\x=⟨.cells ((c.drop off).take (len * s)++vs) e,false,some s⟩)∨(d≠m.next/\d≠b/\m.get d=some x):=by
  intro d x hx;rw [Mem.zw,Mem.xY,Mem.xW] at hx;by_cases ed:d=m.next
  ·rw [if_pos ed] at hx; cases hx; exact .inl ⟨ed,rfl⟩
  ·rw [if_neg ed] at hx;by_cases eb:d=b
   ·rw [if_pos eb] at hx; cases hx
   ·rw [if_neg eb] at hx; exact .inr ⟨ed,eb,hx⟩
 have hother:∀ d x k,d≠b->m.get d=some x->φ d=some k->k.blk≠l.blk:=λd x k hd hx hk e =>
  h.apart b d ⟨.cells c _,false,some s⟩ x l k hb hx hl hk rfl (Ne.symm hd) e.symm
 refine ⟨w',φ.set m.next ⟨l.blk,off',some s,l.size⟩,hrun,⟨λd x hx=>?_,λd f x z k j hx hzf hk hj hr hdf=>?_,λd k hk=>?_⟩,⟨hle,by rw [hz']; exact Nat.le_refl _,λB hB hno=>?_,λd x k hx hk hr=>?_,q1,q2,q3,by simp,λd hd=>Ren.zk _ _ (by omega),λd hd hn=>by rw [Mem.zw,Mem.xY,if_neg (by omega),Mem.xW]; split<;>first|rfl|exact hn,λd x k hx hk=>?_⟩,hself⟩
 ·rcases hget d x hx with ⟨rfl,rfl⟩|⟨ed,eb,hx⟩
  ·refine ⟨_,hself,⟨rfl,λ_ h=>(by cases h)⟩,C',e',fz,hh',λi v hv=>?_,λ_=>by rw [hs']; exact hw rfl,λh1 h2=>hz h1 h2,λs' hs2=>by rw [hs']; exact hCs,λ_=>hee rfl⟩
   show ∃ V,C'[off'+i]? = some V/\_;have hold:((c.drop off).take (len * s)).length=len * s:=by simp; omega
   rcases Nat.lt_or_ge i (len * s) with hi|hi
   ·rw [List.getElem?_append_left (by omega),List.getElem?_take_of_lt hi,List.getElem?_drop] at hv;obtain ⟨V,hV,r⟩:=hcc _ v hv;refine ⟨V,?_,r.mono hle⟩;rw [hc',if_neg (by omega)];have:cap≠0:=by
     intro h0; subst h0;have:len=0:=by omega
     subst this; omega
    rw [hoff this,Nat.add_assoc]; exact hV
   ·rw [List.getElem?_append_right (by omega),hold] at hv;obtain ⟨V,hV,r⟩:=hvs.get hv;refine ⟨V,?_,r.mono hle⟩;have hi2:i - len * s<Vs.length:=by
     rcases Nat.lt_or_ge (i - len * s) Vs.length with h'|h'
     ·exact h'
     ·rw [List.getElem?_eq_none h'] at hV; cases hV
    rw [hc',if_pos (by omega),show off'+i - (off'+len * s)=i - len * s by omega];exact hV
  ·obtain ⟨k,hk,ok⟩:=h.live d x hx;exact ⟨k,hle _ _ hk,(ok.congr (ho _ (hother d x k eb hx hk))).mono hle⟩
 ·rcases hget d x hx with ⟨rfl,rfl⟩|⟨ed,eb,hx⟩
  ·rcases hget f z hzf with ⟨rfl,rfl⟩|⟨ef,efb,hzf⟩
   ·exact absurd rfl hdf
   ·rw [hself] at hk; cases hk
    rw [Ren.zk _ _ ef] at hj;exact λe=>hother f z j efb hzf hj e.symm
  ·rw [Ren.zk _ _ ed] at hk;rcases hget f z hzf with ⟨rfl,rfl⟩|⟨ef,efb,hzf⟩
   ·rw [hself] at hj; cases hj
    exact hother d x k eb hx hk
   ·rw [Ren.zk _ _ ef] at hj;exact h.apart d f x z k j hx hzf hk hj hr hdf
 ·rw [hz'];simp only [Mem.QQ,Mem.xY];by_cases ed:d=m.next
  ·rw [ed,hself] at hk; cases hk
   have:=h.jm hl;exact ⟨by omega,this⟩
  ·rw [Ren.zk _ _ ed] at hk;have:=h.below d k hk;exact ⟨by omega,this.2⟩
 ·exact ho B (λe=>hno b ⟨.cells c _,false,some s⟩ l hb hl rfl e.symm)
 ·rcases hget d x hx with ⟨rfl,rfl⟩|⟨ed,eb,hx⟩
  ·rw [hself] at hk; cases hk
   exact .inr ⟨b,⟨.cells c e,false,some s⟩,l,hb,hl,rfl,rfl⟩
  ·rw [Ren.zk _ _ ed] at hk;exact .inr ⟨d,x,k,hx,hk,hr,rfl⟩
 ·rcases hget d x hx with ⟨rfl,rfl⟩|⟨ed,eb,hx⟩
  ·rw [hself] at hk; cases hk
   exact .inr ⟨b,⟨.cells c e,false,some s⟩,l,hb,hl,rfl⟩
  ·rw [Ren.zk _ _ ed] at hk;exact .inr ⟨d,x,k,hx,hk,rfl⟩
end Go.Fx
