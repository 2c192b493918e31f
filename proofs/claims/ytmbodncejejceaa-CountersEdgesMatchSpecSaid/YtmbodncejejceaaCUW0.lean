/- Words for users of the engine: rules that are no mere reckoning. -/
import Derived.Test.YtmbodncejejceaaCEngB
set_option linter.all false

namespace Go.Eng
theorem cond_t {α : Sort _} (a b : α) : (bif true then a else b) = a := Eq.trans rfl rfl
theorem cond_f {α : Sort _} (a b : α) : (bif false then a else b) = b := Eq.trans rfl rfl
theorem toNat_cast (n : Nat) : (n : Int).toNat = n := Eq.trans rfl rfl
theorem getD_lt {α : Type} {d : α} {l : List α} {i : Nat} (h : i < l.length) : l.getD i d = l[i] := by
  rw [List.getD_eq_getElem?_getD, List.getElem?_eq_getElem h, Option.getD_some]
theorem take_succ' {α : Type} (d : α) {l : List α} {i : Nat} (h : i < l.length) : l.take (i + 1) = l.take i ++ [l.getD i d] := by
  rw [getD_lt h, List.take_append_getElem h]
theorem set_getD_eq {α : Type} (d : α) {l : List α} {i : Nat} (x : α) (h : i < l.length) : (l.set i x).getD i d = x := by
  rw [getD_lt (by simpa using h), List.getElem_set_self]
theorem set_getD_ne {α : Type} (d : α) {l : List α} {i j : Nat} (x : α) (h : i ≠ j) : (l.set i x).getD j d = l.getD j d := by
  simp [List.getD_eq_getElem?_getD, List.getElem?_set_ne h]
end Go.Eng
