/- The modes of calls: what is written in place, what is handed over; comparisons. -/
import Derived.Test.YtmbodncejejceaaCFam
import Derived.Test.YtmbodncejejceaaCUW0
import Derived.Test.YtmbodncejejceaaCPlA
set_option linter.all false

namespace Go.Eng
open Go.Proofs
def ms : FuncId → List Mode := fun f => match f with
  | 87 => [.m]
  | 56 => [.t]
  | 69 => [.m]
  | 92 => [.m]
  | 68 => [.m]
  | 73 => [.b, .b, .m, .m]
  | 132 => [.m]
  | 123 => [.m]
  | 104 => [.m]
  | 105 => [.m]
  | 91 => [.m]
  | 65 => [.m]
  | 136 => [.m]
  | 131 => [.m]
  | 120 => [.m]
  | 121 => [.m]
  | 101 => [.m]
  | 81 => [.m]
  | 138 => [.m]
  | 137 => [.m]
  | 134 => [.m]
  | 135 => [.m]
  | 130 => [.m]
  | 117 => [.m]
  | 99 => [.t]
  | _ => []

theorem u64 {n : Int} (h : 0 ≤ n ∧ n ≤ 18446744073709551615) : inR .u64 n := ⟨h.1, h.2⟩
/-- What a comparison says of pairs that may be asked. -/
structure CmpF {α : Type} (P : α → α → Prop) (F : α → α → Int) (key : α → Int) : Prop where
  neg : ∀ x y, P x y → (F x y < 0 ↔ key x < key y)
/-- Each two elements may be asked. -/
def Pw {α : Type} (P : α → α → Prop) (xs : List α) : Prop := xs.Pairwise fun x y => P x y ∧ P y x
theorem Pw.perm {α : Type} {P : α → α → Prop} {xs ys : List α} (h : Pw P xs) (hp : xs.Perm ys) : Pw P ys := (hp.pairwise_iff fun h => ⟨h.2, h.1⟩).1 h
theorem Pw.at {α : Type} {P : α → α → Prop} {d : α} {xs : List α} (h : Pw P xs) {i j : Nat} (hi : i < xs.length) (hj : j < xs.length) (hne : i ≠ j) : P (xs.getD i d) (xs.getD j d) := by
  rw [getD_eq hi, getD_eq hj]
  rcases Nat.lt_or_gt_of_ne hne with h1 | h1
  · exact (List.pairwise_iff_getElem.1 h i j hi hj h1).1
  · exact (List.pairwise_iff_getElem.1 h j i hj hi h1).2
end Go.Eng
