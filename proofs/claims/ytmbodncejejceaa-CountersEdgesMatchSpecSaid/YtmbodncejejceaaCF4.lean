/- A text of the engine or of the contracts. -/
import Derived.Test.YtmbodncejejceaaCF3
set_option linter.all false
namespace Go.Eng
open Go.Proofs
attribute [local irreducible] vc vops gop step fins fin finP cov covEnv covRows

theorem turned_ok (xs : Th (List Int)) (hl : (xs ()).length ≤ 1000000) : GCall Try.prog 58 [.d (ints xs)] (.row (.sl intSh fun _ => (xs ()).reverse)) [] := by
  refine g58 (tabOK 0 m0) rfl (Nat.le_of_ble_eq_true rfl) rfl ?_
  repeat' first
    | (refine VIf.mk' ?_ ?_ <;> intro _)
    | (refine LenB.mk ?_; intro _)
    | refine And.intro ?_ ?_
    | exact trivial
    | refine Stop.mk ?_
    | ((fail_if_success refine Side.mk ?_); (fail_if_success refine Exists.intro ?_ ?_); (fail_if_success refine VLoop.mk ?_); (fail_if_success refine REq.sl ?_); (fail_if_success refine Same.mk ?_); (fail_if_success refine DEq.mk ?_); cbv)
  all_goals try simp only [ncast, decide_eq_true_eq, decide_eq_false_iff_not, Decidable.not_not, Bool.not_eq_true', Bool.not_eq_false', cond_true, cond_false, Int.toNat_natCast] at *
  · exact Side.mk (i64 (by omega))
  refine VLoop.inv (ι := Nat) (fun i => ⟨[(4, .d (num fun _ => (xs ⟨⟩).length - 1 - (i : Int))), (0, .d (ints xs)), (3, .own 0)], [(0, .sl intSh fun _ => (xs ⟨⟩).reverse.take i)]⟩)
    (fun i => i ≤ (xs ⟨⟩).length) (fun i => (xs ⟨⟩).length - i) 0 (Nat.zero_le _) ?_ ?_
  · cbv
    repeat' first | exact trivial | refine And.intro ?_ ?_ | exact ⟨rfl⟩ | exact ⟨by simp only [ncast]; omega⟩
  intro i hi
  repeat' first
    | (refine VIf.mk' ?_ ?_ <;> intro _)
    | (refine LenB.mk ?_; intro _)
    | refine And.intro ?_ ?_
    | exact trivial
    | refine Stop.mk ?_
    | (refine Same.mk ⟨[_], rfl, ?_⟩)
    | ((fail_if_success refine Side.mk ?_); (fail_if_success refine Exists.intro ?_ ?_); (fail_if_success refine VLoop.mk ?_); (fail_if_success refine REq.sl ?_); (fail_if_success refine Same.mk ?_); (fail_if_success refine DEq.mk ?_); cbv)
  all_goals try simp only [ncast, decide_eq_true_eq, decide_eq_false_iff_not, Decidable.not_not, Bool.not_eq_true', Bool.not_eq_false', cond_true, cond_false, Int.toNat_natCast] at *
  · exact ⟨by omega⟩
  · refine ⟨?_⟩
    have h1 : (List.take i (xs ⟨⟩).reverse).length ≤ 1000000 := Nat.le_trans (List.length_take_le' i _) (by rw [List.length_reverse]; exact hl)
    simp only [thl, List.map_cons, List.map_nil, List.length_cons, List.length_nil] at *
    omega
  · exact Side.mk (i64 (by omega))
  · have hi1 : i < (xs ⟨⟩).length := by omega
    refine ⟨i + 1, by omega, by omega, ?_⟩
    cbv
    refine ⟨⟨REq.sl ?_, trivial⟩, ?_⟩
    · have hlt : i < (xs ⟨⟩).reverse.length := by rw [List.length_reverse]; exact hi1
      rw [← List.take_append_getElem hlt, List.getElem_reverse, List.getD_eq_getElem?_getD, List.getElem?_eq_getElem (by simp only [ncast]; omega), Option.getD_some]
      congr 2
      congr 1
      simp only [ncast]
      omega
    · repeat' first | exact trivial | refine And.intro ?_ ?_ | exact ⟨rfl⟩ | exact ⟨by simp only [ncast]; omega⟩
  · refine REq.sl ?_
    exact List.take_of_length_le (by rw [List.length_reverse]; omega)
end Go.Eng
