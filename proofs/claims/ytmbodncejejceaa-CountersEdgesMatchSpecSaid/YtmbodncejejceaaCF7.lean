/- Contracts: slices.Clone, slices.Reverse at whole numbers. -/
import Derived.Test.YtmbodncejejceaaCC2
import Derived.Test.YtmbodncejejceaaCUW
set_option linter.all false

namespace Go.Eng
open Go.Proofs
attribute [local irreducible] vc vops gop step fins fin finP cov covEnv covRows

theorem clone_ok (xs : Th (List Int)) (h0 : xs () ≠ []) (hl : (xs ()).length ≤ 1000000) : GCall Try.prog 86 [.d (ints xs)] (.row (.sl intSh xs)) [] := by
  refine g86 (tabOK 0 m0) rfl (Nat.le_of_ble_eq_true rfl) rfl ?_
  repeat' first
    | (refine VIf.mk' ?_ ?_ <;> intro _)
    | (refine LenB.mk ?_; intro _)
    | refine And.intro ?_ ?_
    | exact trivial
    | refine Stop.mk ?_
    | exact ShEq.sl
    | refine Same.mk ⟨_, rfl, ?_⟩
    | ((fail_if_success refine Side.mk ?_); (fail_if_success refine Exists.intro ?_ ?_); (fail_if_success refine VLoop.mk ?_); (fail_if_success refine VCut.mk ?_); (fail_if_success refine REq.sl ?_); (fail_if_success refine Same.mk ?_); (fail_if_success refine DEq.mk ?_); (fail_if_success refine VCall.mk ?_); cbv)
  all_goals try simp only [ncast, decide_eq_true_eq, decide_eq_false_iff_not, Decidable.not_not, Bool.not_eq_true', Bool.not_eq_false', cond_t, cond_f, toNat_cast] at *
  · exact ⟨h0⟩
  · exact ⟨by show (0 + (xs ⟨⟩).length) * 8 ≤ _; omega⟩
  · exact REq.sl rfl

theorem reverse_ok (xs : Th (List Int)) : GCall Try.prog 87 [.row (.sl intSh xs)] (.tup []) [.sl intSh fun _ => (xs ()).reverse] := by
  refine g87 (tabOK 1 m0) rfl (Nat.le_of_ble_eq_true rfl) rfl ?_
  repeat' first
    | (refine VIf.mk' ?_ ?_ <;> intro _)
    | (refine LenB.mk ?_; intro _)
    | refine And.intro ?_ ?_
    | exact trivial
    | refine Stop.mk ?_
    | exact ShEq.sl
    | ((fail_if_success refine Side.mk ?_); (fail_if_success refine Exists.intro ?_ ?_); (fail_if_success refine VLoop.mk ?_); (fail_if_success refine VCut.mk ?_); (fail_if_success refine REq.sl ?_); (fail_if_success refine Same.mk ?_); (fail_if_success refine DEq.mk ?_); (fail_if_success refine VCall.mk ?_); cbv)
  all_goals try simp only [ncast, decide_eq_true_eq, decide_eq_false_iff_not, Decidable.not_not, Bool.not_eq_true', Bool.not_eq_false', cond_t, cond_f, toNat_cast] at *
  · rename_i h
    exact Side.mk (i64 (by omega))
  rename_i hn
  generalize hN : (xs ⟨⟩).length = n at hn
  refine VLoop.inv (ι := Nat × List Int) (fun p => ⟨[(2, .d (num fun _ => p.1)), (3, .d (num fun _ => (n : Int) - 1 - p.1)), (0, .own 0)], [(0, .sl intSh fun _ => p.2)]⟩)
    (fun p => 2 * p.1 ≤ n + 1 ∧ p.2.length = n ∧ ∀ k, k < n → p.2.getD k 0 = if k < p.1 ∨ n ≤ k + p.1 then (xs ⟨⟩).getD (n - 1 - k) 0 else (xs ⟨⟩).getD k 0) (fun p => n + 1 - p.1) (0, xs ⟨⟩)
    ⟨by omega, hN, fun k hk => by rw [if_neg (by simp; omega)]⟩ ?_ ?_
  · cbv
    repeat' first | refine And.intro ?_ ?_ | exact trivial | exact Side.mk rfl | exact REq.sl rfl | exact DEq.mk rfl | exact Side.mk (by simp only [ncast]; omega)
  rintro ⟨i, ys⟩ ⟨hi, hl, hy⟩
  simp only at hi hl hy
  repeat' first
    | (refine VIf.mk' ?_ ?_ <;> intro _)
    | (refine LenB.mk ?_; intro _)
    | refine And.intro ?_ ?_
    | exact trivial
    | refine Stop.mk ?_
    | exact ShEq.sl
    | ((fail_if_success refine Side.mk ?_); (fail_if_success refine Exists.intro ?_ ?_); (fail_if_success refine VLoop.mk ?_); (fail_if_success refine VCut.mk ?_); (fail_if_success refine REq.sl ?_); (fail_if_success refine Same.mk ?_); (fail_if_success refine DEq.mk ?_); (fail_if_success refine VCall.mk ?_); cbv)
  all_goals try simp only [ncast, decide_eq_true_eq, decide_eq_false_iff_not, Decidable.not_not, Bool.not_eq_true', Bool.not_eq_false', cond_t, cond_f, toNat_cast] at *
  · exact ⟨by omega⟩
  · exact ⟨by omega⟩
  · exact ⟨by omega⟩
  · exact ⟨by simp only [List.length_set]; omega⟩
  · exact Side.mk (i64 (by omega))
  · exact Side.mk (i64 (by omega))
  · have e2 : ((n : Int) - 1 - (i : Int)).toNat = n - 1 - i := by omega
    rw [e2]
    refine ⟨(i + 1, (ys.set i (ys.getD (n - 1 - i) 0)).set (n - 1 - i) (ys.getD i 0)), ⟨by simp only; omega, by simpa using hl, fun k hk => ?_⟩, by simp only; omega, ?_⟩
    · simp only
      by_cases k1 : k = n - 1 - i
      · subst k1
        rw [set_getD_eq 0 _ (by simpa using by omega), if_pos (by omega), hy i (by omega), if_neg (by omega), show n - 1 - (n - 1 - i) = i by omega]
      · rw [set_getD_ne 0 _ (by omega)]
        by_cases k2 : k = i
        · subst k2
          rw [set_getD_eq 0 _ (by omega), if_pos (by omega), hy (n - 1 - k) (by omega), if_neg (by omega)]
        · rw [set_getD_ne 0 _ (by omega), hy k hk]
          by_cases k3 : k < i ∨ n ≤ k + i
          · rw [if_pos k3, if_pos (by omega)]
          · rw [if_neg k3, if_neg (by omega)]
    · cbv
      repeat' first | refine And.intro ?_ ?_ | exact trivial | exact Side.mk rfl | exact REq.sl rfl | exact DEq.mk rfl | exact Side.mk (by simp only [ncast]; omega)
  · rename_i h
    refine REq.sl (eq_of_getD 0 (by rw [List.length_reverse]; omega) fun k hk => ?_)
    have hk' : k < n := by simpa [hl] using hk
    have e : (xs ⟨⟩).reverse.getD k 0 = (xs ⟨⟩).getD (n - 1 - k) 0 := by
      rw [getD_lt (by rw [List.length_reverse]; omega), getD_lt (by omega), List.getElem_reverse]
      congr 1; omega
    rw [hy k hk', e]
    split
    · rfl
    · rename_i h2
      congr 1
      omega
end Go.Eng
