/- The contract of R.Weight. -/
import Derived.Test.YtmbodncejejceaaBUW
set_option linter.all false

namespace Go.Eng
open Go.Proofs
attribute [local irreducible] vc vops gop step fins fin finP cov covEnv covRows

theorem weight_ok (c : Th (List Near)) (a b : Th Int) (hc : goodCalls (c ())) : GCall Try.prog 29 [.d (nears c), .d (num a), .d (num b)] (.d (num fun _ => wt (c ()) (a ()) (b ()))) [] := by
  refine g29 (tabOK 0 m0) rfl (Nat.le_of_ble_eq_true rfl) rfl ?_
  cbv
  refine VLoop.inv (ι := Nat) (fun i => ⟨[(8, .d (num fun _ => i)), (7, .d (num fun _ => sumBy (wt1 (a ⟨⟩) (b ⟨⟩)) ((c ⟨⟩).take i))), (0, .d (nears c)), (1, .d (num a)), (2, .d (num b))], []⟩)
    (fun i => i ≤ (c ⟨⟩).length ∧ (i ≠ 0 → a ⟨⟩ ≠ b ⟨⟩)) (fun i => (c ⟨⟩).length - i) 0 ⟨Nat.zero_le _, fun h => absurd rfl h⟩ ?_ ?_
  · cbv
    repeat' first | exact trivial | refine And.intro ?_ ?_ | exact ⟨rfl⟩ | exact ⟨by simp only [ncast]; omega⟩
  rintro i ⟨hi, hab⟩
  have hb := wt_bound hc (a ⟨⟩) (b ⟨⟩) i
  repeat' first
    | (refine VIf.mk' ?_ ?_ <;> intro _)
    | (refine LenB.mk ?_; intro _)
    | refine And.intro ?_ ?_
    | exact trivial
    | refine Stop.mk ?_
    | ((fail_if_success refine Side.mk ?_); (fail_if_success refine Exists.intro ?_ ?_); (fail_if_success refine VLoop.mk ?_); (fail_if_success refine VCut.mk ?_); (fail_if_success refine REq.sl ?_); (fail_if_success refine Same.mk ?_); (fail_if_success refine DEq.mk ?_); (fail_if_success refine VCall.mk ?_); cbv)
  all_goals try simp only [ncast, decide_eq_true_eq, decide_eq_false_iff_not, Decidable.not_not, Bool.not_eq_true', Bool.not_eq_false', cond_t, cond_f, toNat_cast] at *
  all_goals first
    | exact ⟨by omega⟩
    | exact Side.mk (i64 (by omega))
    | (have hx := hc.2 _ (getD_memL (0, 0, 0) (show i < (c ⟨⟩).length by omega)); exact Side.mk (i64 (by omega)))
    | (refine Side.mk ?_; unfold wt; rw [if_neg (by omega), List.take_of_length_le (by omega)])
    | (refine Side.mk ?_
       unfold wt
       split
       · rename_i e
         have : i = 0 := by omega
         subst this; rfl
       · first | contradiction | rw [List.take_of_length_le (by omega)])
    | (have hi1 : i < (c ⟨⟩).length := by omega
       refine ⟨i + 1, ⟨by omega, fun _ => by omega⟩, by omega, ?_⟩
       cbv
       refine And.intro ⟨rfl⟩ (And.intro ⟨?_⟩ ?_)
       · rw [sumBy_take (wt1 (a ⟨⟩) (b ⟨⟩)) (0, 0, 0) hi1]
         generalize (c ⟨⟩).getD i (0, 0, 0) = x at *
         have e : wt1 (a ⟨⟩) (b ⟨⟩) x = 0 ∨ wt1 (a ⟨⟩) (b ⟨⟩) x = x.2.2 := by unfold wt1; split <;> simp
         simp_all [wt1]
         try omega
       · repeat' first | exact trivial | refine And.intro ?_ ?_ | exact ⟨rfl⟩)
    | skip
end Go.Eng
