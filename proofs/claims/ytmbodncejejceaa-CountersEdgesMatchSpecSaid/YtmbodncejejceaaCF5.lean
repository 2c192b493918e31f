/- A text of the engine or of the contracts. -/
import Derived.Test.YtmbodncejejceaaCF4
import Derived.Test.YtmbodncejejceaaCPlA
set_option linter.all false
namespace Go.Eng
open Go.Proofs
attribute [local irreducible] vc vops gop step fins fin finP cov covEnv covRows

theorem betw_ok (c : Th (List Near)) (a b : Th (List Int)) (hc : goodCalls (c ())) : GCall Try.prog 57 [.d (nears c), .d (ints a), .d (ints b)] (.d (num fun _ => betw (c ()) (a ()) (b ()))) [] := by
  refine g57 (tabOK 0 m0) rfl (Nat.le_of_ble_eq_true rfl) rfl ?_
  cbv
  refine VLoop.inv (ι := Nat) (fun i => ⟨[(8, .d (num fun _ => i)), (7, .d (num fun _ => sumBy (betw1 (a ⟨⟩) (b ⟨⟩)) ((c ⟨⟩).take i))), (0, .d (nears c)), (1, .d (ints a)), (2, .d (ints b))], []⟩)
    (fun i => i ≤ (c ⟨⟩).length) (fun i => (c ⟨⟩).length - i) 0 (Nat.zero_le _) ?_ ?_
  · cbv
    repeat' first | exact trivial | refine And.intro ?_ ?_ | exact ⟨rfl⟩ | exact ⟨by simp only [ncast]; omega⟩
  intro i hi
  have hb := betw_bound hc (a ⟨⟩) (b ⟨⟩) i
  repeat' first
    | (refine VIf.mk' ?_ ?_ <;> intro _)
    | (refine LenB.mk ?_; intro _)
    | refine And.intro ?_ ?_
    | exact trivial
    | refine Stop.mk ?_
    | refine VCall.mk' (.mk (has_ok _ _)) (.inl rfl) ?_
    | ((fail_if_success refine Side.mk ?_); (fail_if_success refine Exists.intro ?_ ?_); (fail_if_success refine VLoop.mk ?_); (fail_if_success refine REq.sl ?_); (fail_if_success refine Same.mk ?_); (fail_if_success refine DEq.mk ?_); cbv)
  all_goals try simp only [ncast, decide_eq_true_eq, decide_eq_false_iff_not, Decidable.not_not, Bool.not_eq_true', Bool.not_eq_false', cond_true, cond_false, Int.toNat_natCast] at *
  all_goals first
    | exact ⟨by omega⟩
    | exact Side.mk (i64 (by omega))
    | (have hx := hc.2 _ (getD_memL (0, 0, 0) (show i < (c ⟨⟩).length by omega)); exact Side.mk (i64 (by omega)))
    | (refine Side.mk ?_; unfold betw; rw [List.take_of_length_le (by omega)])
    | skip
  all_goals
    have hi1 : i < (c ⟨⟩).length := by omega
    refine ⟨i + 1, by omega, by omega, ?_⟩
    cbv
    refine And.intro ⟨rfl⟩ (And.intro ⟨?_⟩ ?_)
    · rw [sumBy_take (betw1 (a ⟨⟩) (b ⟨⟩)) (0, 0, 0) hi1]
      generalize (c ⟨⟩).getD i (0, 0, 0) = x at *
      simp [betw1, *]
    · repeat' first | exact trivial | refine And.intro ?_ ?_ | exact ⟨rfl⟩
end Go.Eng
