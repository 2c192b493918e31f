/- The law FuncorderMatchesSpec, called. -/
import Derived.Test.YtmbodncejejceaaBF20
import Derived.Test.YtmbodncejejceaaBF14
set_option linter.all false

namespace Go.Eng
open Go.Proofs
attribute [local irreducible] vc vops gop step fins fin finP cov covEnv covRows

theorem law3_ok (s : Th (List Int)) (c : Th (List Near)) :
    GCall Try.prog 3 [.d (ints s), .d (nears c)] (.d (bol fun _ => true)) [] := by
  refine g3 (tabOK 0 mm) rfl (Nat.le_of_ble_eq_true rfl) rfl ?_
  repeat' first
    | (refine VIf.mk' ?_ ?_ <;> intro _)
    | (refine LenB.mk ?_; intro _)
    | refine And.intro ?_ ?_
    | exact trivial
    | refine Stop.mk ?_
    | exact ShEq.sl
    | refine VCall.mk' (.mk (order_ok _ _)) (.inl rfl) ?_
    | refine VCall.mk' (.mk (fault_ok _ _)) (.inl rfl) ?_
    | refine VCall.mk' (.mk (paired_ok)) (.inl rfl) ?_
    | ((fail_if_success refine Side.mk ?_); (fail_if_success refine Exists.intro ?_ ?_); (fail_if_success refine VLoop.mk ?_); (fail_if_success refine VCut.mk ?_); (fail_if_success refine REq.sl ?_); (fail_if_success refine Same.mk ?_); (fail_if_success refine DEq.mk ?_); (fail_if_success refine VCall.mk ?_); (fail_if_success refine SReg.go ?_); (fail_if_success refine QCall.mk ?_); (fail_if_success refine Dec.mk ?_); (fail_if_success show False); (fail_if_success show _ = _); cbv)
  all_goals try simp only [ncast, decide_eq_true_eq, decide_eq_false_iff_not, Decidable.not_not, Bool.not_eq_true', Bool.not_eq_false', cond_t, cond_f, toNat_cast] at *
  · exact Side.mk trivial
  · rename_i h0 _ h
    exfalso; apply h
    unfold ordR; rw [if_neg h0]; rfl
  · rename_i h
    simp at h
  · exact Side.mk trivial
  · rename_i h0 _ h
    have hg := funFault_good h0
    have hn := hg.n
    refine VCall.mk' (.mk (functions_ok _ c (s ⟨⟩).length rfl (by omega) hg.calls)) (.inl rfl) ?_
    have hR : ordR (s ⟨⟩) (c ⟨⟩) = orderF (wt (c ⟨⟩)) (s ⟨⟩).length := by unfold ordR; rw [if_pos h0]
    repeat' first
      | (refine VIf.mk' ?_ ?_ <;> intro _)
      | (refine LenB.mk ?_; intro _)
      | refine And.intro ?_ ?_
      | exact trivial
      | refine Stop.mk ?_
      | exact ShEq.sl
      | refine VCall.mk' (.mk (same_ok _ _)) (.inr ⟨rfl, fun _ h => (List.not_mem_nil h).elim⟩) ?_
      | refine VCall.mk' (.mk (paired_ok)) (.inl rfl) ?_
      | ((fail_if_success refine Side.mk ?_); (fail_if_success refine Exists.intro ?_ ?_); (fail_if_success refine VLoop.mk ?_); (fail_if_success refine VCut.mk ?_); (fail_if_success refine REq.sl ?_); (fail_if_success refine Same.mk ?_); (fail_if_success refine DEq.mk ?_); (fail_if_success refine VCall.mk ?_); (fail_if_success refine SReg.go ?_); (fail_if_success refine QCall.mk ?_); (fail_if_success refine Dec.mk ?_); (fail_if_success show False); (fail_if_success show _ = _); cbv)
    all_goals try simp only [ncast, decide_eq_true_eq, decide_eq_false_iff_not, Decidable.not_not, Bool.not_eq_true', Bool.not_eq_false', cond_t, cond_f, toNat_cast] at *
    · exact Side.mk trivial
    · rename_i h
      exact absurd hR h
  · rename_i h0 h
    exact absurd h0 h
end Go.Eng
