/- The law FuncorderCostMatchesSpec, called. -/
import Derived.Test.YtmbodncejejceaaF14
import Derived.Test.YtmbodncejejceaaF11
set_option linter.all false
namespace Go.Eng
open Go.Proofs
attribute [local irreducible] vc vops gop step fins fin finP cov covEnv covRows

theorem law4_ok (s : Th (List Int)) (c : Th (List Near)) (o : Th (List Int)) (hl : (o ()).length * 8 ≤ 140737488355328) :
    GCall Try.prog 4 [.d (ints s), .d (nears c), .d (ints o)] (.d (bol fun _ => true)) [] := by
  refine g4 (tabOK 0 mm) rfl (Nat.le_of_ble_eq_true rfl) rfl ?_
  repeat' first
    | (refine VIf.mk' ?_ ?_ <;> intro _)
    | (refine LenB.mk ?_; intro _)
    | refine And.intro ?_ ?_
    | exact trivial
    | refine Stop.mk ?_
    | exact ShEq.sl
    | refine VCall.mk' (.mk (cost_ok _ _ _ hl)) (.inl rfl) ?_
    | refine VCall.mk' (.mk (fault_ok _ _)) (.inl rfl) ?_
    | refine VCall.mk' (.mk (paired_ok)) (.inl rfl) ?_
    | refine VCall.mk' (.mk (at_ok _ _)) (.inl rfl) ?_
    | refine VCall.mk' (.mk (perm_side _ _ ?_)) (.inl rfl) ?_
    | ((fail_if_success refine Side.mk ?_); (fail_if_success refine Exists.intro ?_ ?_); (fail_if_success refine VLoop.mk ?_); (fail_if_success refine VCut.mk ?_); (fail_if_success refine REq.sl ?_); (fail_if_success refine Same.mk ?_); (fail_if_success refine DEq.mk ?_); (fail_if_success refine VCall.mk ?_); (fail_if_success show False); (fail_if_success show _ = _); cbv)
  all_goals try simp only [ncast, decide_eq_true_eq, decide_eq_false_iff_not, Decidable.not_not, Bool.not_eq_true', Bool.not_eq_false', cond_t, cond_f, toNat_cast] at *
  all_goals first
    | exact Side.mk trivial
    | exact Side.mk (by omega)
    | exact absurd ‹(5 : Int) = 0› (by decide)
    | (exfalso; simp_all [costF, costR]; done)
    | skip
  rename_i h1 h2 h3 h4 h5
  have hg := funFault_good ‹(funFault (s ⟨⟩) (c ⟨⟩)).1 = 0›
  have hF : (funFault (s ⟨⟩) (c ⟨⟩)).1 = 0 := by assumption
  have hp : permOf (o ⟨⟩) (s ⟨⟩).length = true := by assumption
  have hR : costR (s ⟨⟩) (c ⟨⟩) (o ⟨⟩) = costOf (s ⟨⟩) (c ⟨⟩) (o ⟨⟩) := by unfold costR costF; rw [if_pos hF, hp]; rfl
  refine VCall.mk' (.mk (rcost_ok s c o hg hp)) (.inl rfl) ?_
  repeat' first
    | (refine VIf.mk' ?_ ?_ <;> intro _)
    | (refine LenB.mk ?_; intro _)
    | refine And.intro ?_ ?_
    | exact trivial
    | refine Stop.mk ?_
    | exact ShEq.sl
    | refine VCall.mk' (.mk (paired_ok)) (.inl rfl) ?_
    | ((fail_if_success refine Side.mk ?_); (fail_if_success refine Exists.intro ?_ ?_); (fail_if_success refine VLoop.mk ?_); (fail_if_success refine VCut.mk ?_); (fail_if_success refine REq.sl ?_); (fail_if_success refine Same.mk ?_); (fail_if_success refine DEq.mk ?_); (fail_if_success refine VCall.mk ?_); (fail_if_success show False); (fail_if_success show _ = _); cbv)
  all_goals try simp only [ncast, decide_eq_true_eq, decide_eq_false_iff_not, Decidable.not_not, Bool.not_eq_true', Bool.not_eq_false', cond_t, cond_f, toNat_cast] at *
  · exact Side.mk trivial
  · rename_i h
    exact absurd hR h
end Go.Eng
