/- The contract of paired. -/
import Derived.Test.YtmbodncejejceaaBF13
set_option linter.all false

namespace Go.Eng
open Go.Proofs
attribute [local irreducible] vc vops gop step fins fin finP cov covEnv covRows

theorem perm_side (xs : Th (List Int)) (n : Th Int) (h : Side fun _ => n () ≤ 9223372036854775807) : GCall Try.prog 25 [.d (ints xs), .d (num n)] (.d (bol fun _ => permOf (xs ()) (n ()))) [] := perm_ok xs n h.h
theorem ordR_perm {s : List Int} {c : List Near} (h : (funFault s c).1 = 0) : permOf (ordR s c) s.length = true := by
  unfold ordR
  rw [if_pos h]
  exact permOf_iff.2 (orderF_perm _ _)
theorem pair1 : ordR [4, 8, 2] [(0, 2, 5)] = [0, 2, 1] := by decide
theorem pair2 : funFault [4, 8, 2] [(0, 2, 5)] = (0, 0) := by decide
theorem pair3 : costR [4, 8, 2] [(0, 2, 1)] [0, 1, 2] = 12 := by decide
theorem pair4 : costF [4, 8, 2] [(0, 2, 1)] [0, 1, 2] = (0, 0) := by decide

theorem paired_ok : GCall Try.prog 21 [] (.d (bol fun _ => true)) [] := by
  refine g21 (tabOK 0 mm) rfl (Nat.le_of_ble_eq_true rfl) rfl ?_
  repeat' first
    | (refine VIf.mk' ?_ ?_ <;> intro _)
    | (refine LenB.mk ?_; intro _)
    | refine And.intro ?_ ?_
    | exact trivial
    | refine Stop.mk ?_
    | exact ShEq.sl
    | (refine VCall.frz' 0 _ rfl (Nat.zero_le _) ?_; cbv; refine VCall.frz' 1 _ rfl (Nat.zero_le _) ?_; cbv; refine VCall.mk' (.mk (order_ok _ _)) (.inl rfl) ?_)
    | (refine VCall.frz' 1 _ rfl (Nat.zero_le _) ?_; cbv; refine VCall.frz' 2 _ rfl (Nat.zero_le _) ?_; cbv; refine VCall.frz' 3 _ rfl (Nat.zero_le _) ?_; cbv; refine VCall.mk' (.mk (cost_ok _ _ _ (by decide))) (.inl rfl) ?_)
    | (refine VCall.frz' 2 _ rfl (Nat.zero_le _) ?_; cbv; refine VCall.mk' (.mk (same_ok _ _)) (.inl rfl) ?_)
    | ((fail_if_success refine Side.mk ?_); (fail_if_success refine Exists.intro ?_ ?_); (fail_if_success refine VLoop.mk ?_); (fail_if_success refine VCut.mk ?_); (fail_if_success refine REq.sl ?_); (fail_if_success refine Same.mk ?_); (fail_if_success refine DEq.mk ?_); (fail_if_success refine VCall.mk ?_); (fail_if_success show False); (fail_if_success show _ = _); cbv)
  all_goals try simp only [ncast, decide_eq_true_eq, decide_eq_false_iff_not, Decidable.not_not, Bool.not_eq_true', Bool.not_eq_false', cond_t, cond_f, toNat_cast] at *
  · exact Side.mk (decide_eq_true (pair1 : ordR (thl [fun _ => 4, fun _ => 8, fun _ => 2]) (thl [fun _ => (0, 2, 5)]) = thl [fun _ => 0, fun _ => 2, fun _ => 1]))
  · rename_i h
    exact absurd (pair3 : costR (thl [fun _ => 4, fun _ => 8, fun _ => 2]) (thl [fun _ => (0, 2, 1)]) (thl [fun _ => 0, fun _ => 1, fun _ => 2]) = 12) h
  · rename_i h
    exact absurd (congrArg Prod.fst (pair4 : costF (thl [fun _ => 4, fun _ => 8, fun _ => 2]) (thl [fun _ => (0, 2, 1)]) (thl [fun _ => 0, fun _ => 1, fun _ => 2]) = (0, 0))) h
  · rename_i h
    exact absurd (congrArg Prod.fst (pair2 : funFault (thl [fun _ => 4, fun _ => 8, fun _ => 2]) (thl [fun _ => (0, 2, 5)]) = (0, 0))) h
end Go.Eng
