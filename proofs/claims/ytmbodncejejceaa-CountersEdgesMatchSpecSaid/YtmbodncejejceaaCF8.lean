/- The contract of slices.Concat at whole numbers. -/
import Derived.Test.YtmbodncejejceaaCF7
import Derived.Test.YtmbodncejejceaaCPlA
set_option linter.all false

namespace Go.Eng
open Go.Proofs
attribute [local irreducible] vc vops gop step fins fin finP cov covEnv covRows

theorem flat_take {α : Type} (ls : List (List α)) (i : Nat) (h : i < ls.length) : (ls.take (i + 1)).flatten = (ls.take i).flatten ++ ls.getD i [] := by
  rw [take_succ' [] h, List.flatten_append]; simp
theorem flat_take_le {α : Type} (ls : List (List α)) (i : Nat) : (ls.take i).flatten.length ≤ ls.flatten.length := by
  have h : ls.flatten = (ls.take i).flatten ++ (ls.drop i).flatten := by rw [← List.flatten_append, List.take_append_drop]
  rw [h, List.length_append]; omega

/-- slices.Grow at nil. -/
def GrowOK : Prop := ∀ n : Th Int, 0 ≤ n () → n () ≤ 1000000 → GCall Try.prog 85 [.d (.v (.slice none 0 0)), .d (num n)] (.row (.sl intSh fun _ => [])) []

theorem concat_ok (hg : GrowOK) (ls : Th (List (List Int))) (hl : (ls ()).flatten.length ≤ 1000000) : GCall Try.prog 54 [.d (lists ls)] (.row (.sl intSh fun _ => (ls ()).flatten)) [] := by
  refine g54 (tabOK 0 m0) rfl (Nat.le_of_ble_eq_true rfl) rfl ?_
  repeat' first
    | (refine VIf.mk' ?_ ?_ <;> intro _)
    | (refine LenB.mk ?_; intro _)
    | refine And.intro ?_ ?_
    | exact trivial
    | refine Stop.mk ?_
    | exact ShEq.sl
    | ((fail_if_success refine Side.mk ?_); (fail_if_success refine Exists.intro ?_ ?_); (fail_if_success refine VLoop.mk ?_); (fail_if_success refine VCut.mk ?_); (fail_if_success refine REq.sl ?_); (fail_if_success refine Same.mk ?_); (fail_if_success refine DEq.mk ?_); (fail_if_success refine VCall.mk ?_); (fail_if_success show False); (fail_if_success show _ = _); cbv)
  all_goals try simp only [ncast, decide_eq_true_eq, decide_eq_false_iff_not, Decidable.not_not, Bool.not_eq_true', Bool.not_eq_false', cond_t, cond_f, toNat_cast] at *
  refine VLoop.inv (ι := Nat) (fun i => ⟨[(0, .d (lists ls)), (3, .d (num fun _ => ((ls ⟨⟩).take i).flatten.length)), (9, .d (lists ls)), (10, .d (num fun _ => (ls ⟨⟩).length)), (11, .d (num fun _ => i))], []⟩)
    (fun i => i ≤ (ls ⟨⟩).length) (fun i => (ls ⟨⟩).length - i) 0 (Nat.zero_le _) ?_ ?_
  · cbv
    repeat' first | refine And.intro ?_ ?_ | exact trivial | exact Side.mk rfl | exact REq.sl rfl | exact DEq.mk rfl | exact Side.mk (by simp only [ncast]; omega)
  intro i hi
  have hb := flat_take_le (ls ⟨⟩) i
  have hb1 := flat_take_le (ls ⟨⟩) (i + 1)
  repeat' first
    | (refine VIf.mk' ?_ ?_ <;> intro _)
    | (refine LenB.mk ?_; intro _)
    | refine And.intro ?_ ?_
    | exact trivial
    | refine Stop.mk ?_
    | exact ShEq.sl
    | ((fail_if_success refine Side.mk ?_); (fail_if_success refine Exists.intro ?_ ?_); (fail_if_success refine VLoop.mk ?_); (fail_if_success refine VCut.mk ?_); (fail_if_success refine REq.sl ?_); (fail_if_success refine Same.mk ?_); (fail_if_success refine DEq.mk ?_); (fail_if_success refine VCall.mk ?_); (fail_if_success show False); (fail_if_success show _ = _); cbv)
  all_goals try simp only [ncast, decide_eq_true_eq, decide_eq_false_iff_not, Decidable.not_not, Bool.not_eq_true', Bool.not_eq_false', cond_t, cond_f, toNat_cast] at *
  · exact ⟨by omega⟩
  · have hf := flat_take (ls ⟨⟩) i (by omega)
    rw [hf, List.length_append] at hb1
    exact Side.mk (i64 (by omega))
  · omega
  · exact Side.mk (i64 (by omega))
  · have hf := flat_take (ls ⟨⟩) i (by omega)
    refine ⟨i + 1, by omega, by omega, ?_⟩
    cbv
    repeat' first | refine And.intro ?_ ?_ | exact trivial | exact Side.mk rfl | exact DEq.mk rfl
    refine Side.mk ?_
    rw [hf, List.length_append]; rfl
  have hlen : i = (ls ⟨⟩).length := by omega
  refine VCall.mk' (.mk (hg _ (by omega) (by omega))) (.inl rfl) ?_
  repeat' first
    | (refine VIf.mk' ?_ ?_ <;> intro _)
    | (refine LenB.mk ?_; intro _)
    | refine And.intro ?_ ?_
    | exact trivial
    | refine Stop.mk ?_
    | exact ShEq.sl
    | ((fail_if_success refine Side.mk ?_); (fail_if_success refine Exists.intro ?_ ?_); (fail_if_success refine VLoop.mk ?_); (fail_if_success refine VCut.mk ?_); (fail_if_success refine REq.sl ?_); (fail_if_success refine Same.mk ?_); (fail_if_success refine DEq.mk ?_); (fail_if_success refine VCall.mk ?_); (fail_if_success show False); (fail_if_success show _ = _); cbv)
  all_goals try simp only [ncast, decide_eq_true_eq, decide_eq_false_iff_not, Decidable.not_not, Bool.not_eq_true', Bool.not_eq_false', cond_t, cond_f, toNat_cast] at *
  refine VLoop.inv (ι := Nat) (fun i => ⟨[(6, .own 0), (25, .d (lists ls)), (26, .d (num fun _ => (ls ⟨⟩).length)), (27, .d (num fun _ => i))], [(0, .sl intSh fun _ => ((ls ⟨⟩).take i).flatten)]⟩)
    (fun i => i ≤ (ls ⟨⟩).length) (fun i => (ls ⟨⟩).length - i) 0 (Nat.zero_le _) ?_ ?_
  · cbv
    repeat' first | refine And.intro ?_ ?_ | exact trivial | exact Side.mk rfl | exact REq.sl rfl | exact DEq.mk rfl | exact Side.mk (by simp only [ncast]; omega)
  intro j hj
  have hb := flat_take_le (ls ⟨⟩) j
  have hb1 := flat_take_le (ls ⟨⟩) (j + 1)
  repeat' first
    | (refine VIf.mk' ?_ ?_ <;> intro _)
    | (refine LenB.mk ?_; intro _)
    | refine And.intro ?_ ?_
    | exact trivial
    | refine Stop.mk ?_
    | exact ShEq.sl
    | refine Same.mk ⟨_, rfl, ?_⟩
    | ((fail_if_success refine Side.mk ?_); (fail_if_success refine Exists.intro ?_ ?_); (fail_if_success refine VLoop.mk ?_); (fail_if_success refine VCut.mk ?_); (fail_if_success refine REq.sl ?_); (fail_if_success refine Same.mk ?_); (fail_if_success refine DEq.mk ?_); (fail_if_success refine VCall.mk ?_); (fail_if_success show False); (fail_if_success show _ = _); cbv)
  all_goals try simp only [ncast, decide_eq_true_eq, decide_eq_false_iff_not, Decidable.not_not, Bool.not_eq_true', Bool.not_eq_false', cond_t, cond_f, toNat_cast] at *
  · exact ⟨by omega⟩
  · have hf := flat_take (ls ⟨⟩) j (by omega)
    rw [hf, List.length_append] at hb1
    exact ⟨by omega⟩
  · exact Side.mk (i64 (by omega))
  · have hf := flat_take (ls ⟨⟩) j (by omega)
    refine ⟨j + 1, by omega, by omega, ?_⟩
    cbv
    repeat' first | refine And.intro ?_ ?_ | exact trivial | exact Side.mk rfl | exact DEq.mk rfl | exact REq.sl hf.symm
  · exact REq.sl (by rw [List.take_of_length_le (by omega)])
end Go.Eng
