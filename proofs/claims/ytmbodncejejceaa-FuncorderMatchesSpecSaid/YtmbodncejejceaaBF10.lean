/- The contract of funcorder.Cost. -/
import Derived.Test.YtmbodncejejceaaBPC
import Derived.Test.YtmbodncejejceaaBC1
set_option linter.all false

namespace Go.Eng
open Go.Proofs
attribute [local irreducible] vc vops gop step fins fin finP cov covEnv covRows

theorem ff_bad {s : List Int} {c : List Near} (h : (decide ((funFault s c).1 = 0) && (decide ((funFault s c).2 = 0) && true)) = false) : (funFault s c).1 ≠ 0 := by
  intro e
  rw [decide_eq_true e, decide_eq_true (funFault_zero e)] at h
  cases h
theorem ff_good {s : List Int} {c : List Near} (h : (decide ((funFault s c).1 = 0) && (decide ((funFault s c).2 = 0) && true)) = true) : (funFault s c).1 = 0 := by
  simp only [Bool.and_eq_true, decide_eq_true_eq] at h
  exact h.1

theorem cost_ok (s : Th (List Int)) (c : Th (List Near)) (o : Th (List Int)) (hl : (o ()).length * 8 ≤ 140737488355328) :
    GCall Try.prog 24 [.d (ints s), .d (nears c), .d (ints o)] (.tup [.d (num fun _ => costR (s ()) (c ()) (o ())), .d (fault (fun _ => (costF (s ()) (c ()) (o ())).1) fun _ => (costF (s ()) (c ()) (o ())).2)]) [] := by
  refine g24 (tabOK 0 m0) rfl (Nat.le_of_ble_eq_true rfl) rfl ?_
  repeat' first
    | (refine VIf.mk' ?_ ?_ <;> intro _)
    | (refine LenB.mk ?_; intro _)
    | refine And.intro ?_ ?_
    | exact trivial
    | refine Stop.mk ?_
    | exact ShEq.sl
    | refine VCall.mk' (.mk (check_ok _ _)) (.inl rfl) ?_
    | refine VCall.mk' (.mk (permutation_ok _ _ hl)) (.inl rfl) ?_
    | ((fail_if_success refine Side.mk ?_); (fail_if_success refine Exists.intro ?_ ?_); (fail_if_success refine VLoop.mk ?_); (fail_if_success refine VCut.mk ?_); (fail_if_success refine REq.sl ?_); (fail_if_success refine Same.mk ?_); (fail_if_success refine DEq.mk ?_); (fail_if_success refine VCall.mk ?_); (fail_if_success show False); (fail_if_success show _ = _); cbv)
  all_goals try simp only [ncast, decide_eq_true_eq, decide_eq_false_iff_not, Decidable.not_not, Bool.not_eq_true', Bool.not_eq_false', cond_t, cond_f, toNat_cast] at *
  · rename_i h
    refine Side.mk ?_
    have := ff_bad h
    unfold costR costF; rw [if_neg this, if_neg this]
  · rename_i h
    refine Side.mk ?_
    have := ff_bad h
    unfold costF; rw [if_neg this]
  · rename_i h
    refine Side.mk ?_
    have := ff_bad h
    unfold costF; rw [if_neg this]
  · rename_i h1 h2
    refine Side.mk ?_
    unfold costR costF; rw [if_pos (ff_good h1), h2]; rfl
  · rename_i h1 h2
    refine Side.mk ?_
    unfold costF; rw [if_pos (ff_good h1), h2]; rfl
  · rename_i h1 h2
    refine Side.mk ?_
    unfold costF; rw [if_pos (ff_good h1), h2]; rfl
  · rename_i h1 h2
    have hn := (funFault_good (ff_good h1)).n
    exact Side.mk (by omega)
  rename_i h3 h1 h2
  have hg := funFault_good (ff_good h1)
  obtain ⟨ho, hnd, hmem⟩ := perm_facts h2
  have hF : costF (s ⟨⟩) (c ⟨⟩) (o ⟨⟩) = (0, 0) := by unfold costF; rw [if_pos (ff_good h1), h2]; rfl
  have hR : costR (s ⟨⟩) (c ⟨⟩) (o ⟨⟩) = costOf (s ⟨⟩) (c ⟨⟩) (o ⟨⟩) := by unfold costR; rw [hF]; rfl
  refine VLoop.inv (ι := Nat × List Int) (fun p => ⟨[(0, .d (ints s)), (1, .d (nears c)), (7, .bptr 0 0), (9, .own 2), (10, .d (num fun _ => preS (s ⟨⟩) (o ⟨⟩) p.1)), (33, .d (ints o)), (34, .d (num fun _ => (o ⟨⟩).length)), (35, .d (num fun _ => p.1))], [(2, .sl intSh fun _ => p.2), (0, .box [num fun _ => 0, num fun _ => 0])]⟩)
    (fun p => p.1 ≤ (o ⟨⟩).length ∧ p.2.length = (s ⟨⟩).length ∧ ∀ j, j < p.1 → p.2.getD ((o ⟨⟩).getD j 0).toNat 0 = preS (s ⟨⟩) (o ⟨⟩) j) (fun p => (o ⟨⟩).length - p.1) (0, List.replicate (s ⟨⟩).length 0)
    ⟨Nat.zero_le _, by simp, fun j hj => absurd hj (Nat.not_lt_zero _)⟩ ?_ ?_
  · cbv
    repeat' first | refine And.intro ?_ ?_ | exact trivial | exact Side.mk rfl | exact REq.sl rfl | exact DEq.mk rfl | exact Side.mk (by simp only [ncast]; omega)
  rintro ⟨k, a⟩ ⟨hk, ha, hat⟩
  simp only at hk ha hat
  have hb := preS_bd hg ho k
  have hb1 := preS_bd hg ho (k + 1)
  repeat' first
    | (refine VIf.mk' ?_ ?_ <;> intro _)
    | (refine LenB.mk ?_; intro _)
    | refine And.intro ?_ ?_
    | exact trivial
    | refine Stop.mk ?_
    | exact ShEq.sl
    | ((fail_if_success refine Side.mk ?_); (fail_if_success refine Exists.intro ?_ ?_); (fail_if_success refine VLoop.mk ?_); (fail_if_success refine VCut.mk ?_); (fail_if_success refine REq.sl ?_); (fail_if_success refine Same.mk ?_); (fail_if_success refine DEq.mk ?_); (fail_if_success refine VCall.mk ?_); (fail_if_success show False); (fail_if_success show _ = _); cbv)
  all_goals try simp only [ncast, decide_eq_true_eq, decide_eq_false_iff_not, Decidable.not_not, Bool.not_eq_true', Bool.not_eq_false', cond_t, cond_f, toNat_cast] at *
  · exact Side.mk (by omega)
  · rename_i h
    have := (hmem ((o ⟨⟩).getD k 0)).1 (getD_memI (by omega))
    exact Side.mk (by omega)
  · rename_i h
    have := (hmem ((o ⟨⟩).getD k 0)).1 (getD_memI (by omega))
    exact Side.mk (by omega)
  · rename_i h
    have := preS_succ (s := s ⟨⟩) (o := o ⟨⟩) (k := k) (by omega)
    unfold szOf at this
    exact Side.mk (i64 (by omega))
  · exact Side.mk (i64 (by omega))
  · rename_i h
    have hk1 : k < (o ⟨⟩).length := by omega
    have hm := (hmem ((o ⟨⟩).getD k 0)).1 (getD_memI hk1)
    refine ⟨(k + 1, a.set ((o ⟨⟩).getD k 0).toNat (preS (s ⟨⟩) (o ⟨⟩) k)), ⟨by simp only; omega, by simpa using ha, fun j hj => ?_⟩, by simp only; omega, ?_⟩
    · simp only at hj ⊢
      by_cases e : j = k
      · subst e
        exact set_getD_eq 0 _ (by omega)
      · have hm2 := (hmem ((o ⟨⟩).getD j 0)).1 (getD_memI (by omega))
        rw [set_getD_ne 0 _ (fun e2 => e ?_)]
        · exact hat j (by omega)
        · have e3 : (o ⟨⟩).getD k 0 = (o ⟨⟩).getD j 0 := by omega
          have h4 := placeOf_at hnd hk1
          have h5 := placeOf_at hnd (show j < (o ⟨⟩).length by omega)
          rw [e3] at h4
          omega
    · cbv
      repeat' first | refine And.intro ?_ ?_ | exact trivial | exact Side.mk rfl | exact REq.sl rfl | exact DEq.mk rfl | exact Side.mk (preS_succ hk1).symm
  rename_i hdone hcl
  have hkn : k = (o ⟨⟩).length := by omega
  have hat2 : ∀ x : Int, 0 ≤ x → x < (s ⟨⟩).length → a.getD x.toNat 0 = preS (s ⟨⟩) (o ⟨⟩) (pl (o ⟨⟩) x) := by
    intro x h0 h1
    obtain ⟨i, hi, e1, e2⟩ := placeOf_mem ((hmem x).2 ⟨h0, h1⟩)
    have := hat i (by omega)
    rw [e2] at this
    rw [this]; unfold pl; rw [e1]; rfl
  clear hat hb hb1
  refine VLoop.inv (ι := Nat) (fun k => ⟨[(7, .bptr 0 0), (9, .own 2), (13, .d (num fun _ => sumBy (cost1 (s ⟨⟩) (o ⟨⟩)) ((c ⟨⟩).take k))), (50, .d (nears c)), (51, .d (num fun _ => (c ⟨⟩).length)), (52, .d (num fun _ => k))], [(2, .sl intSh fun _ => a), (0, .box [num fun _ => 0, num fun _ => 0])]⟩)
    (fun k => k ≤ (c ⟨⟩).length) (fun k => (c ⟨⟩).length - k) 0 (Nat.zero_le _) ?_ ?_
  · cbv
    repeat' first | refine And.intro ?_ ?_ | exact trivial | exact Side.mk rfl | exact REq.sl rfl | exact DEq.mk rfl | exact Side.mk (by simp only [ncast]; omega)
  intro k hk
  have hb := costOf_bd hg ho k
  have hb1 := costOf_bd hg ho (k + 1)
  repeat' first
    | (refine VIf.mk' ?_ ?_ <;> intro _)
    | (refine LenB.mk ?_; intro _)
    | refine And.intro ?_ ?_
    | exact trivial
    | refine Stop.mk ?_
    | exact ShEq.sl
    | ((fail_if_success refine Side.mk ?_); (fail_if_success refine Exists.intro ?_ ?_); (fail_if_success refine VLoop.mk ?_); (fail_if_success refine VCut.mk ?_); (fail_if_success refine REq.sl ?_); (fail_if_success refine Same.mk ?_); (fail_if_success refine DEq.mk ?_); (fail_if_success refine VCall.mk ?_); (fail_if_success show False); (fail_if_success show _ = _); cbv)
  all_goals try simp only [ncast, decide_eq_true_eq, decide_eq_false_iff_not, Decidable.not_not, Bool.not_eq_true', Bool.not_eq_false', cond_t, cond_f, toNat_cast] at *
  · exact Side.mk (by omega)
  all_goals try (have hx := hg.ca _ (getD_memL (0, 0, 0) (show k < (c ⟨⟩).length by omega)); have e1 := hat2 _ hx.1.1 hx.1.2; have e2 := hat2 _ hx.2.1.1 hx.2.1.2; have hc1 := cost1_bd hg ho (getD_memL (0, 0, 0) (show k < (c ⟨⟩).length by omega)); have hbS := sumBy_take (cost1 (s ⟨⟩) (o ⟨⟩)) (0, 0, 0) (show k < (c ⟨⟩).length by omega))
  all_goals try (have p1 := preS_bd hg ho (pl (o ⟨⟩) ((c ⟨⟩).getD k (0, 0, 0)).1); have p2 := preS_bd hg ho (pl (o ⟨⟩) ((c ⟨⟩).getD k (0, 0, 0)).2.1))
  · exact Side.mk (by omega)
  · exact Side.mk (by omega)
  · exact Side.mk (i64 (by omega))
  · exact Side.mk (i64 (by omega))
  · rw [e1, e2]
    unfold cost1 absI at hc1
    exact Side.mk (i64 (by omega))
  · rw [e1, e2]
    unfold cost1 absI at hc1
    exact Side.mk (i64 (by omega))
  · exact Side.mk (i64 (by omega))
  · refine ⟨k + 1, by omega, by omega, ?_⟩
    cbv
    repeat' first | refine And.intro ?_ ?_ | exact trivial | exact Side.mk rfl | exact REq.sl rfl | exact DEq.mk rfl
    refine Side.mk ?_
    rw [hbS, e1, e2]
    rfl
  · refine Side.mk ?_
    rw [hR, List.take_of_length_le (by omega)]
    rfl
  · exact Side.mk (by rw [hF])
  · exact Side.mk (by rw [hF])
end Go.Eng
