/- The contract of R.Cost. -/
import Derived.Test.YtmbodncejejceaaF10
set_option linter.all false
namespace Go.Eng
open Go.Proofs
attribute [local irreducible] vc vops gop step fins fin finP cov covEnv covRows

theorem rcost_ok (s : Th (List Int)) (c : Th (List Near)) (o : Th (List Int)) (hg : goodF (s ()) (c ())) (hp : permOf (o ()) (s ()).length = true) :
    GCall Try.prog 27 [.d (ints s), .d (nears c), .d (ints o)] (.d (num fun _ => costOf (s ()) (c ()) (o ()))) [] := by
  refine g27 (tabOK 0 m0) rfl (Nat.le_of_ble_eq_true rfl) rfl ?_
  obtain ⟨ho, hnd, hmem⟩ := perm_facts hp
  cbv
  refine VLoop.inv (ι := Nat) (fun k => ⟨[(0, .d (ints s)), (1, .d (nears c)), (2, .d (ints o)), (7, .d (num fun _ => sumBy (cost1 (s ⟨⟩) (o ⟨⟩)) ((c ⟨⟩).take k))), (8, .d (num fun _ => k))], []⟩)
    (fun k => k ≤ (c ⟨⟩).length) (fun k => (c ⟨⟩).length - k) 0 (Nat.zero_le _) ?_ ?_
  · cbv
    repeat' first | refine And.intro ?_ ?_ | exact trivial | exact Side.mk rfl | exact REq.sl rfl | exact DEq.mk rfl | exact Side.mk (by simp only [ncast]; omega)
  intro k hk
  have hgn := hg.n
  have hb := costOf_bd hg ho k
  have hb1 := costOf_bd hg ho (k + 1)
  repeat' first
    | (refine VIf.mk' ?_ ?_ <;> intro _)
    | (refine LenB.mk ?_; intro _)
    | refine And.intro ?_ ?_
    | exact trivial
    | refine Stop.mk ?_
    | exact ShEq.sl
    | refine VCall.mk' (.mk (place_ok _ _)) (.inl rfl) ?_
    | ((fail_if_success refine Side.mk ?_); (fail_if_success refine Exists.intro ?_ ?_); (fail_if_success refine VLoop.mk ?_); (fail_if_success refine VCut.mk ?_); (fail_if_success refine REq.sl ?_); (fail_if_success refine Same.mk ?_); (fail_if_success refine DEq.mk ?_); (fail_if_success refine VCall.mk ?_); (fail_if_success show False); (fail_if_success show _ = _); cbv)
  all_goals try simp only [ncast, decide_eq_true_eq, decide_eq_false_iff_not, Decidable.not_not, Bool.not_eq_true', Bool.not_eq_false', cond_t, cond_f, toNat_cast] at *
  · exact Side.mk (by omega)
  · exact Side.mk (by omega)
  · rename_i h
    have hk1 : k < (c ⟨⟩).length := by omega
    have hx := hg.ca _ (getD_memL (0, 0, 0) hk1)
    obtain ⟨i, hi, ei, _⟩ := placeOf_mem ((hmem _).2 hx.1)
    obtain ⟨j, hj, ej, _⟩ := placeOf_mem ((hmem _).2 hx.2.1)
    have hc1 := cost1_bd hg ho (getD_memL (0, 0, 0) hk1)
    have hbS := sumBy_take (cost1 (s ⟨⟩) (o ⟨⟩)) (0, 0, 0) hk1
    have hcx : cost1 (s ⟨⟩) (o ⟨⟩) ((c ⟨⟩).getD k (0, 0, 0)) = ((c ⟨⟩).getD k (0, 0, 0)).2.2 * (preS (s ⟨⟩) (o ⟨⟩) (max i j) - preS (s ⟨⟩) (o ⟨⟩) (min i j)) := by
      unfold cost1 pl absI
      rw [ei, ej]
      simp only [Int.toNat_natCast]
      congr 1
      rcases Nat.le_total i j with h | h
      · have := preS_mono (s := s ⟨⟩) (o := o ⟨⟩) hg.sz h
        rw [Nat.max_eq_right h, Nat.min_eq_left h]; omega
      · have := preS_mono (s := s ⟨⟩) (o := o ⟨⟩) hg.sz h
        rw [Nat.max_eq_left h, Nat.min_eq_right h]; omega
    refine VLoop.inv (ι := Nat) (fun m => ⟨[(0, .d (ints s)), (1, .d (nears c)), (2, .d (ints o)), (7, .d (num fun _ => sumBy (cost1 (s ⟨⟩) (o ⟨⟩)) ((c ⟨⟩).take k))), (8, .d (num fun _ => k)), (9, .d (num fun _ => i)), (10, .d (num fun _ => j)),
        (11, .d (num fun _ => preS (s ⟨⟩) (o ⟨⟩) m - preS (s ⟨⟩) (o ⟨⟩) (min i j))), (12, .d (num fun _ => m))], []⟩)
      (fun m => min i j ≤ m ∧ m ≤ max i j) (fun m => max i j - m) (min i j) ⟨Nat.le_refl _, by omega⟩ ?_ ?_
    · cbv
      repeat' first | refine And.intro ?_ ?_ | exact trivial | exact Side.mk rfl | exact REq.sl rfl | exact DEq.mk rfl | exact Side.mk (by simp only [cond_t, cond_f, ei, ej, ncast]; omega) | exact Side.mk (by omega) | exact Side.mk ei | exact Side.mk ej
    rintro m ⟨hm1, hm2⟩
    have q1 := preS_bd hg ho m
    have q2 := preS_bd hg ho (min i j)
    have q3 := preS_bd hg ho (m + 1)
    repeat' first
      | (refine VIf.mk' ?_ ?_ <;> intro _)
      | (refine LenB.mk ?_; intro _)
      | refine And.intro ?_ ?_
      | exact trivial
      | refine Stop.mk ?_
      | exact ShEq.sl
      | ((fail_if_success refine Side.mk ?_); (fail_if_success refine Exists.intro ?_ ?_); (fail_if_success refine VLoop.mk ?_); (fail_if_success refine VCut.mk ?_); (fail_if_success refine REq.sl ?_); (fail_if_success refine Same.mk ?_); (fail_if_success refine DEq.mk ?_); (fail_if_success refine VCall.mk ?_); (fail_if_success show False); (fail_if_success show _ = _); cbv)
    all_goals try simp only [ncast, decide_eq_true_eq, decide_eq_false_iff_not, Decidable.not_not, Bool.not_eq_true', Bool.not_eq_false', cond_t, cond_f, toNat_cast] at *
    · exact Side.mk (by omega)
    · have := (hmem _).1 (getD_memI (show m < (o ⟨⟩).length by omega))
      exact Side.mk (by omega)
    · have := preS_succ (s := s ⟨⟩) (o := o ⟨⟩) (k := m) (by omega)
      unfold szOf at this
      exact Side.mk (i64 (by omega))
    · exact Side.mk (i64 (by omega))
    · have hS := preS_succ (s := s ⟨⟩) (o := o ⟨⟩) (k := m) (by omega)
      unfold szOf at hS
      refine ⟨m + 1, ⟨by omega, by omega⟩, by omega, ?_⟩
      cbv
      repeat' first | refine And.intro ?_ ?_ | exact trivial | exact Side.mk rfl | exact REq.sl rfl | exact DEq.mk rfl | exact Side.mk (by rw [hS]; omega)
    all_goals
      have hm : m = max i j := by omega
      subst hm
    · exact Side.mk (by omega)
    · rw [← hcx]
      exact Side.mk (i64 (by omega))
    · rw [← hcx]
      exact Side.mk (i64 (by omega))
    · exact Side.mk (i64 (by omega))
    · refine ⟨k + 1, by omega, by omega, ?_⟩
      cbv
      repeat' first | refine And.intro ?_ ?_ | exact trivial | exact Side.mk rfl | exact REq.sl rfl | exact DEq.mk rfl | exact Side.mk (by rw [hbS, hcx])
  · refine Side.mk ?_
    rw [List.take_of_length_le (by omega)]
    rfl
end Go.Eng
