/- A text of the engine or of the contracts. -/
import Derived.Test.YtmbodncejejceaaCF2
set_option linter.all false
namespace Go.Eng
open Go.Proofs
attribute [local irreducible] vc vops gop step fins fin finP cov covEnv covRows

theorem sizes_ok {x : Int} {l : List Int} {i : Int} (h : 0 ≤ x ∧ x ≤ 1500) : sizesFault (x :: l) i = sizesFault l (i + 1) := by
  conv => lhs; unfold sizesFault
  exact if_pos h
theorem sizes_bad {s : List Int} {c : List Near} {i : Nat} (g3 : ¬ (60 : Int) < s.length) (g4 : ¬ (200 : Int) < c.length) (hi : i < s.length) (hne : sizesFault s 0 = sizesFault (s.drop i) i)
    (h : ¬ (0 ≤ s.getD i 0 ∧ s.getD i 0 ≤ 1500)) : funFault s c = (3, -10 - (i : Int)) := by
  unfold funFault
  rw [if_neg (by omega), if_neg (by omega), hne, drop_getD 0 hi]
  conv => lhs; unfold sizesFault
  rw [if_neg h]

theorem check_ok (s : Th (List Int)) (c : Th (List Near)) : GCall Try.prog 52 [.d (ints s), .d (nears c)] (.d (fault (fun _ => (funFault (s ()) (c ())).1) fun _ => (funFault (s ()) (c ())).2)) [] := by
  refine g52 (tabOK 0 m0) rfl (Nat.le_of_ble_eq_true rfl) rfl ?_
  repeat' first
    | (refine VIf.mk' ?_ ?_ <;> intro _)
    | (refine LenB.mk ?_; intro _)
    | refine And.intro ?_ ?_
    | exact trivial
    | refine Stop.mk ?_
    | ((fail_if_success refine Side.mk ?_); (fail_if_success refine Exists.intro ?_ ?_); (fail_if_success refine VLoop.mk ?_); cbv)
  all_goals try simp only [ncast, decide_eq_true_eq, decide_eq_false_iff_not, Decidable.not_not, Bool.not_eq_true', Bool.not_eq_false', cond_true, cond_false, Int.toNat_natCast] at *
  · rename_i h1
    exact ⟨by unfold funFault; rw [if_pos (by omega)]⟩
  · rename_i h1
    exact ⟨by unfold funFault; rw [if_pos (by omega)]⟩
  · rename_i h1 h2
    exact ⟨by unfold funFault; rw [if_neg (by omega), if_pos (by omega)]⟩
  · rename_i h1 h2
    exact ⟨by unfold funFault; rw [if_neg (by omega), if_pos (by omega)]⟩
  rename_i g1 g2 g5 g3 g4
  refine VLoop.inv (ι := Nat) (fun i => ⟨[(21, .d (num fun _ => i)), (20, .d (num fun _ => (s ⟨⟩).length)), (19, .d (ints s)), (0, .d (ints s)), (1, .d (nears c)), (4, .bptr 0 0)], [(0, .box [num fun _ => 0, num fun _ => 0])]⟩)
    (fun i => i ≤ (s ⟨⟩).length ∧ sizesFault (s ⟨⟩) 0 = sizesFault ((s ⟨⟩).drop i) i) (fun i => (s ⟨⟩).length - i) 0 ⟨Nat.zero_le _, rfl⟩ ?_ ?_
  · cbv
    repeat' first | exact trivial | refine And.intro ?_ ?_ | exact ⟨rfl⟩
  rintro i ⟨hi, hne⟩
  repeat' first
    | (refine VIf.mk' ?_ ?_ <;> intro _)
    | (refine LenB.mk ?_; intro _)
    | refine And.intro ?_ ?_
    | exact trivial
    | refine Stop.mk ?_
    | ((fail_if_success refine Side.mk ?_); (fail_if_success refine Exists.intro ?_ ?_); (fail_if_success refine VLoop.mk ?_); cbv)
  all_goals try simp only [ncast, decide_eq_true_eq, decide_eq_false_iff_not, Decidable.not_not, Bool.not_eq_true', Bool.not_eq_false', cond_true, cond_false, Int.toNat_natCast] at *
  all_goals first
    | exact ⟨by omega⟩
    | exact Side.mk (i64 (by omega))
    | (refine Side.mk ?_; have hb := sizes_bad (i := i) g3 g4 (by omega) hne (by intro h; omega); simp only [hb]; done)
    | skip
  · refine ⟨i + 1, ⟨by omega, ?_⟩, by omega, ?_⟩
    · rw [hne, drop_getD 0 (by omega)]
      exact sizes_ok ⟨by omega, by omega⟩
    · cbv
      repeat' first | exact trivial | refine And.intro ?_ ?_ | exact ⟨rfl⟩
  rename_i h2 g6
  have hs : sizesFault (s ⟨⟩) 0 = none := by
    rw [hne, List.drop_eq_nil_of_le (by omega)]; rfl
  clear hne hi
  refine VLoop.inv (ι := Nat) (fun i => ⟨[(38, .d (num fun _ => i)), (37, .d (num fun _ => (c ⟨⟩).length)), (36, .d (nears c)), (0, .d (ints s)), (4, .bptr 0 0)], [(0, .box [num fun _ => 0, num fun _ => 0])]⟩)
    (fun i => i ≤ (c ⟨⟩).length ∧ callsFault' (s ⟨⟩).length (c ⟨⟩) 0 = callsFault' (s ⟨⟩).length ((c ⟨⟩).drop i) i) (fun i => (c ⟨⟩).length - i) 0 ⟨Nat.zero_le _, rfl⟩ ?_ ?_
  · cbv
    repeat' first | exact trivial | refine And.intro ?_ ?_ | exact ⟨rfl⟩
  rintro i ⟨hi, hne⟩
  repeat' first
    | (refine VIf.mk' ?_ ?_ <;> intro _)
    | (refine LenB.mk ?_; intro _)
    | refine And.intro ?_ ?_
    | exact trivial
    | refine Stop.mk ?_
    | ((fail_if_success refine Side.mk ?_); (fail_if_success refine Exists.intro ?_ ?_); (fail_if_success refine VLoop.mk ?_); cbv)
  all_goals try simp only [ncast, decide_eq_true_eq, decide_eq_false_iff_not, Decidable.not_not, Bool.not_eq_true', Bool.not_eq_false', cond_true, cond_false, Int.toNat_natCast] at *
  all_goals first
    | exact ⟨by omega⟩
    | exact Side.mk (i64 (by omega))
    | (refine Side.mk ?_; have hb := fun_bad (i := i) g3 g4 hs (by omega) hne (by intro h; omega); simp only [hb]; done)
    | skip
  · refine ⟨i + 1, ⟨by omega, ?_⟩, by omega, ?_⟩
    · rw [hne, drop_getD (0, 0, 0) (by omega)]
      exact calls_ok ⟨by omega, by omega, by omega⟩
    · cbv
      repeat' first | exact trivial | refine And.intro ?_ ?_ | exact ⟨rfl⟩
  all_goals
    have hz : funFault (s ⟨⟩) (c ⟨⟩) = (0, 0) := by
      unfold funFault
      rw [if_neg (by omega), if_neg (by omega), hs, hne, List.drop_eq_nil_of_le (by omega)]; rfl
    exact ⟨by simp only [hz]⟩
end Go.Eng
