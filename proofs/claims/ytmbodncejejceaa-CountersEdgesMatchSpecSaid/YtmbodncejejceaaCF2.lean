/- A text of the engine or of the contracts. -/
import Derived.Test.YtmbodncejejceaaCF1
set_option linter.all false
namespace Go.Eng
open Go.Proofs
attribute [local irreducible] vc vops gop step fins fin finP cov covEnv covRows

/-- The fault of functions and calls. -/
def sizesFault : List Int → Int → Option Int
  | [], _ => none
  | x :: l, i => if 0 ≤ x ∧ x ≤ 1500 then sizesFault l (i + 1) else some i
def callsFault' (n : Int) : List Near → Int → Option Int
  | [], _ => none
  | (f, t, c) :: l, i => if (0 ≤ f ∧ f ≤ n - 1) ∧ (0 ≤ t ∧ t ≤ n - 1) ∧ 0 ≤ c ∧ c ≤ 1000000 then callsFault' n l (i + 1) else some i
def funFault (sizes : List Int) (calls : List Near) : Int × Int :=
  if 60 < sizes.length then (2, -1) else if 200 < calls.length then (2, -2) else match sizesFault sizes 0 with
  | some i => (3, -10 - i)
  | none => match callsFault' sizes.length calls 0 with
    | some i => (3, i)
    | none => (0, 0)

theorem drop_getD {α : Type} (d : α) : ∀ {l : List α} {i : Nat}, i < l.length → l.drop i = l.getD i d :: l.drop (i + 1)
  | [], i, h => by simp at h
  | x :: l, 0, h => by simp
  | x :: l, i + 1, h => by simpa using drop_getD d (l := l) (i := i) (by simpa using h)

theorem calls_ok {n : Int} {x : Near} {l : List Near} {i : Int} (h : (0 ≤ x.1 ∧ x.1 ≤ n - 1) ∧ (0 ≤ x.2.1 ∧ x.2.1 ≤ n - 1) ∧ 0 ≤ x.2.2 ∧ x.2.2 ≤ 1000000) : callsFault' n (x :: l) i = callsFault' n l (i + 1) := by
  obtain ⟨f, t, k⟩ := x
  conv => lhs; unfold callsFault'
  exact if_pos h

theorem fun_bad {s : List Int} {c : List Near} {i : Nat} (g3 : ¬ (60 : Int) < s.length) (g4 : ¬ (200 : Int) < c.length) (hs : sizesFault s 0 = none) (hi : i < c.length) (hne : callsFault' s.length c 0 = callsFault' s.length (c.drop i) i)
    (h : ¬ ((0 ≤ (c.getD i (0, 0, 0)).1 ∧ (c.getD i (0, 0, 0)).1 ≤ (s.length : Int) - 1) ∧ (0 ≤ (c.getD i (0, 0, 0)).2.1 ∧ (c.getD i (0, 0, 0)).2.1 ≤ (s.length : Int) - 1) ∧ 0 ≤ (c.getD i (0, 0, 0)).2.2 ∧ (c.getD i (0, 0, 0)).2.2 ≤ 1000000)) :
    funFault s c = (3, (i : Int)) := by
  unfold funFault
  rw [if_neg (by omega), if_neg (by omega), hs, hne, drop_getD (0, 0, 0) hi]
  conv => lhs; unfold callsFault'
  rw [if_neg h]

theorem fault_ok (s : Th (List Int)) (c : Th (List Near)) : GCall Try.prog 20 [.d (ints s), .d (nears c)] (.d (fault (fun _ => (funFault (s ()) (c ())).1) fun _ => (funFault (s ()) (c ())).2)) [] := by
  refine g20 (tabOK 0 m0) rfl (Nat.le_of_ble_eq_true rfl) rfl ?_
  repeat' first
    | (refine VIf.mk' ?_ ?_ <;> intro _)
    | (refine LenB.mk ?_; intro _)
    | refine And.intro ?_ ?_
    | exact trivial
    | refine Stop.mk ?_
    | refine VCall.mk' (.mk (at_ok _ _)) (.inl rfl) ?_
    | refine VCall.mk' (.mk (in_ok _ _ _)) (.inl rfl) ?_
    | ((fail_if_success refine Side.mk ?_); (fail_if_success refine Exists.intro ?_ ?_); (fail_if_success refine VLoop.mk ?_); cbv)
  all_goals try simp only [ncast, decide_eq_true_eq, decide_eq_false_iff_not, Decidable.not_not, Bool.not_eq_true', Bool.not_eq_false', Int.toNat_natCast] at *
  · rename_i h1
    exact ⟨by unfold funFault; rw [if_pos (by omega)]⟩
  · rename_i h1
    exact ⟨by unfold funFault; rw [if_pos (by omega)]⟩
  · rename_i h1 h2
    exact ⟨by unfold funFault; rw [if_neg (by omega), if_pos (by omega)]⟩
  · rename_i h1 h2
    exact ⟨by unfold funFault; rw [if_neg (by omega), if_pos (by omega)]⟩
  rename_i g1 g2 g3 g4
  refine VLoop.inv (ι := Nat) (fun i => ⟨[(5, .d (num fun _ => i)), (0, .d (ints s)), (1, .d (nears c)), (4, .bptr 0 0)], [(0, .box [num fun _ => 0, num fun _ => 0])]⟩)
    (fun i => i ≤ (s ⟨⟩).length ∧ sizesFault (s ⟨⟩) 0 = sizesFault ((s ⟨⟩).drop i) i) (fun i => (s ⟨⟩).length - i) 0 ⟨Nat.zero_le _, rfl⟩ ?_ ?_
  · cbv
    exact ⟨⟨⟨⟨rfl⟩, ⟨rfl⟩, trivial⟩, trivial⟩, ⟨rfl⟩, ⟨rfl⟩, ⟨rfl⟩, trivial, trivial⟩
  rintro i ⟨hi, hne⟩
  repeat' first
    | (refine VIf.mk' ?_ ?_ <;> intro _)
    | (refine LenB.mk ?_; intro _)
    | refine And.intro ?_ ?_
    | exact trivial
    | refine Stop.mk ?_
    | refine VCall.mk' (.mk (at_ok _ _)) (.inl rfl) ?_
    | refine VCall.mk' (.mk (in_ok _ _ _)) (.inl rfl) ?_
    | ((fail_if_success refine Side.mk ?_); (fail_if_success refine Exists.intro ?_ ?_); (fail_if_success refine VLoop.mk ?_); cbv)
  all_goals try simp only [ncast, decide_eq_true_eq, decide_eq_false_iff_not, Decidable.not_not, Bool.not_eq_true', Bool.not_eq_false', Int.toNat_natCast] at *
  · exact ⟨by omega⟩
  · exact side64 (f := fun _ => -10 - (i : Int)) (by omega)
  · rename_i h1 h2 h3
    refine ⟨?_⟩
    unfold funFault
    rw [if_neg (by omega), if_neg (by omega), hne, drop_getD 0 (by omega)]
    unfold sizesFault
    rw [if_neg h3]
  · rename_i h1 h2 h3
    refine ⟨?_⟩
    unfold funFault
    rw [if_neg (by omega), if_neg (by omega), hne, drop_getD 0 (by omega)]
    unfold sizesFault
    rw [if_neg h3]
  · exact side64 (f := fun _ => (i : Int) + 1) (by omega)
  · rename_i h1 h2 h3
    refine ⟨i + 1, ⟨by omega, ?_⟩, by omega, ?_⟩
    · rw [hne, drop_getD 0 (by omega)]
      conv => lhs; unfold sizesFault
      rw [if_pos h3]; rfl
    · cbv
      exact ⟨⟨⟨⟨rfl⟩, ⟨rfl⟩, trivial⟩, trivial⟩, ⟨rfl⟩, ⟨rfl⟩, ⟨rfl⟩, trivial, trivial⟩
  rename_i h1 h2
  have hs : sizesFault (s ⟨⟩) 0 = none := by
    rw [hne, List.drop_eq_nil_of_le (by omega)]; rfl
  clear hne hi h1 h2
  refine VLoop.inv (ι := Nat) (fun i => ⟨[(6, .d (num fun _ => i)), (0, .d (ints s)), (1, .d (nears c)), (4, .bptr 0 0)], [(0, .box [num fun _ => 0, num fun _ => 0])]⟩)
    (fun i => i ≤ (c ⟨⟩).length ∧ callsFault' (s ⟨⟩).length (c ⟨⟩) 0 = callsFault' (s ⟨⟩).length ((c ⟨⟩).drop i) i) (fun i => (c ⟨⟩).length - i) 0 ⟨Nat.zero_le _, rfl⟩ ?_ ?_
  · cbv
    exact ⟨⟨⟨⟨rfl⟩, ⟨rfl⟩, trivial⟩, trivial⟩, ⟨rfl⟩, ⟨rfl⟩, ⟨rfl⟩, trivial, trivial⟩
  rintro i ⟨hi, hne⟩
  repeat' first
    | (refine VIf.mk' ?_ ?_ <;> intro _)
    | (refine LenB.mk ?_; intro _)
    | refine And.intro ?_ ?_
    | exact trivial
    | refine Stop.mk ?_
    | refine VCall.mk' (.mk (at_ok _ _)) (.inl rfl) ?_
    | refine VCall.mk' (.mk (in_ok _ _ _)) (.inl rfl) ?_
    | ((fail_if_success refine Side.mk ?_); (fail_if_success refine Exists.intro ?_ ?_); (fail_if_success refine VLoop.mk ?_); cbv)
  all_goals try simp only [ncast, decide_eq_true_eq, decide_eq_false_iff_not, Decidable.not_not, Bool.not_eq_true', Bool.not_eq_false', Int.toNat_natCast] at *
  all_goals first
    | exact ⟨by omega⟩
    | exact Side.mk (i64 (by omega))
    | (refine Side.mk ?_; have hb := fun_bad (i := i) g3 g4 hs (by omega) hne (by intro h; omega); rw [hb]; done)
    | (refine Side.mk ?_; have hb := fun_bad (i := i) g3 g4 hs (by omega) hne (by intro h; omega); simp only [hb]; done)
    | skip
  · refine ⟨i + 1, ⟨by omega, ?_⟩, by omega, ?_⟩
    · rw [hne, drop_getD (0, 0, 0) (by omega)]
      exact calls_ok ⟨by omega, by omega, by omega⟩
    · cbv
      exact ⟨⟨⟨⟨rfl⟩, ⟨rfl⟩, trivial⟩, trivial⟩, ⟨rfl⟩, ⟨rfl⟩, ⟨rfl⟩, trivial, trivial⟩
  all_goals
    have hz : funFault (s ⟨⟩) (c ⟨⟩) = (0, 0) := by
      unfold funFault
      rw [if_neg (by omega), if_neg (by omega), hs, hne, List.drop_eq_nil_of_le (by omega)]; rfl
    exact ⟨by simp only [hz]⟩
end Go.Eng
