/- A text of the engine or of the contracts. -/
import Derived.Test.YtmbodncejejceaaCC1
set_option linter.all false
namespace Go.Eng
open Go.Proofs
attribute [local irreducible] vc vops gop step fins fin finP cov covEnv covRows

theorem at_ok (c i : Th Int) : GCall Try.prog 26 [.d (num c), .d (num i)] (.d (fault c i)) [] := by
  refine g26 (tabOK 0 m0) rfl (Nat.le_of_ble_eq_true rfl) rfl ?_
  repeat' first
    | (refine VIf.mk' ?_ ?_ <;> intro _)
    | (refine LenB.mk ?_; intro _)
    | refine And.intro ?_ ?_
    | exact trivial
    | refine Stop.mk ?_
    | ((fail_if_success refine Side.mk ?_); (fail_if_success refine Exists.intro ?_ ?_); (fail_if_success refine VLoop.mk ?_); cbv)
  all_goals try simp only [ncast, decide_eq_true_eq, decide_eq_false_iff_not, Decidable.not_not, Bool.not_eq_true', Bool.not_eq_false', Int.toNat_natCast] at *
  all_goals exact ⟨trivial⟩

theorem in_ok (n l h : Th Int) : GCall Try.prog 28 [.d (num n), .d (num l), .d (num h)] (.d (bol fun _ => decide (l () ≤ n () ∧ n () ≤ h ()))) [] := by
  refine g28 (tabOK 0 m0) rfl (Nat.le_of_ble_eq_true rfl) rfl ?_
  repeat' first
    | (refine VIf.mk' ?_ ?_ <;> intro _)
    | (refine LenB.mk ?_; intro _)
    | refine And.intro ?_ ?_
    | exact trivial
    | refine Stop.mk ?_
    | ((fail_if_success refine Side.mk ?_); (fail_if_success refine Exists.intro ?_ ?_); (fail_if_success refine VLoop.mk ?_); cbv)
  all_goals try simp only [ncast, decide_eq_true_eq, decide_eq_false_iff_not, Decidable.not_not, Bool.not_eq_true', Bool.not_eq_false', Int.toNat_natCast] at *
  all_goals refine ⟨?_⟩
  · simp_all [BV.get]
  · rename_i h1; simp only [BV.get]; exact (decide_eq_false fun h2 => h1 h2.1).symm

theorem has_ok (xs : Th (List Int)) (n : Th Int) : GCall Try.prog 38 [.d (ints xs), .d (num n)] (.d (bol fun _ => decide (n () ∈ xs ()))) [] := by
  refine g38 (tabOK 0 m0) rfl (Nat.le_of_ble_eq_true rfl) rfl ?_
  cbv
  refine VLoop.inv (ι := Nat) (fun i => ⟨[(5, .d (num fun _ => i)), (0, .d (ints xs)), (1, .d (num n))], []⟩) (fun i => i ≤ (xs ⟨⟩).length ∧ ∀ k, k < i → (xs ⟨⟩).getD k 0 ≠ n ⟨⟩) (fun i => (xs ⟨⟩).length - i) 0
    ⟨Nat.zero_le _, fun k hk => absurd hk (Nat.not_lt_zero _)⟩ ?_ ?_
  · cbv
    exact ⟨⟨rfl⟩, ⟨rfl⟩, ⟨rfl⟩, trivial⟩
  intro i hi
  obtain ⟨hi, hne⟩ := hi
  repeat' first
    | (refine VIf.mk' ?_ ?_ <;> intro _)
    | (refine LenB.mk ?_; intro _)
    | refine And.intro ?_ ?_
    | exact trivial
    | refine Stop.mk ?_
    | ((fail_if_success refine Side.mk ?_); (fail_if_success refine Exists.intro ?_ ?_); (fail_if_success refine VLoop.mk ?_); cbv)
  all_goals try simp only [ncast, decide_eq_true_eq, decide_eq_false_iff_not, Decidable.not_not, Bool.not_eq_true', Bool.not_eq_false', Int.toNat_natCast] at *
  · exact ⟨by omega⟩
  · rename_i h1 h2 h3
    refine ⟨?_⟩
    simp only [BV.get]
    have hlt : i < (xs ⟨⟩).length := by omega
    refine (decide_eq_true ?_).symm
    rw [← h3, List.getD_eq_getElem?_getD, List.getElem?_eq_getElem hlt]
    exact List.getElem_mem hlt
  · rename_i h1 h2 h3
    exact side64 (f := fun _ => (i : Int) + 1) (by omega)
  · rename_i h1 h2 h3
    refine ⟨i + 1, ⟨by omega, fun k hk => ?_⟩, by omega, ?_⟩
    · by_cases e : k = i
      · subst e; exact h3
      · exact hne k (by omega)
    · cbv
      exact ⟨⟨rfl⟩, ⟨rfl⟩, ⟨rfl⟩, trivial⟩
  · rename_i h1 h2
    refine ⟨?_⟩
    simp only [BV.get]
    refine (decide_eq_false fun hm => ?_).symm
    obtain ⟨k, hk, e⟩ := List.getElem_of_mem hm
    exact hne k (by omega) (by rw [List.getD_eq_getElem?_getD, List.getElem?_eq_getElem hk]; exact e)

/-- The place of a number in a list, or -1. -/
def placeOf : List Int → Int → Int → Int
  | [], _, _ => -1
  | x :: l, k, n => if x = n then k else placeOf l (k + 1) n
theorem placeOf_none : ∀ (l : List Int) (k n : Int), (∀ j, j < l.length → l.getD j 0 ≠ n) → placeOf l k n = -1
  | [], _, _, _ => rfl
  | x :: l, k, n, h => by
    unfold placeOf
    rw [if_neg (by have := h 0 (by simp); simpa using this)]
    exact placeOf_none l _ _ fun j hj => by have := h (j + 1) (by simpa using hj); simpa using this
theorem placeOf_some : ∀ (l : List Int) (k n : Int) (i : Nat), i < l.length → (∀ j, j < i → l.getD j 0 ≠ n) → l.getD i 0 = n → placeOf l k n = k + i
  | [], _, _, i, h, _, _ => by simp at h
  | x :: l, k, n, 0, h, _, e => by unfold placeOf; rw [if_pos (by simpa using e)]; simp
  | x :: l, k, n, i + 1, h, hn, e => by
    unfold placeOf
    rw [if_neg (by have := hn 0 (by omega); simpa using this), placeOf_some l (k + 1) n i (by simpa using h) (fun j hj => by have := hn (j + 1) (by omega); simpa using this) (by simpa using e)]
    omega

theorem place_ok (xs : Th (List Int)) (n : Th Int) : GCall Try.prog 61 [.d (ints xs), .d (num n)] (.d (num fun _ => placeOf (xs ()) 0 (n ()))) [] := by
  refine g61 (tabOK 0 m0) rfl (Nat.le_of_ble_eq_true rfl) rfl ?_
  cbv
  refine VLoop.inv (ι := Nat) (fun i => ⟨[(5, .d (num fun _ => i)), (0, .d (ints xs)), (1, .d (num n))], []⟩) (fun i => i ≤ (xs ⟨⟩).length ∧ ∀ k, k < i → (xs ⟨⟩).getD k 0 ≠ n ⟨⟩) (fun i => (xs ⟨⟩).length - i) 0
    ⟨Nat.zero_le _, fun k hk => absurd hk (Nat.not_lt_zero _)⟩ ?_ ?_
  · cbv
    exact ⟨⟨rfl⟩, ⟨rfl⟩, ⟨rfl⟩, trivial⟩
  intro i hi
  obtain ⟨hi, hne⟩ := hi
  repeat' first
    | (refine VIf.mk' ?_ ?_ <;> intro _)
    | (refine LenB.mk ?_; intro _)
    | refine And.intro ?_ ?_
    | exact trivial
    | refine Stop.mk ?_
    | ((fail_if_success refine Side.mk ?_); (fail_if_success refine Exists.intro ?_ ?_); (fail_if_success refine VLoop.mk ?_); cbv)
  all_goals try simp only [ncast, decide_eq_true_eq, decide_eq_false_iff_not, Decidable.not_not, Bool.not_eq_true', Bool.not_eq_false', Int.toNat_natCast] at *
  · exact ⟨by omega⟩
  · rename_i h1 h2 h3
    refine ⟨?_⟩
    rw [placeOf_some (xs ⟨⟩) 0 (n ⟨⟩) i (by omega) hne h3]
    omega
  · exact side64 (f := fun _ => (i : Int) + 1) (by omega)
  · rename_i h1 h2 h3
    refine ⟨i + 1, ⟨by omega, fun k hk => ?_⟩, by omega, ?_⟩
    · by_cases e : k = i
      · subst e; exact h3
      · exact hne k (by omega)
    · cbv
      exact ⟨⟨rfl⟩, ⟨rfl⟩, ⟨rfl⟩, trivial⟩
  · refine ⟨?_⟩
    rw [placeOf_none _ _ _ fun j hj => hne j (by omega)]

theorem eq_of_getD {α : Type} (d : α) {a b : List α} (h : a.length = b.length) (hk : ∀ k, k < a.length → a.getD k d = b.getD k d) : a = b := by
  refine List.ext_getElem h fun k h1 h2 => ?_
  have := hk k h1
  simpa [List.getD_eq_getElem?_getD, h1, h2] using this

theorem same_ok (a b : Th (List Int)) : GCall Try.prog 22 [.d (ints a), .d (ints b)] (.d (bol fun _ => decide (a () = b ()))) [] := by
  refine g22 (tabOK 0 m0) rfl (Nat.le_of_ble_eq_true rfl) rfl ?_
  repeat' first
    | (refine VIf.mk' ?_ ?_ <;> intro _)
    | (refine LenB.mk ?_; intro _)
    | refine And.intro ?_ ?_
    | exact trivial
    | refine Stop.mk ?_
    | ((fail_if_success refine Side.mk ?_); (fail_if_success refine Exists.intro ?_ ?_); (fail_if_success refine VLoop.mk ?_); cbv)
  all_goals try simp only [ncast, decide_eq_true_eq, decide_eq_false_iff_not, Decidable.not_not, Bool.not_eq_true', Bool.not_eq_false', Int.toNat_natCast] at *
  · rename_i h
    refine ⟨?_⟩
    simp only [BV.get]
    exact (decide_eq_false fun e => h (by rw [e])).symm
  rename_i h0
  refine VLoop.inv (ι := Nat) (fun i => ⟨[(5, .d (num fun _ => i)), (0, .d (ints a)), (1, .d (ints b))], []⟩) (fun i => i ≤ (a ⟨⟩).length ∧ ∀ k, k < i → (a ⟨⟩).getD k 0 = (b ⟨⟩).getD k 0) (fun i => (a ⟨⟩).length - i) 0
    ⟨Nat.zero_le _, fun k hk => absurd hk (Nat.not_lt_zero _)⟩ ?_ ?_
  · cbv
    exact ⟨⟨rfl⟩, ⟨rfl⟩, ⟨rfl⟩, trivial⟩
  intro i hi
  obtain ⟨hi, hne⟩ := hi
  repeat' first
    | (refine VIf.mk' ?_ ?_ <;> intro _)
    | (refine LenB.mk ?_; intro _)
    | refine And.intro ?_ ?_
    | exact trivial
    | refine Stop.mk ?_
    | ((fail_if_success refine Side.mk ?_); (fail_if_success refine Exists.intro ?_ ?_); (fail_if_success refine VLoop.mk ?_); cbv)
  all_goals try simp only [ncast, decide_eq_true_eq, decide_eq_false_iff_not, Decidable.not_not, Bool.not_eq_true', Bool.not_eq_false', Int.toNat_natCast] at *
  · exact ⟨by omega⟩
  · exact ⟨by omega⟩
  · rename_i h
    refine ⟨?_⟩
    simp only [BV.get]
    exact (decide_eq_false fun e => h (by rw [e])).symm
  · exact side64 (f := fun _ => (i : Int) + 1) (by omega)
  · rename_i h
    refine ⟨i + 1, ⟨by omega, fun k hk => ?_⟩, by omega, ?_⟩
    · by_cases e : k = i
      · subst e; exact h
      · exact hne k (by omega)
    · cbv
      exact ⟨⟨rfl⟩, ⟨rfl⟩, ⟨rfl⟩, trivial⟩
  · refine ⟨?_⟩
    simp only [BV.get]
    exact (decide_eq_true (eq_of_getD 0 (by omega) fun k hk => hne k (by omega))).symm

/-- Each of the numbers 0 to n-1 once. -/
def permOf (l : List Int) (n : Int) : Bool := (List.range n.toNat).all (fun k => decide ((k : Int) ∈ l)) && decide ((l.length : Int) = n)
theorem permOf_false {l : List Int} {n : Int} {k : Nat} (hk : (k : Int) < n) (h : (k : Int) ∉ l) : permOf l n = false := by
  unfold permOf
  rw [Bool.and_eq_false_iff]
  left
  rw [List.all_eq_false]
  exact ⟨k, List.mem_range.2 (by omega), by simpa using h⟩
theorem permOf_all {l : List Int} {n : Int} (h : ∀ k : Nat, (k : Int) < n → (k : Int) ∈ l) : permOf l n = decide ((l.length : Int) = n) := by
  unfold permOf
  have : (List.range n.toNat).all (fun k => decide ((k : Int) ∈ l)) = true := by
    rw [List.all_eq_true]
    intro k hk
    exact decide_eq_true (h k (by have := List.mem_range.1 hk; omega))
  rw [this, Bool.true_and]

theorem perm_ok (xs : Th (List Int)) (n : Th Int) (hn : n () ≤ 9223372036854775807) : GCall Try.prog 25 [.d (ints xs), .d (num n)] (.d (bol fun _ => permOf (xs ()) (n ()))) [] := by
  refine g25 (tabOK 0 m0) rfl (Nat.le_of_ble_eq_true rfl) rfl ?_
  cbv
  refine VLoop.inv (ι := Nat) (fun i => ⟨[(5, .d (num fun _ => i)), (0, .d (ints xs)), (1, .d (num n))], []⟩) (fun i => ∀ k : Nat, k < i → (k : Int) < n ⟨⟩ ∧ (k : Int) ∈ xs ⟨⟩) (fun i => (n ⟨⟩).toNat - i) 0
    (fun k hk => absurd hk (Nat.not_lt_zero _)) ?_ ?_
  · cbv
    exact ⟨⟨rfl⟩, ⟨rfl⟩, ⟨rfl⟩, trivial⟩
  intro i hi
  repeat' first
    | (refine VIf.mk' ?_ ?_ <;> intro _)
    | (refine LenB.mk ?_; intro _)
    | refine And.intro ?_ ?_
    | exact trivial
    | refine Stop.mk ?_
    | refine VCall.mk' (.mk (has_ok _ _)) (.inl rfl) ?_
    | ((fail_if_success refine Side.mk ?_); (fail_if_success refine Exists.intro ?_ ?_); (fail_if_success refine VLoop.mk ?_); cbv)
  all_goals try simp only [ncast, decide_eq_true_eq, decide_eq_false_iff_not, Decidable.not_not, Bool.not_eq_true', Bool.not_eq_false', Int.toNat_natCast] at *
  · rename_i h2 h1
    refine ⟨?_⟩
    simp only [BV.get]
    exact (permOf_false h2 h1).symm
  · rename_i h2 h1
    exact side64 (f := fun _ => (i : Int) + 1) (by omega)
  · rename_i h2 h1
    refine ⟨i + 1, fun k hk => ?_, by omega, ?_⟩
    · by_cases e : k = i
      · subst e; exact ⟨h2, h1⟩
      · exact hi k (by omega)
    · cbv
      exact ⟨⟨rfl⟩, ⟨rfl⟩, ⟨rfl⟩, trivial⟩
  · rename_i h1 h2
    refine ⟨?_⟩
    simp only [BV.get]
    exact (permOf_all fun k hk => (hi k (by omega)).2).symm

end Go.Eng
