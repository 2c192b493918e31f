/- The contract of chain.Permutation. -/
import Derived.Test.YtmbodncejejceaaBH4
import Derived.Test.YtmbodncejejceaaBC2
import Derived.Test.YtmbodncejejceaaBUW
set_option linter.all false

namespace Go.Eng
open Go.Proofs
attribute [local irreducible] vc vops gop step fins fin finP cov covEnv covRows

theorem perm_of_sub {α : Type} [DecidableEq α] : ∀ {a l : List α}, a.Nodup → (∀ x ∈ a, x ∈ l) → ∃ r, (a ++ r).Perm l
  | [], l, _, _ => ⟨l, .refl _⟩
  | x :: a, l, hn, h => by
    have h1 := List.nodup_cons.1 hn
    obtain ⟨r, hr⟩ := perm_of_sub (l := l.erase x) h1.2 fun y hy => by
      rw [List.mem_erase_of_ne (fun e : y = x => h1.1 (by rw [← e]; exact hy))]
      exact h y (List.mem_cons_of_mem _ hy)
    exact ⟨r, (hr.cons x).trans (List.perm_cons_erase (h x List.mem_cons_self)).symm⟩
theorem perm_of_sub_len {α : Type} [DecidableEq α] {a l : List α} (hn : a.Nodup) (h : ∀ x ∈ a, x ∈ l) (hl : l.length ≤ a.length) : a.Perm l := by
  obtain ⟨r, hr⟩ := perm_of_sub hn h
  have := hr.length_eq
  rw [List.length_append] at this
  have : r = [] := List.eq_nil_of_length_eq_zero (by omega)
  subst this
  simpa using hr
def idL (n : Nat) : List Int := (List.range n).map fun (i : Nat) => (i : Int)
theorem idL_len (n : Nat) : (idL n).length = n := by simp [idL]
theorem idL_getD {n k : Nat} (h : k < n) : (idL n).getD k 0 = k := by simp [idL, List.getD_eq_getElem?_getD, h]
theorem idL_nodup (n : Nat) : (idL n).Nodup := nodup_range n
theorem mem_idL {n : Nat} {x : Int} : x ∈ idL n ↔ ∃ k : Nat, k < n ∧ (k : Int) = x := by simp [idL]
theorem idL_sorted (n : Nat) : (idL n).Pairwise fun x y => x ≤ y := by
  unfold idL
  refine List.Pairwise.map _ (R := fun a b : Nat => a < b) (fun a b h => ?_) List.pairwise_lt_range
  have : a ≤ b := Nat.le_of_lt h
  omega
theorem permOf_iff {l : List Int} {n : Nat} : permOf l n = true ↔ l.Perm (idL n) := by
  unfold permOf
  simp only [Bool.and_eq_true, List.all_eq_true, List.mem_range, decide_eq_true_eq, Int.toNat_natCast]
  constructor
  · rintro ⟨h1, h2⟩
    refine (perm_of_sub_len (idL_nodup n) (fun x hx => ?_) (by rw [idL_len]; omega)).symm
    obtain ⟨k, hk, rfl⟩ := mem_idL.1 hx
    exact h1 k hk
  · intro h
    refine ⟨fun k hk => h.mem_iff.2 (mem_idL.2 ⟨k, hk, rfl⟩), ?_⟩
    have := h.length_eq
    rw [idL_len] at this
    omega
theorem sortL_perm (l : List Int) : (sortL l).Perm l := List.mergeSort_perm l _
theorem sortL_sorted (l : List Int) : (sortL l).Pairwise fun x y => x ≤ y := by
  have h := List.pairwise_mergeSort (le := fun x y : Int => decide (x ≤ y)) (fun a b c h1 h2 => by simp at *; omega) (fun a b => by simp; omega) l
  exact h.imp fun h => by simpa using h
theorem sortL_id {l : List Int} {n : Nat} (h : l.Perm (idL n)) : sortL l = idL n :=
  ((sortL_perm l).trans h).eq_of_pairwise (le := fun x y : Int => x ≤ y) (fun a b _ _ h1 h2 => Int.le_antisymm h1 h2) (sortL_sorted l) (idL_sorted n)

theorem permS {l : List Int} {n : Int} (h : ∀ k, k < l.length → (sortL l).getD k 0 = k) : permOf l n = decide ((l.length : Int) = n) := by
  have e : sortL l = idL l.length := eq_of_getD 0 (by rw [sortL_length, idL_len]) fun k hk => by
    rw [sortL_length] at hk
    rw [h k hk, idL_getD hk]
  have hp : l.Perm (idL l.length) := e ▸ (sortL_perm l).symm
  by_cases hn : (l.length : Int) = n
  · subst hn
    rw [permOf_iff.2 hp]; simp
  · rw [decide_eq_false hn]
    unfold permOf
    rw [decide_eq_false hn, Bool.and_false]
theorem permS_not {l : List Int} {n : Int} {k : Nat} (hk : k < l.length) (h : (sortL l).getD k 0 ≠ k) : permOf l n = false := by
  cases hp : permOf l n with
  | false => rfl
  | true =>
    have h2 : (l.length : Int) = n := by
      unfold permOf at hp
      simp only [Bool.and_eq_true, decide_eq_true_eq] at hp
      exact hp.2
    subst h2
    have := sortL_id (permOf_iff.1 hp)
    rw [this, idL_getD hk] at h
    exact absurd rfl h

theorem permutation_ok (xs : Th (List Int)) (n : Th Int) (hl : (xs ()).length * 8 ≤ 140737488355328) : GCall Try.prog 60 [.d (ints xs), .d (num n)] (.d (bol fun _ => permOf (xs ()) (n ()))) [] := by
  refine g60 (tabOK 0 m0) rfl (Nat.le_of_ble_eq_true rfl) rfl ?_
  repeat' first
    | (refine VIf.mk' ?_ ?_ <;> intro _)
    | (refine LenB.mk ?_; intro _)
    | refine And.intro ?_ ?_
    | exact trivial
    | refine Stop.mk ?_
    | exact ShEq.sl
    | refine VCall.mk' (.mk (values_ok _)) (.inl rfl) ?_
    | refine VCall.mk' (.mk (sorted_ok _ hl)) (.inl rfl) ?_
    | ((fail_if_success refine Side.mk ?_); (fail_if_success refine Exists.intro ?_ ?_); (fail_if_success refine VLoop.mk ?_); (fail_if_success refine VCut.mk ?_); (fail_if_success refine REq.sl ?_); (fail_if_success refine Same.mk ?_); (fail_if_success refine DEq.mk ?_); (fail_if_success refine VCall.mk ?_); (fail_if_success show False); (fail_if_success show _ = _); cbv)
  all_goals try simp only [ncast, decide_eq_true_eq, decide_eq_false_iff_not, Decidable.not_not, Bool.not_eq_true', Bool.not_eq_false', cond_t, cond_f, toNat_cast] at *
  rename_i hs
  refine VLoop.inv (ι := Nat) (fun i => ⟨[(0, .d (ints xs)), (1, .d (num n)), (11, .own 0), (12, .d (num fun _ => (xs ⟨⟩).length)), (13, .d (num fun _ => i))], [(0, .sl intSh fun _ => sortL (xs ⟨⟩))]⟩)
    (fun i => i ≤ (xs ⟨⟩).length ∧ ∀ k, k < i → (sortL (xs ⟨⟩)).getD k 0 = k) (fun i => (xs ⟨⟩).length - i) 0 ⟨Nat.zero_le _, fun k hk => absurd hk (Nat.not_lt_zero _)⟩ ?_ ?_
  · cbv
    repeat' first | refine And.intro ?_ ?_ | exact trivial | exact Side.mk rfl | exact REq.sl rfl | exact DEq.mk rfl | exact Side.mk (by simp only [ncast]; rw [sortL_length])
  rintro i ⟨hi, hs⟩
  have hsl := sortL_length (xs ⟨⟩)
  repeat' first
    | (refine VIf.mk' ?_ ?_ <;> intro _)
    | (refine LenB.mk ?_; intro _)
    | refine And.intro ?_ ?_
    | exact trivial
    | refine Stop.mk ?_
    | exact ShEq.sl
    | ((fail_if_success refine Side.mk ?_); (fail_if_success refine Exists.intro ?_ ?_); (fail_if_success refine VLoop.mk ?_); (fail_if_success refine VCut.mk ?_); (fail_if_success refine REq.sl ?_); (fail_if_success refine Same.mk ?_); (fail_if_success refine DEq.mk ?_); (fail_if_success refine VCall.mk ?_); (fail_if_success show False); (fail_if_success show _ = _); cbv)
  all_goals try simp only [ncast, decide_eq_true_eq, decide_eq_false_iff_not, Decidable.not_not, Bool.not_eq_true', Bool.not_eq_false', cond_t, cond_f, toNat_cast] at *
  · exact ⟨by omega⟩
  · rename_i h
    refine ⟨?_⟩
    simp only [BV.get]
    exact (permS_not (by omega) h).symm
  · exact Side.mk (i64 (by omega))
  · rename_i h
    refine ⟨i + 1, ⟨by omega, fun k hk => ?_⟩, by omega, ?_⟩
    · by_cases e : k = i
      · subst e; exact h
      · exact hs k (by omega)
    · cbv
      repeat' first | refine And.intro ?_ ?_ | exact trivial | exact Side.mk rfl | exact REq.sl rfl | exact DEq.mk rfl | exact Side.mk (by simp only [ncast]; omega)
  · refine ⟨?_⟩
    simp only [BV.get]
    exact (permS fun k hk => hs k (by omega)).symm
end Go.Eng
