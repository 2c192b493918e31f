/- Contracts of the stable sort's parts: ranges swapped, parts rotated. -/
import Derived.Test.YtmbodncejejceaaCSM
import Derived.Test.YtmbodncejejceaaCCS1
set_option linter.all false

namespace Go.Eng
open Go.Proofs
attribute [local irreducible] vc vops gop step fins fin finP cov covEnv covRows softs qop hop

theorem swr_ok (xs : Th (List Int)) (a b n : Th Int) (c : D) (A B N : Nat) (ha : a ⟨⟩ = A) (hb : b ⟨⟩ = B) (hn : n ⟨⟩ = N) (h1 : A + N ≤ B) (h2 : B + N ≤ (xs ⟨⟩).length) (hl : (xs ⟨⟩).length ≤ 1000000) :
    GCall Try.prog 132 [.row (.sl intSh xs), .d (num a), .d (num b), .d (num n), .d c] (.tup []) [.sl intSh fun _ => swr (xs ⟨⟩) 0 A B N] := by
  refine g132 (tabOK 1 ms) rfl (Nat.le_of_ble_eq_true rfl) rfl ?_
  repeat' first
    | (refine VIf.mk' ?_ ?_ <;> intro _)
    | (refine LenB.mk ?_; intro _)
    | refine And.intro ?_ ?_
    | exact trivial
    | refine Stop.mk ?_
    | exact ShEq.sl
    | ((fail_if_success refine Side.mk ?_); (fail_if_success refine Exists.intro ?_ ?_); (fail_if_success refine VLoop.mk ?_); (fail_if_success refine VCut.mk ?_); (fail_if_success refine REq.sl ?_); (fail_if_success refine Same.mk ?_); (fail_if_success refine DEq.mk ?_); (fail_if_success refine VCall.mk ?_); (fail_if_success refine SReg.go ?_); (fail_if_success refine QCall.mk ?_); (fail_if_success refine Dec.mk ?_); (fail_if_success show False); (fail_if_success show _ = _); cbv)
  refine VLoop.inv (ι := Nat) (fun i => ⟨[(0, .own 0), (1, .d (num a)), (2, .d (num b)), (3, .d (num n)), (10, .d (num fun _ => i))], [(0, .sl intSh fun _ => swr (xs ⟨⟩) 0 A B i)]⟩)
    (fun i => i ≤ N) (fun i => N - i) 0 (Nat.zero_le _) ?_ ?_
  · cbv
    repeat' first | refine And.intro ?_ ?_ | exact trivial | exact Side.mk rfl | exact REq.sl rfl | exact DEq.mk rfl | exact REq.sl (swr_zero _ _ _).symm
  intro i hi
  have hL : (swr (xs ⟨⟩) 0 A B i).length = (xs ⟨⟩).length := swr_length _ _ _ _
  repeat' first
    | (refine VIf.mk' ?_ ?_ <;> intro _)
    | (refine LenB.mk ?_; intro _)
    | refine And.intro ?_ ?_
    | exact trivial
    | refine Stop.mk ?_
    | exact ShEq.sl
    | ((fail_if_success refine Side.mk ?_); (fail_if_success refine Exists.intro ?_ ?_); (fail_if_success refine VLoop.mk ?_); (fail_if_success refine VCut.mk ?_); (fail_if_success refine REq.sl ?_); (fail_if_success refine Same.mk ?_); (fail_if_success refine DEq.mk ?_); (fail_if_success refine VCall.mk ?_); (fail_if_success refine SReg.go ?_); (fail_if_success refine QCall.mk ?_); (fail_if_success refine Dec.mk ?_); (fail_if_success show False); (fail_if_success show _ = _); cbv)
  all_goals try simp only [ncast, decide_eq_true_eq, decide_eq_false_iff_not, Decidable.not_not, Bool.not_eq_true', Bool.not_eq_false', cond_t, cond_f, toNat_cast] at *
  all_goals try (first | exact Side.mk (i64 (by (try simp only [ncast] at *); omega)) | exact Side.mk (by (try simp only [ncast] at *); (try simp only [List.length_set, List.length_cons, List.length_nil, List.length_append]); omega))
  · have e1 : (a ⟨⟩ + (i : Int)).toNat = A + i := by omega
    have e2 : (b ⟨⟩ + (i : Int)).toNat = B + i := by omega
    have e : ((swr (xs ⟨⟩) 0 A B i).set (a ⟨⟩ + (i : Int)).toNat ((swr (xs ⟨⟩) 0 A B i).getD (b ⟨⟩ + (i : Int)).toNat 0)).set (b ⟨⟩ + (i : Int)).toNat ((swr (xs ⟨⟩) 0 A B i).getD (a ⟨⟩ + (i : Int)).toNat 0) = swr (xs ⟨⟩) 0 A B (i + 1) := by
      rw [e1, e2]; exact swr_succ (by omega) (by omega)
    refine ⟨i + 1, by omega, by omega, ?_⟩
    cbv
    repeat' first | refine And.intro ?_ ?_ | exact trivial | exact Side.mk rfl | exact REq.sl rfl | exact DEq.mk rfl | exact REq.sl e
  · have : i = N := by omega
    subst this
    exact REq.sl rfl

theorem swr_side (xs : Th (List Int)) (a b n : Th Int) (c : D) (A B N : Nat) (h : Side fun _ => a ⟨⟩ = A ∧ b ⟨⟩ = B ∧ n ⟨⟩ = N ∧ A + N ≤ B ∧ B + N ≤ (xs ⟨⟩).length ∧ (xs ⟨⟩).length ≤ 1000000) :
    GCall Try.prog 132 [.row (.sl intSh xs), .d (num a), .d (num b), .d (num n), .d c] (.tup []) [.sl intSh fun _ => swr (xs ⟨⟩) 0 A B N] := swr_ok xs a b n c A B N h.h.1 h.h.2.1 h.h.2.2.1 h.h.2.2.2.1 h.h.2.2.2.2.1 h.h.2.2.2.2.2

theorem rot_ok (xs : Th (List Int)) (a m b : Th Int) (g : FuncId) (caps : List D) (A M B : Nat) (ha : a ⟨⟩ = A) (hm : m ⟨⟩ = M) (hb : b ⟨⟩ = B) (h1 : A < M) (h2 : M < B) (h3 : B ≤ (xs ⟨⟩).length) (hl : (xs ⟨⟩).length ≤ 1000000) :
    GCall Try.prog 123 [.row (.sl intSh xs), .d (num a), .d (num m), .d (num b), .d (.fn g caps)] (.tup []) [.sl intSh fun _ => rot (xs ⟨⟩) A M B] := by
  replace ha : 0 ≤ a ⟨⟩ ∧ (a ⟨⟩).toNat = A := by omega
  replace hm : 0 ≤ m ⟨⟩ ∧ (m ⟨⟩).toNat = M := by omega
  replace hb : 0 ≤ b ⟨⟩ ∧ (b ⟨⟩).toNat = B := by omega
  refine g123 (tabOK 1 ms) rfl (Nat.le_of_ble_eq_true rfl) rfl ?_
  repeat' first
    | (refine VIf.mk' ?_ ?_ <;> intro _)
    | (refine LenB.mk ?_; intro _)
    | refine And.intro ?_ ?_
    | exact trivial
    | refine Stop.mk ?_
    | exact ShEq.sl
    | ((fail_if_success refine Side.mk ?_); (fail_if_success refine Exists.intro ?_ ?_); (fail_if_success refine VLoop.mk ?_); (fail_if_success refine VCut.mk ?_); (fail_if_success refine REq.sl ?_); (fail_if_success refine Same.mk ?_); (fail_if_success refine DEq.mk ?_); (fail_if_success refine VCall.mk ?_); (fail_if_success refine SReg.go ?_); (fail_if_success refine QCall.mk ?_); (fail_if_success refine Dec.mk ?_); (fail_if_success show False); (fail_if_success show _ = _); cbv)
  · exact Side.mk (i64 (by omega))
  · exact Side.mk (i64 (by omega))
  refine VLoop.inv (ι := List Int × Nat × Nat) (fun p => ⟨[(0, .own 0), (2, .d (num m)), (4, .d (.fn g caps)), (10, .d (num fun _ => p.2.1)), (11, .d (num fun _ => p.2.2))], [(0, .sl intSh fun _ => p.1)]⟩)
    (fun p => 0 < p.2.1 ∧ 0 < p.2.2 ∧ p.2.1 ≤ M ∧ M + p.2.2 ≤ (xs ⟨⟩).length ∧ p.1.length = (xs ⟨⟩).length ∧ rot p.1 (M - p.2.1) M (M + p.2.2) = rot (xs ⟨⟩) A M B) (fun p => p.2.1 + p.2.2) (xs ⟨⟩, M - A, B - M) ⟨by simp only; omega, by simp only; omega, by simp only; omega, by simp only; omega, rfl, by simp only; congr 1 <;> omega⟩ ?_ ?_
  · cbv
    repeat' first | refine And.intro ?_ ?_ | exact trivial | exact Side.mk rfl | exact REq.sl rfl | exact DEq.mk rfl | exact Side.mk (by (try simp only [ncast] at *); omega)
  rintro ⟨ys, i, j⟩ ⟨hi, hj, hiM, hjM, hyl, hr⟩
  simp only at hi hj hiM hjM hyl hr
  repeat' first
    | (refine VIf.mk' ?_ ?_ <;> intro _)
    | (refine LenB.mk ?_; intro _)
    | refine And.intro ?_ ?_
    | exact trivial
    | refine Stop.mk ?_
    | exact ShEq.sl
    | ((fail_if_success refine Side.mk ?_); (fail_if_success refine Exists.intro ?_ ?_); (fail_if_success refine VLoop.mk ?_); (fail_if_success refine VCut.mk ?_); (fail_if_success refine REq.sl ?_); (fail_if_success refine Same.mk ?_); (fail_if_success refine DEq.mk ?_); (fail_if_success refine VCall.mk ?_); (fail_if_success refine SReg.go ?_); (fail_if_success refine QCall.mk ?_); (fail_if_success refine Dec.mk ?_); (fail_if_success show False); (fail_if_success show _ = _); cbv)
  all_goals try (first | exact Side.mk (i64 (by (try simp only [ncast] at *); omega)) | exact Side.mk (by (try simp only [ncast] at *); (try simp only [List.length_set, List.length_cons, List.length_nil, List.length_append]); omega))
  · rename_i h1 h2
    simp only [ncast, decide_eq_true_eq] at h1 h2
    replace h2 : j < i := by omega
    clear h1
    refine VCall.mk' (.mk (swr_side _ _ _ _ _ (M - i) M j ?_)) (.inl rfl) ?_
    · exact Side.mk (by simp only [ncast, true_and]; omega)
    repeat' first
      | (refine VIf.mk' ?_ ?_ <;> intro _)
      | (refine LenB.mk ?_; intro _)
      | refine And.intro ?_ ?_
      | exact trivial
      | refine Stop.mk ?_
      | exact ShEq.sl
      | ((fail_if_success refine Side.mk ?_); (fail_if_success refine Exists.intro ?_ ?_); (fail_if_success refine VLoop.mk ?_); (fail_if_success refine VCut.mk ?_); (fail_if_success refine REq.sl ?_); (fail_if_success refine Same.mk ?_); (fail_if_success refine DEq.mk ?_); (fail_if_success refine VCall.mk ?_); (fail_if_success refine SReg.go ?_); (fail_if_success refine QCall.mk ?_); (fail_if_success refine Dec.mk ?_); (fail_if_success show False); (fail_if_success show _ = _); cbv)
    all_goals try (first | exact Side.mk (i64 (by (try simp only [ncast] at *); omega)) | exact Side.mk (by (try simp only [ncast] at *); (try simp only [List.length_set, List.length_cons, List.length_nil, List.length_append]); omega))
    · refine ⟨(swr ys 0 (M - i) M j, i - j, j), ⟨by simp only; omega, by simp only; omega, by simp only; omega, by simp only; omega, by simp only; rw [swr_length]; omega, ?_⟩, by simp only; omega, ?_⟩
      · simp only
        rw [rot_left (by omega) (by omega) (by omega)]; exact hr
      · cbv
        repeat' (first | refine And.intro ?_ ?_ | exact trivial | exact Side.mk rfl | exact REq.sl rfl | exact DEq.mk rfl | exact Side.mk (by (try simp only [ncast] at *); omega))
  · rename_i h1 h2
    simp only [ncast, decide_eq_true_eq, decide_eq_false_iff_not] at h1 h2
    replace h2 : i < j := by omega
    clear h1
    refine VCall.mk' (.mk (swr_side _ _ _ _ _ (M - i) (M + j - i) i ?_)) (.inl rfl) ?_
    · exact Side.mk (by simp only [ncast, true_and]; omega)
    repeat' first
      | (refine VIf.mk' ?_ ?_ <;> intro _)
      | (refine LenB.mk ?_; intro _)
      | refine And.intro ?_ ?_
      | exact trivial
      | refine Stop.mk ?_
      | exact ShEq.sl
      | ((fail_if_success refine Side.mk ?_); (fail_if_success refine Exists.intro ?_ ?_); (fail_if_success refine VLoop.mk ?_); (fail_if_success refine VCut.mk ?_); (fail_if_success refine REq.sl ?_); (fail_if_success refine Same.mk ?_); (fail_if_success refine DEq.mk ?_); (fail_if_success refine VCall.mk ?_); (fail_if_success refine SReg.go ?_); (fail_if_success refine QCall.mk ?_); (fail_if_success refine Dec.mk ?_); (fail_if_success show False); (fail_if_success show _ = _); cbv)
    all_goals try (first | exact Side.mk (i64 (by (try simp only [ncast] at *); omega)) | exact Side.mk (by (try simp only [ncast] at *); (try simp only [List.length_set, List.length_cons, List.length_nil, List.length_append]); omega))
    · refine ⟨(swr ys 0 (M - i) (M + j - i) i, i, j - i), ⟨by simp only; omega, by simp only; omega, by simp only; omega, by simp only; omega, by simp only; rw [swr_length]; omega, ?_⟩, by simp only; omega, ?_⟩
      · simp only
        rw [rot_right (by omega) (by omega) (by omega)]; exact hr
      · cbv
        repeat' (first | refine And.intro ?_ ?_ | exact trivial | exact Side.mk rfl | exact REq.sl rfl | exact DEq.mk rfl | exact Side.mk (by (try simp only [ncast] at *); omega))
  · rename_i h1
    simp only [ncast, decide_eq_true_eq, decide_eq_false_iff_not, Decidable.not_not] at h1
    obtain rfl : i = j := by omega
    refine VCall.mk' (.mk (swr_side _ _ _ _ _ (M - i) M i ?_)) (.inl rfl) ?_
    · exact Side.mk (by simp only [ncast, true_and]; omega)
    repeat' first
      | (refine VIf.mk' ?_ ?_ <;> intro _)
      | (refine LenB.mk ?_; intro _)
      | refine And.intro ?_ ?_
      | exact trivial
      | refine Stop.mk ?_
      | exact ShEq.sl
      | ((fail_if_success refine Side.mk ?_); (fail_if_success refine Exists.intro ?_ ?_); (fail_if_success refine VLoop.mk ?_); (fail_if_success refine VCut.mk ?_); (fail_if_success refine REq.sl ?_); (fail_if_success refine Same.mk ?_); (fail_if_success refine DEq.mk ?_); (fail_if_success refine VCall.mk ?_); (fail_if_success refine SReg.go ?_); (fail_if_success refine QCall.mk ?_); (fail_if_success refine Dec.mk ?_); (fail_if_success show False); (fail_if_success show _ = _); cbv)
    refine REq.sl ?_
    rw [← hr]; exact rot_both (xs := ys) (by omega) (by omega)
theorem rot_side (xs : Th (List Int)) (a m b : Th Int) (g : FuncId) (caps : List D) (A M B : Nat) (h : Side fun _ => a ⟨⟩ = A ∧ m ⟨⟩ = M ∧ b ⟨⟩ = B ∧ A < M ∧ M < B ∧ B ≤ (xs ⟨⟩).length ∧ (xs ⟨⟩).length ≤ 1000000) :
    GCall Try.prog 123 [.row (.sl intSh xs), .d (num a), .d (num m), .d (num b), .d (.fn g caps)] (.tup []) [.sl intSh fun _ => rot (xs ⟨⟩) A M B] := rot_ok xs a m b g caps A M B h.h.1 h.h.2.1 h.h.2.2.1 h.h.2.2.2.1 h.h.2.2.2.2.1 h.h.2.2.2.2.2.1 h.h.2.2.2.2.2.2
end Go.Eng
