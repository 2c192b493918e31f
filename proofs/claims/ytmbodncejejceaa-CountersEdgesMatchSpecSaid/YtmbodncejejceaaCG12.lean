/- The contracts of Edges and SamePairs; the law of Edges. -/
import Derived.Test.YtmbodncejejceaaCG11
set_option linter.all false

namespace Go.Eng
open Go.Proofs
attribute [local irreducible] vc vops gop step fins fin finP cov covEnv covRows softs qop hop

def edgR (g : List Bk) (e : List Int) : List Pr := if (entF g e).1 = 0 then edgesL g e else []

set_option maxHeartbeats 1000000 in
theorem edges_ok (g : Th (List Bk)) (e : Th (List Int)) (h : Side fun _ => GB (g ⟨⟩) ∧ LB (e ⟨⟩)) :
    GCall Try.prog 41 [.d (blocks g), .d (ints e)] (.tup [.d (pairs fun _ => edgR (g ⟨⟩) (e ⟨⟩)), .d (fault (fun _ => (entF (g ⟨⟩) (e ⟨⟩)).1) fun _ => (entF (g ⟨⟩) (e ⟨⟩)).2)]) [] := by
  refine g41 (tabOK 0 ms) rfl (Nat.le_of_ble_eq_true rfl) rfl ?_
  repeat' first
    | (refine VIf.mk' ?_ ?_ <;> intro _)
    | (refine LenB.mk ?_; intro _)
    | refine And.intro ?_ ?_
    | exact trivial
    | refine Stop.mk ?_
    | exact ShEq.sl
    | refine VCall.mk' (.mk (check_ok' _ _ h)) (.inl rfl) ?_
    | ((fail_if_success refine Side.mk ?_); (fail_if_success refine Exists.intro ?_ ?_); (fail_if_success refine VLoop.mk ?_); (fail_if_success refine VCut.mk ?_); (fail_if_success refine REq.sl ?_); (fail_if_success refine Same.mk ?_); (fail_if_success refine DEq.mk ?_); (fail_if_success refine VCall.mk ?_); (fail_if_success refine SReg.go ?_); (fail_if_success refine QCall.mk ?_); (fail_if_success refine Dec.mk ?_); (fail_if_success show False); (fail_if_success show _ = _); cbv)
  all_goals try simp only [ncast, decide_eq_true_eq, decide_eq_false_iff_not, Decidable.not_not, Bool.not_eq_true', Bool.not_eq_false', cond_t, cond_f, toNat_cast] at *
  · rename_i h1
    have := flt_ne h1 fun h => (entF_good h).1
    exact Side.mk (by unfold edgR; rw [if_neg this])
  · exact Side.mk trivial
  · exact Side.mk trivial
  rename_i h1
  have h0 : (entF (g ⟨⟩) (e ⟨⟩)).1 = 0 := flt_eq (by simpa using h1)
  clear h1
  obtain ⟨h01, hG, hE⟩ := entF_good h0
  have hEd : Side fun _ => EdPre (g ⟨⟩) (e ⟨⟩) := ⟨⟨hG, hE⟩⟩
  have hpe := GCall.frz (by rfl) (pedges_ok g e hEd)
  have he : edgesL (g ⟨⟩) (e ⟨⟩) = edgR (g ⟨⟩) (e ⟨⟩) := by unfold edgR; rw [if_pos h0]
  repeat' first
    | (refine VIf.mk' ?_ ?_ <;> intro _)
    | (refine LenB.mk ?_; intro _)
    | refine And.intro ?_ ?_
    | exact trivial
    | refine Stop.mk ?_
    | exact ShEq.sl
    | refine VCall.mk' (.mk (hpe)) (.inl rfl) ?_
    | ((fail_if_success refine Side.mk ?_); (fail_if_success refine Exists.intro ?_ ?_); (fail_if_success refine VLoop.mk ?_); (fail_if_success refine VCut.mk ?_); (fail_if_success refine REq.sl ?_); (fail_if_success refine Same.mk ?_); (fail_if_success refine DEq.mk ?_); (fail_if_success refine VCall.mk ?_); (fail_if_success refine SReg.go ?_); (fail_if_success refine QCall.mk ?_); (fail_if_success refine Dec.mk ?_); (fail_if_success show False); (fail_if_success show _ = _); cbv)
  all_goals try simp only [ncast, decide_eq_true_eq, decide_eq_false_iff_not, Decidable.not_not, Bool.not_eq_true', Bool.not_eq_false', cond_t, cond_f, toNat_cast] at *
  · exact DEq.mk (congrArg pairs (funext fun _ => he))
  · exact Side.mk (by rw [h01])
  · exact Side.mk (by rw [h01])

set_option maxHeartbeats 1000000 in
theorem samep_ok (a b : Th (List Pr)) : GCall Try.prog 42 [.d (pairs a), .d (pairs b)] (.d (bol fun _ => decide (a ⟨⟩ = b ⟨⟩))) [] := by
  refine g42 (tabOK 0 ms) rfl (Nat.le_of_ble_eq_true rfl) rfl ?_
  repeat' first
    | (refine VIf.mk' ?_ ?_ <;> intro _)
    | (refine LenB.mk ?_; intro _)
    | refine And.intro ?_ ?_
    | exact trivial
    | refine Stop.mk ?_
    | exact ShEq.sl
    | ((fail_if_success refine Side.mk ?_); (fail_if_success refine Exists.intro ?_ ?_); (fail_if_success refine VLoop.mk ?_); (fail_if_success refine VCut.mk ?_); (fail_if_success refine REq.sl ?_); (fail_if_success refine Same.mk ?_); (fail_if_success refine DEq.mk ?_); (fail_if_success refine VCall.mk ?_); (fail_if_success refine SReg.go ?_); (fail_if_success refine QCall.mk ?_); (fail_if_success refine Dec.mk ?_); (fail_if_success show False); (fail_if_success show _ = _); cbv)
  all_goals try simp only [ncast, decide_eq_true_eq, decide_eq_false_iff_not, Decidable.not_not, Bool.not_eq_true', Bool.not_eq_false', cond_t, cond_f, toNat_cast] at *
  · rename_i h
    exact Side.mk (decide_eq_false fun e => h (by rw [e])).symm
  rename_i h0
  refine VLoop.inv (ι := Nat) (fun i => ⟨[(5, .d (num fun _ => i)), (0, .d (pairs a)), (1, .d (pairs b))], []⟩) (fun i => i ≤ (a ⟨⟩).length ∧ ∀ k, k < i → (a ⟨⟩).getD k (0, 0) = (b ⟨⟩).getD k (0, 0)) (fun i => (a ⟨⟩).length - i) 0
    ⟨Nat.zero_le _, fun k hk => absurd hk (Nat.not_lt_zero _)⟩ ?_ ?_
  · cbv
    repeat' (first | refine And.intro ?_ ?_ | exact trivial | exact Side.mk rfl | exact REq.sl rfl | exact DEq.mk rfl | exact Side.mk (by (try simp only [ncast] at *); omega))
  rintro i ⟨hi, hne⟩
  repeat' first
    | (refine VIf.mk' ?_ ?_ <;> intro _)
    | (refine LenB.mk ?_; intro _)
    | refine And.intro ?_ ?_
    | exact trivial
    | refine Stop.mk ?_
    | exact ShEq.sl
    | ((fail_if_success refine Side.mk ?_); (fail_if_success refine Exists.intro ?_ ?_); (fail_if_success refine VLoop.mk ?_); (fail_if_success refine VCut.mk ?_); (fail_if_success refine REq.sl ?_); (fail_if_success refine Same.mk ?_); (fail_if_success refine DEq.mk ?_); (fail_if_success refine VCall.mk ?_); (fail_if_success refine SReg.go ?_); (fail_if_success refine QCall.mk ?_); (fail_if_success refine Dec.mk ?_); (fail_if_success show False); (fail_if_success show _ = _); cbv)
  all_goals try simp only [ncast, decide_eq_true_eq, decide_eq_false_iff_not, Decidable.not_not, Bool.not_eq_true', Bool.not_eq_false', cond_t, cond_f, toNat_cast] at *
  all_goals try (first | exact Side.mk (i64 (by (try simp only [ncast] at *); omega)) | exact Side.mk (u64 (by (try simp only [ncast] at *); omega)) | exact Side.mk (by (try simp only [ncast] at *); refine ⟨?_, ?_, u64 ?_⟩ <;> first | trivial | omega) | exact Side.mk (by (try simp only [ncast] at *); (try simp only [List.length_set, List.length_cons, List.length_nil, List.length_append]); omega))
  · rename_i h
    refine Side.mk (decide_eq_false fun e => ?_).symm
    simp [e] at h
  · rename_i h
    simp only [Bool.and_true, Bool.and_eq_true, decide_eq_true_eq] at h
    refine ⟨i + 1, ⟨by omega, fun k hk => ?_⟩, by omega, ?_⟩
    · by_cases e : k = i
      · subst e; exact Prod.ext h.1 h.2
      · exact hne k (by omega)
    · cbv
      repeat' (first | refine And.intro ?_ ?_ | exact trivial | exact Side.mk rfl | exact REq.sl rfl | exact DEq.mk rfl | exact Side.mk (by (try simp only [ncast] at *); omega))
  · exact Side.mk (decide_eq_true (eq_of_getD (0, 0) (by omega) fun k hk => hne k (by omega))).symm

set_option maxHeartbeats 1000000 in
theorem law12_ok (g : Th (List Bk)) (e : Th (List Int)) (h : Side fun _ => GB (g ⟨⟩) ∧ LB (e ⟨⟩)) :
    GCall Try.prog 12 [.d (blocks g), .d (ints e)] (.d (bol fun _ => true)) [] := by
  refine g12 (tabOK 0 ms) rfl (Nat.le_of_ble_eq_true rfl) rfl ?_
  repeat' first
    | (refine VIf.mk' ?_ ?_ <;> intro _)
    | (refine LenB.mk ?_; intro _)
    | refine And.intro ?_ ?_
    | exact trivial
    | refine Stop.mk ?_
    | exact ShEq.sl
    | refine VCall.mk' (.mk (edges_ok _ _ h)) (.inl rfl) ?_
    | refine VCall.mk' (.mk (entf_ok _ _ h)) (.inl rfl) ?_
    | refine VCall.mk' (.mk (counted_ok)) (.inl rfl) ?_
    | ((fail_if_success refine Side.mk ?_); (fail_if_success refine Exists.intro ?_ ?_); (fail_if_success refine VLoop.mk ?_); (fail_if_success refine VCut.mk ?_); (fail_if_success refine REq.sl ?_); (fail_if_success refine Same.mk ?_); (fail_if_success refine DEq.mk ?_); (fail_if_success refine VCall.mk ?_); (fail_if_success refine SReg.go ?_); (fail_if_success refine QCall.mk ?_); (fail_if_success refine Dec.mk ?_); (fail_if_success show False); (fail_if_success show _ = _); cbv)
  all_goals try simp only [ncast, decide_eq_true_eq, decide_eq_false_iff_not, Decidable.not_not, Bool.not_eq_true', Bool.not_eq_false', cond_t, cond_f, toNat_cast] at *
  · exact Side.mk trivial
  · rename_i h1 _ h
    exact absurd (by unfold edgR; rw [if_neg h1]; rfl) h
  · rename_i h
    simp at h
  · rename_i h0
    obtain ⟨h01, hG, hE⟩ := entF_good h0
    have hEd : Side fun _ => EdPre (g ⟨⟩) (e ⟨⟩) := ⟨⟨hG, hE⟩⟩
    have hre := GCall.frz (by rfl) (redges_ok g e hEd)
    have he : edgR (g ⟨⟩) (e ⟨⟩) = edgesL (g ⟨⟩) (e ⟨⟩) := by unfold edgR; rw [if_pos h0]
    repeat' first
      | (refine VIf.mk' ?_ ?_ <;> intro _)
      | (refine LenB.mk ?_; intro _)
      | refine And.intro ?_ ?_
      | exact trivial
      | refine Stop.mk ?_
      | exact ShEq.sl
      | refine VCall.mk' (.mk (hre)) (.inl rfl) ?_
      | refine VCall.mk' (.mk (samep_ok _ _)) (.inl rfl) ?_
      | refine VCall.mk' (.mk (counted_ok)) (.inl rfl) ?_
      | ((fail_if_success refine Side.mk ?_); (fail_if_success refine Exists.intro ?_ ?_); (fail_if_success refine VLoop.mk ?_); (fail_if_success refine VCut.mk ?_); (fail_if_success refine REq.sl ?_); (fail_if_success refine Same.mk ?_); (fail_if_success refine DEq.mk ?_); (fail_if_success refine VCall.mk ?_); (fail_if_success refine SReg.go ?_); (fail_if_success refine QCall.mk ?_); (fail_if_success refine Dec.mk ?_); (fail_if_success show False); (fail_if_success show _ = _); cbv)
    all_goals try simp only [ncast, decide_eq_true_eq, decide_eq_false_iff_not, Decidable.not_not, Bool.not_eq_true', Bool.not_eq_false', cond_t, cond_f, toNat_cast] at *
    · exact Side.mk trivial
    · rename_i h
      exact absurd he h
  · rename_i h0 h
    exact absurd h0 h
end Go.Eng
