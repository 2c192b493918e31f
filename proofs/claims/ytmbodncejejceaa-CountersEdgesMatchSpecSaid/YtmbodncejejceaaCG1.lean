/- Contracts of the checks of graphs and entries. -/
import Derived.Test.YtmbodncejejceaaCSM
import Derived.Test.YtmbodncejejceaaCF1
import Derived.Test.YtmbodncejejceaaCPlA
import Derived.Test.YtmbodncejejceaaCCG1
set_option linter.all false

namespace Go.Eng
open Go.Proofs
attribute [local irreducible] vc vops gop step fins fin finP cov covEnv covRows softs qop hop

theorem GB.at {g : List Bk} (h : GB g) (k : Nat) : (g.getD k (0, 0, 0, [])).2.2.2.length ≤ 17592186044416 := by
  by_cases hk : k < g.length
  · exact h.2 _ (getD_memL _ hk)
  · rw [List.getD_eq_getElem?_getD, List.getElem?_eq_none (by omega)]; simp

theorem gfault_ok (g : Th (List Bk)) (hg : Side fun _ => GB (g ⟨⟩)) : GCall Try.prog 70 [.d (blocks g)] (.d (fault (fun _ => (gFault (g ⟨⟩)).1) fun _ => (gFault (g ⟨⟩)).2)) [] := by
  refine g70 (tabOK 0 ms) rfl (Nat.le_of_ble_eq_true rfl) rfl ?_
  repeat' first
    | (refine VIf.mk' ?_ ?_ <;> intro _)
    | (refine LenB.mk ?_; intro _)
    | refine And.intro ?_ ?_
    | exact trivial
    | refine Stop.mk ?_
    | exact ShEq.sl
    | refine VCall.mk' (.mk (at_ok _ _)) (.inl rfl) ?_
    | ((fail_if_success refine Side.mk ?_); (fail_if_success refine Exists.intro ?_ ?_); (fail_if_success refine VLoop.mk ?_); (fail_if_success refine VCut.mk ?_); (fail_if_success refine REq.sl ?_); (fail_if_success refine Same.mk ?_); (fail_if_success refine DEq.mk ?_); (fail_if_success refine VCall.mk ?_); (fail_if_success refine SReg.go ?_); (fail_if_success refine QCall.mk ?_); (fail_if_success refine Dec.mk ?_); (fail_if_success show False); (fail_if_success show _ = _); cbv)
  · exact Side.mk (by rename_i h1; simp only [ncast, decide_eq_true_eq] at h1; unfold gFault; rw [if_pos (by omega)])
  · exact Side.mk (by rename_i h1; simp only [ncast, decide_eq_true_eq] at h1; unfold gFault; rw [if_pos (by omega)])
  rename_i h1
  have h100 : (g ⟨⟩).length ≤ 100 := by simp only [ncast, decide_eq_false_iff_not] at h1; omega
  have hgf : gFault (g ⟨⟩) = gGo (g ⟨⟩).length (g ⟨⟩) 0 0 := by unfold gFault; rw [if_neg (by omega)]
  clear h1
  have hat := hg.h.at
  refine VLoop.inv (ι := Nat × Nat) (fun p => ⟨[(0, .d (blocks g)), (2, .bptr 0 0), (3, .d (num fun _ => p.2)), (4, .d (num fun _ => p.1))], [(0, .box [num fun _ => 0, num fun _ => 0])]⟩)
    (fun p => p.1 ≤ (g ⟨⟩).length ∧ p.2 ≤ 300 ∧ gFault (g ⟨⟩) = gGo (g ⟨⟩).length ((g ⟨⟩).drop p.1) p.1 p.2) (fun p => (g ⟨⟩).length - p.1) (0, 0) ⟨Nat.zero_le _, Nat.zero_le _, by simpa using hgf⟩ ?_ ?_
  · cbv
    repeat' first | refine And.intro ?_ ?_ | exact trivial | exact Side.mk rfl | exact REq.sl rfl | exact DEq.mk rfl
  rintro ⟨i, k⟩ ⟨hi, hk, he⟩
  simp only at hi hk he
  have hl := hat i
  repeat' first
    | (refine VIf.mk' ?_ ?_ <;> intro _)
    | (refine LenB.mk ?_; intro _)
    | refine And.intro ?_ ?_
    | exact trivial
    | refine Stop.mk ?_
    | exact ShEq.sl
    | refine VCall.mk' (.mk (at_ok _ _)) (.inl rfl) ?_
    | ((fail_if_success refine Side.mk ?_); (fail_if_success refine Exists.intro ?_ ?_); (fail_if_success refine VLoop.mk ?_); (fail_if_success refine VCut.mk ?_); (fail_if_success refine REq.sl ?_); (fail_if_success refine Same.mk ?_); (fail_if_success refine DEq.mk ?_); (fail_if_success refine VCall.mk ?_); (fail_if_success refine SReg.go ?_); (fail_if_success refine QCall.mk ?_); (fail_if_success refine Dec.mk ?_); (fail_if_success show False); (fail_if_success show _ = _); cbv)
  all_goals try simp only [ncast, decide_eq_true_eq, decide_eq_false_iff_not, Decidable.not_not, Bool.not_eq_true', Bool.not_eq_false', cond_t, cond_f, toNat_cast] at *
  all_goals try (first | exact Side.mk (i64 (by (try simp only [ncast] at *); omega)) | exact Side.mk (u64 (by (try simp only [ncast] at *); omega)) | exact Side.mk (by (try simp only [ncast] at *); refine ⟨?_, ?_, u64 ?_⟩ <;> first | trivial | omega) | exact Side.mk (by (try simp only [ncast] at *); (try simp only [List.length_set, List.length_cons, List.length_nil, List.length_append]); omega))
  · rename_i hil hb
    exact Side.mk (by rw [he, gGo_many (by omega) (by omega)])
  · rename_i hil hb
    exact Side.mk (by rw [he, gGo_many (by omega) (by omega)])
  · -- the edges
    rename_i hil hb
    replace hil : i < (g ⟨⟩).length := by omega
    replace hb : k + ((g ⟨⟩).getD i (0, 0, 0, [])).2.2.2.length ≤ 300 := by omega
    refine VLoop.inv (ι := Nat) (fun j => ⟨[(0, .d (blocks g)), (2, .bptr 0 0), (3, .d (num fun _ => (k + ((g ⟨⟩).getD i (0, 0, 0, [])).2.2.2.length : Nat))), (4, .d (num fun _ => i)), (5, .d (num fun _ => j))], [(0, .box [num fun _ => 0, num fun _ => 0])]⟩)
      (fun j => j ≤ ((g ⟨⟩).getD i (0, 0, 0, [])).2.2.2.length ∧ eFault (g ⟨⟩).length i ((g ⟨⟩).getD i (0, 0, 0, [])).2.2.2 = eFault (g ⟨⟩).length i (((g ⟨⟩).getD i (0, 0, 0, [])).2.2.2.drop j)) (fun j => ((g ⟨⟩).getD i (0, 0, 0, [])).2.2.2.length - j) 0 ⟨Nat.zero_le _, rfl⟩ ?_ ?_
    · cbv
      repeat' first | refine And.intro ?_ ?_ | exact trivial | exact Side.mk rfl | exact REq.sl rfl | exact DEq.mk rfl | exact Side.mk (by (try simp only [ncast] at *); omega)
    rintro j ⟨hj, hje⟩
    repeat' first
      | (refine VIf.mk' ?_ ?_ <;> intro _)
      | (refine LenB.mk ?_; intro _)
      | refine And.intro ?_ ?_
      | exact trivial
      | refine Stop.mk ?_
      | exact ShEq.sl
      | refine VCall.mk' (.mk (at_ok _ _)) (.inl rfl) ?_
      | refine VCall.mk' (.mk (in_ok _ _ _)) (.inl rfl) ?_
      | ((fail_if_success refine Side.mk ?_); (fail_if_success refine Exists.intro ?_ ?_); (fail_if_success refine VLoop.mk ?_); (fail_if_success refine VCut.mk ?_); (fail_if_success refine REq.sl ?_); (fail_if_success refine Same.mk ?_); (fail_if_success refine DEq.mk ?_); (fail_if_success refine VCall.mk ?_); (fail_if_success refine SReg.go ?_); (fail_if_success refine QCall.mk ?_); (fail_if_success refine Dec.mk ?_); (fail_if_success show False); (fail_if_success show _ = _); cbv)
    all_goals try simp only [ncast, decide_eq_true_eq, decide_eq_false_iff_not, Decidable.not_not, Bool.not_eq_true', Bool.not_eq_false', cond_t, cond_f, toNat_cast] at *
    all_goals try (first | exact Side.mk (i64 (by (try simp only [ncast] at *); omega)) | exact Side.mk (u64 (by (try simp only [ncast] at *); omega)) | exact Side.mk (by (try simp only [ncast] at *); refine ⟨?_, ?_, u64 ?_⟩ <;> first | trivial | omega) | exact Side.mk (by (try simp only [ncast] at *); (try simp only [List.length_set, List.length_cons, List.length_nil, List.length_append]); omega))
    · rename_i hj2 hbad
      exact Side.mk (by rw [he, gGo_bad hil (by omega) (hje.trans (eFault_kind (by omega) hbad))])
    · rename_i hj2 hbad
      exact Side.mk (by rw [he, gGo_bad hil (by omega) (hje.trans (eFault_kind (by omega) hbad))])
    · rename_i hbad
      exact Side.mk (by rw [he, gGo_bad hil (by omega) (hje.trans (eFault_to (by omega) (by omega) (by omega)))])
    · rename_i hbad
      exact Side.mk (by rw [he, gGo_bad hil (by omega) (hje.trans (eFault_to (by omega) (by omega) (by omega)))])
    · refine ⟨j + 1, ⟨by omega, hje.trans (eFault_ok (by omega) (by omega) (by omega))⟩, by omega, ?_⟩
      cbv
      repeat' (first | refine And.intro ?_ ?_ | exact trivial | exact Side.mk rfl | exact REq.sl rfl | exact DEq.mk rfl | exact Side.mk (by (try simp only [ncast] at *); omega))
    · rename_i hj2
      refine ⟨(i + 1, k + ((g ⟨⟩).getD i (0, 0, 0, [])).2.2.2.length), ⟨by simp only; omega, by simp only; omega, ?_⟩, by simp only; omega, ?_⟩
      · simp only
        rw [he, gGo_ok hil (by omega) (by rw [hje, List.drop_of_length_le (by omega)]; rfl)]
        simp
      · cbv
        repeat' (first | refine And.intro ?_ ?_ | exact trivial | exact Side.mk rfl | exact REq.sl rfl | exact DEq.mk rfl | exact Side.mk (by (try simp only [ncast] at *); omega))
  · rename_i hil
    exact Side.mk (by rw [he, List.drop_of_length_le (by omega)]; rfl)
  · rename_i hil
    exact Side.mk (by rw [he, List.drop_of_length_le (by omega)]; rfl)

theorem valid_ok (g : Th (List Bk)) (hg : Side fun _ => GB (g ⟨⟩)) : GCall Try.prog 90 [.d (blocks g)] (.d (fault (fun _ => (gFault (g ⟨⟩)).1) fun _ => (gFault (g ⟨⟩)).2)) [] := by
  refine g90 (tabOK 0 ms) rfl (Nat.le_of_ble_eq_true rfl) rfl ?_
  repeat' first
    | (refine VIf.mk' ?_ ?_ <;> intro _)
    | (refine LenB.mk ?_; intro _)
    | refine And.intro ?_ ?_
    | exact trivial
    | refine Stop.mk ?_
    | exact ShEq.sl
    | ((fail_if_success refine Side.mk ?_); (fail_if_success refine Exists.intro ?_ ?_); (fail_if_success refine VLoop.mk ?_); (fail_if_success refine VCut.mk ?_); (fail_if_success refine REq.sl ?_); (fail_if_success refine Same.mk ?_); (fail_if_success refine DEq.mk ?_); (fail_if_success refine VCall.mk ?_); (fail_if_success refine SReg.go ?_); (fail_if_success refine QCall.mk ?_); (fail_if_success refine Dec.mk ?_); (fail_if_success show False); (fail_if_success show _ = _); cbv)
  · exact Side.mk (by rename_i h1; (try simp only [ncast, decide_eq_true_eq] at h1); unfold gFault; rw [if_pos (by omega)])
  · exact Side.mk (by rename_i h1; (try simp only [ncast, decide_eq_true_eq] at h1); unfold gFault; rw [if_pos (by omega)])
  rename_i h1 _
  have h100 : (g ⟨⟩).length ≤ 100 := by (try simp only [ncast, decide_eq_false_iff_not] at h1); omega
  have hgf : gFault (g ⟨⟩) = gGo (g ⟨⟩).length (g ⟨⟩) 0 0 := by unfold gFault; rw [if_neg (by omega)]
  clear h1
  have hat := hg.h.at
  refine VLoop.inv (ι := Nat × Nat) (fun p => ⟨[(0, .d (blocks g)), (2, .bptr 0 0), (3, .d (num fun _ => p.2)), (12, .d (blocks g)), (13, .d (num fun _ => (g ⟨⟩).length)), (14, .d (num fun _ => p.1))], [(0, .box [num fun _ => 0, num fun _ => 0])]⟩)
    (fun p => p.1 ≤ (g ⟨⟩).length ∧ p.2 ≤ 300 ∧ gFault (g ⟨⟩) = gGo (g ⟨⟩).length ((g ⟨⟩).drop p.1) p.1 p.2) (fun p => (g ⟨⟩).length - p.1) (0, 0) ⟨Nat.zero_le _, Nat.zero_le _, by simpa using hgf⟩ ?_ ?_
  · cbv
    repeat' first | refine And.intro ?_ ?_ | exact trivial | exact Side.mk rfl | exact REq.sl rfl | exact DEq.mk rfl
  rintro ⟨i, k⟩ ⟨hi, hk, he⟩
  simp only at hi hk he
  have hl := hat i
  repeat' first
    | (refine VIf.mk' ?_ ?_ <;> intro _)
    | (refine LenB.mk ?_; intro _)
    | refine And.intro ?_ ?_
    | exact trivial
    | refine Stop.mk ?_
    | exact ShEq.sl
    | ((fail_if_success refine Side.mk ?_); (fail_if_success refine Exists.intro ?_ ?_); (fail_if_success refine VLoop.mk ?_); (fail_if_success refine VCut.mk ?_); (fail_if_success refine REq.sl ?_); (fail_if_success refine Same.mk ?_); (fail_if_success refine DEq.mk ?_); (fail_if_success refine VCall.mk ?_); (fail_if_success refine SReg.go ?_); (fail_if_success refine QCall.mk ?_); (fail_if_success refine Dec.mk ?_); (fail_if_success show False); (fail_if_success show _ = _); cbv)
  all_goals try simp only [ncast, decide_eq_true_eq, decide_eq_false_iff_not, Decidable.not_not, Bool.not_eq_true', Bool.not_eq_false', cond_t, cond_f, toNat_cast] at *
  all_goals try (first | exact Side.mk (i64 (by (try simp only [ncast] at *); omega)) | exact Side.mk (u64 (by (try simp only [ncast] at *); omega)) | exact Side.mk (by (try simp only [ncast] at *); refine ⟨?_, ?_, u64 ?_⟩ <;> first | trivial | omega) | exact Side.mk (by (try simp only [ncast] at *); (try simp only [List.length_set, List.length_cons, List.length_nil, List.length_append]); omega))
  · rename_i hil _ hb
    exact Side.mk (by rw [he, gGo_many (by omega) (by omega)])
  · rename_i hil _ hb
    exact Side.mk (by rw [he, gGo_many (by omega) (by omega)])
  · -- the edges
    rename_i hil _ hb _
    try simp only [ncast, decide_eq_true_eq, decide_eq_false_iff_not] at hil hb
    replace hil : i < (g ⟨⟩).length := by omega
    replace hb : k + ((g ⟨⟩).getD i (0, 0, 0, [])).2.2.2.length ≤ 300 := by omega
    refine VLoop.inv (ι := Nat) (fun j => ⟨[(0, .d (blocks g)), (2, .bptr 0 0), (3, .d (num fun _ => (k + ((g ⟨⟩).getD i (0, 0, 0, [])).2.2.2.length : Nat))), (4, .d (num fun _ => i)), (12, .d (blocks g)), (13, .d (num fun _ => (g ⟨⟩).length)), (14, .d (num fun _ => i)), (29, .d (pairs fun _ => ((g ⟨⟩).getD i (0, 0, 0, [])).2.2.2)), (30, .d (num fun _ => ((g ⟨⟩).getD i (0, 0, 0, [])).2.2.2.length)), (31, .d (num fun _ => j))], [(0, .box [num fun _ => 0, num fun _ => 0])]⟩)
      (fun j => j ≤ ((g ⟨⟩).getD i (0, 0, 0, [])).2.2.2.length ∧ eFault (g ⟨⟩).length i ((g ⟨⟩).getD i (0, 0, 0, [])).2.2.2 = eFault (g ⟨⟩).length i (((g ⟨⟩).getD i (0, 0, 0, [])).2.2.2.drop j)) (fun j => ((g ⟨⟩).getD i (0, 0, 0, [])).2.2.2.length - j) 0 ⟨Nat.zero_le _, rfl⟩ ?_ ?_
    · cbv
      repeat' first | refine And.intro ?_ ?_ | exact trivial | exact Side.mk rfl | exact REq.sl rfl | exact DEq.mk rfl | exact Side.mk (by (try simp only [ncast] at *); omega)
    rintro j ⟨hj, hje⟩
    repeat' first
      | (refine VIf.mk' ?_ ?_ <;> intro _)
      | (refine LenB.mk ?_; intro _)
      | refine And.intro ?_ ?_
      | exact trivial
      | refine Stop.mk ?_
      | exact ShEq.sl
      | ((fail_if_success refine Side.mk ?_); (fail_if_success refine Exists.intro ?_ ?_); (fail_if_success refine VLoop.mk ?_); (fail_if_success refine VCut.mk ?_); (fail_if_success refine REq.sl ?_); (fail_if_success refine Same.mk ?_); (fail_if_success refine DEq.mk ?_); (fail_if_success refine VCall.mk ?_); (fail_if_success refine SReg.go ?_); (fail_if_success refine QCall.mk ?_); (fail_if_success refine Dec.mk ?_); (fail_if_success show False); (fail_if_success show _ = _); cbv)
    all_goals try simp only [ncast, decide_eq_true_eq, decide_eq_false_iff_not, Decidable.not_not, Bool.not_eq_true', Bool.not_eq_false', cond_t, cond_f, toNat_cast] at *
    all_goals try (first | exact Side.mk (i64 (by (try simp only [ncast] at *); omega)) | exact Side.mk (u64 (by (try simp only [ncast] at *); omega)) | exact Side.mk (by (try simp only [ncast] at *); refine ⟨?_, ?_, u64 ?_⟩ <;> first | trivial | omega) | exact Side.mk (by (try simp only [ncast] at *); (try simp only [List.length_set, List.length_cons, List.length_nil, List.length_append]); omega))
    all_goals try first
      | exact Side.mk (by rw [he, gGo_bad hil (by omega) (hje.trans (eFault_kind (by omega) (by omega)))])
      | exact Side.mk (by rw [he, gGo_bad hil (by omega) (hje.trans (eFault_to (by omega) (by omega) (by omega)))])
    · refine ⟨j + 1, ⟨by omega, hje.trans (eFault_ok (by omega) (by omega) (by omega))⟩, by omega, ?_⟩
      cbv
      repeat' (first | refine And.intro ?_ ?_ | exact trivial | exact Side.mk rfl | exact REq.sl rfl | exact DEq.mk rfl | exact Side.mk (by (try simp only [ncast] at *); omega))
    · refine ⟨(i + 1, k + ((g ⟨⟩).getD i (0, 0, 0, [])).2.2.2.length), ⟨by simp only; omega, by simp only; omega, ?_⟩, by simp only; omega, ?_⟩
      · simp only
        rw [he, gGo_ok hil (by omega) (by rw [hje, List.drop_of_length_le (by omega)]; rfl)]
        simp
      · cbv
        repeat' first | refine And.intro ?_ ?_ | exact trivial | exact Side.mk rfl | exact REq.sl rfl | exact DEq.mk rfl | exact Side.mk (by (try simp only [ncast] at *); omega)
  · rename_i hil
    exact Side.mk (by rw [he, List.drop_of_length_le (by omega)]; rfl)
  · rename_i hil
    exact Side.mk (by rw [he, List.drop_of_length_le (by omega)]; rfl)
end Go.Eng
