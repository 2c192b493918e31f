/- Contracts of the checks of entries and weights. -/
import Derived.Test.YtmbodncejejceaaCG1
set_option linter.all false

namespace Go.Eng
open Go.Proofs
attribute [local irreducible] vc vops gop step fins fin finP cov covEnv covRows softs qop hop

theorem flt_ne {f : Int × Int} (h : (decide (f.1 = 0) && (decide (f.2 = 0) && true)) = false) (hf : f.1 = 0 → f = (0, 0)) : f.1 ≠ 0 := fun h0 => by
  rw [hf h0] at h; simp at h
theorem flt_eq {f : Int × Int} (h : (decide (f.1 = 0) && (decide (f.2 = 0) && true)) = true) : f.1 = 0 := by
  simp only [Bool.and_eq_true, decide_eq_true_eq] at h; exact h.1

theorem entf_ok (g : Th (List Bk)) (e : Th (List Int)) (hg : Side fun _ => GB (g ⟨⟩) ∧ LB (e ⟨⟩)) : GCall Try.prog 31 [.d (blocks g), .d (ints e)] (.d (fault (fun _ => (entF (g ⟨⟩) (e ⟨⟩)).1) fun _ => (entF (g ⟨⟩) (e ⟨⟩)).2)) [] := by
  have hB : Side fun _ => GB (g ⟨⟩) := ⟨hg.h.1⟩
  have hL : (e ⟨⟩).length ≤ 17592186044416 := hg.h.2
  have hN : (g ⟨⟩).length ≤ 17592186044416 := hg.h.1.1
  clear hg
  refine g31 (tabOK 0 ms) rfl (Nat.le_of_ble_eq_true rfl) rfl ?_
  repeat' first
    | (refine VIf.mk' ?_ ?_ <;> intro _)
    | (refine LenB.mk ?_; intro _)
    | refine And.intro ?_ ?_
    | exact trivial
    | refine Stop.mk ?_
    | exact ShEq.sl
    | refine VCall.mk' (.mk (gfault_ok _ hB)) (.inl rfl) ?_
    | ((fail_if_success refine Side.mk ?_); (fail_if_success refine Exists.intro ?_ ?_); (fail_if_success refine VLoop.mk ?_); (fail_if_success refine VCut.mk ?_); (fail_if_success refine REq.sl ?_); (fail_if_success refine Same.mk ?_); (fail_if_success refine DEq.mk ?_); (fail_if_success refine VCall.mk ?_); (fail_if_success refine SReg.go ?_); (fail_if_success refine QCall.mk ?_); (fail_if_success refine Dec.mk ?_); (fail_if_success show False); (fail_if_success show _ = _); cbv)
  · exact Side.mk (by rename_i h1; (try simp only [ncast, decide_eq_true_eq] at h1); unfold entF; rw [if_neg h1])
  · exact Side.mk (by rename_i h1; (try simp only [ncast, decide_eq_true_eq] at h1); unfold entF; rw [if_neg h1])
  rename_i h1
  have h0 : (gFault (g ⟨⟩)).1 = 0 := by simpa using h1
  have he0 : entF (g ⟨⟩) (e ⟨⟩) = enGo (g ⟨⟩).length none (e ⟨⟩) 0 := by unfold entF; rw [if_pos h0]
  clear h1
  refine VLoop.inv (ι := Nat) (fun i => ⟨[(0, .d (blocks g)), (1, .d (ints e)), (4, .bptr 0 0), (6, .d (num fun _ => i))], [(0, .box [num fun _ => 0, num fun _ => 0])]⟩)
    (fun i => i ≤ (e ⟨⟩).length ∧ entF (g ⟨⟩) (e ⟨⟩) = enGo (g ⟨⟩).length (prevOf (e ⟨⟩) i) ((e ⟨⟩).drop i) i) (fun i => (e ⟨⟩).length - i) 0 ⟨Nat.zero_le _, by simpa [prevOf] using he0⟩ ?_ ?_
  · cbv
    repeat' first | refine And.intro ?_ ?_ | exact trivial | exact Side.mk rfl | exact REq.sl rfl | exact DEq.mk rfl
  rintro i ⟨hi, he⟩
  repeat' first
    | (refine VIf.mk' ?_ ?_ <;> intro _)
    | (refine LenB.mk ?_; intro _)
    | refine And.intro ?_ ?_
    | exact trivial
    | refine Stop.mk ?_
    | exact ShEq.sl
    | refine VCall.mk' (.mk (at_ok _ _)) (.inl rfl) ?_
    | refine VCall.mk' (.mk (in_ok _ _ _)) (.inl rfl) ?_
    | ((fail_if_success refine Side.mk ?_); (fail_if_success refine Exists.intro ?_ ?_); (fail_if_success refine VLoop.mk ?_); (fail_if_success refine VCut.mk ?_); (fail_if_success refine REq.sl ?_); (fail_if_success refine Same.mk ?_); (fail_if_success refine DEq.mk ?_); (fail_if_success refine VCall.mk ?_); (fail_if_success refine SReg.go ?_); (fail_if_success refine QCall.mk ?_); (fail_if_success refine Dec.mk ?_); (fail_if_success show False); (fail_if_success show _ = _); cbv)
  all_goals try simp only [ncast, decide_eq_true_eq, decide_eq_false_iff_not, Decidable.not_not, Bool.not_eq_true', Bool.not_eq_false', cond_t, cond_f, toNat_cast] at *
  all_goals try (first | exact Side.mk (i64 (by (try simp only [ncast] at *); omega)) | exact Side.mk (u64 (by (try simp only [ncast] at *); omega)) | exact Side.mk (by (try simp only [ncast] at *); refine ⟨?_, ?_, u64 ?_⟩ <;> first | trivial | omega) | exact Side.mk (by (try simp only [ncast] at *); (try simp only [List.length_set, List.length_cons, List.length_nil, List.length_append]); omega))
  · rename_i hil _ hbad
    exact Side.mk (by rw [he, enGo_range (by omega) (by omega)])
  · rename_i hil _ hbad
    exact Side.mk (by rw [he, enGo_range (by omega) (by omega)])
  · rename_i hil _ hok hi0 hle
    exact Side.mk (by rw [he, enGo_order (by omega) (by omega) (by omega) (by rw [show ((i : Int) - 1).toNat = i - 1 by omega] at hle; exact hle)])
  · rename_i hil _ hok hi0 hle
    exact Side.mk (by rw [he, enGo_order (by omega) (by omega) (by omega) (by rw [show ((i : Int) - 1).toNat = i - 1 by omega] at hle; exact hle)])
  · rename_i hil _ hok hi0 hle
    refine ⟨i + 1, ⟨by omega, by rw [he, enGo_ok (by omega) (by omega) (.inr (by rw [show ((i : Int) - 1).toNat = i - 1 by omega] at hle; exact hle))]; rfl⟩, by omega, ?_⟩
    cbv
    repeat' (first | refine And.intro ?_ ?_ | exact trivial | exact Side.mk rfl | exact REq.sl rfl | exact DEq.mk rfl | exact Side.mk (by (try simp only [ncast] at *); omega))
  · rename_i hil _ hok hi0
    refine ⟨i + 1, ⟨by omega, by rw [he, enGo_ok (by omega) (by omega) (.inl (by omega))]; rfl⟩, by omega, ?_⟩
    cbv
    repeat' (first | refine And.intro ?_ ?_ | exact trivial | exact Side.mk rfl | exact REq.sl rfl | exact DEq.mk rfl | exact Side.mk (by (try simp only [ncast] at *); omega))
  · rename_i hil
    exact Side.mk (by rw [he, List.drop_of_length_le (by omega)]; simp [enGo])
  · rename_i hil
    exact Side.mk (by rw [he, List.drop_of_length_le (by omega)]; simp [enGo])

theorem check_ok' (g : Th (List Bk)) (e : Th (List Int)) (hg : Side fun _ => GB (g ⟨⟩) ∧ LB (e ⟨⟩)) : GCall Try.prog 62 [.d (blocks g), .d (ints e)] (.d (fault (fun _ => (entF (g ⟨⟩) (e ⟨⟩)).1) fun _ => (entF (g ⟨⟩) (e ⟨⟩)).2)) [] := by
  have hB : Side fun _ => GB (g ⟨⟩) := ⟨hg.h.1⟩
  have hL : (e ⟨⟩).length ≤ 17592186044416 := hg.h.2
  have hN : (g ⟨⟩).length ≤ 17592186044416 := hg.h.1.1
  clear hg
  refine g62 (tabOK 0 ms) rfl (Nat.le_of_ble_eq_true rfl) rfl ?_
  repeat' first
    | (refine VIf.mk' ?_ ?_ <;> intro _)
    | (refine LenB.mk ?_; intro _)
    | refine And.intro ?_ ?_
    | exact trivial
    | refine Stop.mk ?_
    | exact ShEq.sl
    | refine VCall.mk' (.mk (valid_ok _ hB)) (.inl rfl) ?_
    | ((fail_if_success refine Side.mk ?_); (fail_if_success refine Exists.intro ?_ ?_); (fail_if_success refine VLoop.mk ?_); (fail_if_success refine VCut.mk ?_); (fail_if_success refine REq.sl ?_); (fail_if_success refine Same.mk ?_); (fail_if_success refine DEq.mk ?_); (fail_if_success refine VCall.mk ?_); (fail_if_success refine SReg.go ?_); (fail_if_success refine QCall.mk ?_); (fail_if_success refine Dec.mk ?_); (fail_if_success show False); (fail_if_success show _ = _); cbv)
  all_goals try simp only [ncast, decide_eq_true_eq, decide_eq_false_iff_not, Decidable.not_not, Bool.not_eq_true', Bool.not_eq_false', cond_t, cond_f, toNat_cast] at *
  all_goals try (first | exact Side.mk (i64 (by (try simp only [ncast] at *); omega)) | exact Side.mk (u64 (by (try simp only [ncast] at *); omega)) | exact Side.mk (by (try simp only [ncast] at *); refine ⟨?_, ?_, u64 ?_⟩ <;> first | trivial | omega) | exact Side.mk (by (try simp only [ncast] at *); (try simp only [List.length_set, List.length_cons, List.length_nil, List.length_append]); omega))
  · rename_i h1
    have := flt_ne h1 fun h => (gFault_good h).1
    exact Side.mk (by unfold entF; rw [if_neg this])
  · rename_i h1
    have := flt_ne h1 fun h => (gFault_good h).1
    exact Side.mk (by unfold entF; rw [if_neg this])
  rename_i h1 _
  have h0 : (gFault (g ⟨⟩)).1 = 0 := flt_eq (by assumption)
  have he0 : entF (g ⟨⟩) (e ⟨⟩) = enGo (g ⟨⟩).length none (e ⟨⟩) 0 := by unfold entF; rw [if_pos h0]
  refine VLoop.inv (ι := Nat) (fun i => ⟨[(0, .d (blocks g)), (1, .d (ints e)), (4, .bptr 0 0), (14, .d (ints e)), (15, .d (num fun _ => (e ⟨⟩).length)), (16, .d (num fun _ => i))], [(0, .box [num fun _ => 0, num fun _ => 0])]⟩)
    (fun i => i ≤ (e ⟨⟩).length ∧ entF (g ⟨⟩) (e ⟨⟩) = enGo (g ⟨⟩).length (prevOf (e ⟨⟩) i) ((e ⟨⟩).drop i) i) (fun i => (e ⟨⟩).length - i) 0 ⟨Nat.zero_le _, by simpa [prevOf] using he0⟩ ?_ ?_
  · cbv
    repeat' first | refine And.intro ?_ ?_ | exact trivial | exact Side.mk rfl | exact REq.sl rfl | exact DEq.mk rfl
  rintro i ⟨hi, he⟩
  repeat' first
    | (refine VIf.mk' ?_ ?_ <;> intro _)
    | (refine LenB.mk ?_; intro _)
    | refine And.intro ?_ ?_
    | exact trivial
    | refine Stop.mk ?_
    | exact ShEq.sl
    | ((fail_if_success refine Side.mk ?_); (fail_if_success refine Exists.intro ?_ ?_); (fail_if_success refine VLoop.mk ?_); (fail_if_success refine VCut.mk ?_); (fail_if_success refine REq.sl ?_); (fail_if_success refine Same.mk ?_); (fail_if_success refine DEq.mk ?_); (fail_if_success refine VCall.mk ?_); (fail_if_success refine SReg.go ?_); (fail_if_success refine QCall.mk ?_); (fail_if_success refine Dec.mk ?_); (fail_if_success show False); (fail_if_success show _ = _); cbv)
  all_goals try simp only [ncast, decide_eq_true_eq, decide_eq_false_iff_not, Decidable.not_not, Bool.not_eq_true', Bool.not_eq_false', cond_t, cond_f, toNat_cast] at *
  all_goals try (first | exact Side.mk (i64 (by (try simp only [ncast] at *); omega)) | exact Side.mk (u64 (by (try simp only [ncast] at *); omega)) | exact Side.mk (by (try simp only [ncast] at *); refine ⟨?_, ?_, u64 ?_⟩ <;> first | trivial | omega) | exact Side.mk (by (try simp only [ncast] at *); (try simp only [List.length_set, List.length_cons, List.length_nil, List.length_append]); omega))
  all_goals try have e1 : ((i : Int) - 1).toNat = i - 1 := by omega
  all_goals try simp only [e1] at *
  all_goals try first
    | exact Side.mk (by rw [he, enGo_range (by omega) (by omega)])
    | exact Side.mk (by rw [he, enGo_order (by omega) (by omega) (by omega) (by omega)])
    | exact Side.mk (by rw [he, List.drop_of_length_le (by omega)]; simp [enGo])
  · rename_i h1 h2
    refine ⟨i + 1, ⟨by omega, by rw [he, enGo_ok (by omega) (by omega) (by omega)]; rfl⟩, by omega, ?_⟩
    cbv
    repeat' (first | refine And.intro ?_ ?_ | exact trivial | exact Side.mk rfl | exact REq.sl rfl | exact DEq.mk rfl | exact Side.mk (by (try simp only [ncast] at *); omega))
  · rename_i h1 h2
    refine ⟨i + 1, ⟨by omega, by rw [he, enGo_ok (by omega) (by omega) (by omega)]; rfl⟩, by omega, ?_⟩
    cbv
    repeat' (first | refine And.intro ?_ ?_ | exact trivial | exact Side.mk rfl | exact REq.sl rfl | exact DEq.mk rfl | exact Side.mk (by (try simp only [ncast] at *); omega))

theorem wtf_ok (l : Th (List Int)) (n : Th Int) (N : Nat) (h : Side fun _ => 0 ≤ n ⟨⟩ ∧ (n ⟨⟩).toNat = N ∧ LB (l ⟨⟩)) : GCall Try.prog 32 [.d (ints l), .d (num n)] (.d (fault (fun _ => (wtF (l ⟨⟩) N).1) fun _ => (wtF (l ⟨⟩) N).2)) [] := by
  have hn : 0 ≤ n ⟨⟩ ∧ (n ⟨⟩).toNat = N := ⟨h.h.1, h.h.2.1⟩
  have hL : (l ⟨⟩).length ≤ 17592186044416 := h.h.2.2
  clear h
  refine g32 (tabOK 0 ms) rfl (Nat.le_of_ble_eq_true rfl) rfl ?_
  repeat' first
    | (refine VIf.mk' ?_ ?_ <;> intro _)
    | (refine LenB.mk ?_; intro _)
    | refine And.intro ?_ ?_
    | exact trivial
    | refine Stop.mk ?_
    | exact ShEq.sl
    | refine VCall.mk' (.mk (at_ok _ _)) (.inl rfl) ?_
    | ((fail_if_success refine Side.mk ?_); (fail_if_success refine Exists.intro ?_ ?_); (fail_if_success refine VLoop.mk ?_); (fail_if_success refine VCut.mk ?_); (fail_if_success refine REq.sl ?_); (fail_if_success refine Same.mk ?_); (fail_if_success refine DEq.mk ?_); (fail_if_success refine VCall.mk ?_); (fail_if_success refine SReg.go ?_); (fail_if_success refine QCall.mk ?_); (fail_if_success refine Dec.mk ?_); (fail_if_success show False); (fail_if_success show _ = _); cbv)
  · exact Side.mk (by rename_i h1; (try simp only [ncast, decide_eq_true_eq] at h1); unfold wtF; rw [if_neg (by omega)])
  · exact Side.mk (by rename_i h1; (try simp only [ncast, decide_eq_true_eq] at h1); unfold wtF; rw [if_neg (by omega)])
  rename_i h1
  have hl : (l ⟨⟩).length = N := by (try simp only [ncast, decide_eq_false_iff_not, Decidable.not_not] at h1); omega
  have he0 : wtF (l ⟨⟩) N = wtGo (l ⟨⟩) 0 := by unfold wtF; rw [if_pos hl]
  clear h1
  refine VLoop.inv (ι := Nat) (fun i => ⟨[(0, .d (ints l)), (1, .d (num n)), (4, .bptr 0 0), (5, .d (num fun _ => i))], [(0, .box [num fun _ => 0, num fun _ => 0])]⟩)
    (fun i => i ≤ N ∧ wtF (l ⟨⟩) N = wtGo ((l ⟨⟩).drop i) i) (fun i => N - i) 0 ⟨Nat.zero_le _, by simpa using he0⟩ ?_ ?_
  · cbv
    repeat' first | refine And.intro ?_ ?_ | exact trivial | exact Side.mk rfl | exact REq.sl rfl | exact DEq.mk rfl
  rintro i ⟨hi, he⟩
  repeat' first
    | (refine VIf.mk' ?_ ?_ <;> intro _)
    | (refine LenB.mk ?_; intro _)
    | refine And.intro ?_ ?_
    | exact trivial
    | refine Stop.mk ?_
    | exact ShEq.sl
    | refine VCall.mk' (.mk (at_ok _ _)) (.inl rfl) ?_
    | refine VCall.mk' (.mk (in_ok _ _ _)) (.inl rfl) ?_
    | ((fail_if_success refine Side.mk ?_); (fail_if_success refine Exists.intro ?_ ?_); (fail_if_success refine VLoop.mk ?_); (fail_if_success refine VCut.mk ?_); (fail_if_success refine REq.sl ?_); (fail_if_success refine Same.mk ?_); (fail_if_success refine DEq.mk ?_); (fail_if_success refine VCall.mk ?_); (fail_if_success refine SReg.go ?_); (fail_if_success refine QCall.mk ?_); (fail_if_success refine Dec.mk ?_); (fail_if_success show False); (fail_if_success show _ = _); cbv)
  all_goals try simp only [ncast, decide_eq_true_eq, decide_eq_false_iff_not, Decidable.not_not, Bool.not_eq_true', Bool.not_eq_false', cond_t, cond_f, toNat_cast] at *
  all_goals try (first | exact Side.mk (i64 (by (try simp only [ncast] at *); omega)) | exact Side.mk (u64 (by (try simp only [ncast] at *); omega)) | exact Side.mk (by (try simp only [ncast] at *); refine ⟨?_, ?_, u64 ?_⟩ <;> first | trivial | omega) | exact Side.mk (by (try simp only [ncast] at *); (try simp only [List.length_set, List.length_cons, List.length_nil, List.length_append]); omega))
  all_goals try first
    | exact Side.mk (by rw [he, wtGo_bad (by omega) (by omega)])
    | exact Side.mk (by rw [he, List.drop_of_length_le (by omega)]; simp [wtGo])
  · refine ⟨i + 1, ⟨by omega, by rw [he, wtGo_ok (by omega) (by omega)]; rfl⟩, by omega, ?_⟩
    cbv
    repeat' (first | refine And.intro ?_ ?_ | exact trivial | exact Side.mk rfl | exact REq.sl rfl | exact DEq.mk rfl | exact Side.mk (by (try simp only [ncast] at *); omega))

theorem wfault_ok (l : Th (List Int)) (n : Th Int) (N : Nat) (h : Side fun _ => 0 ≤ n ⟨⟩ ∧ (n ⟨⟩).toNat = N ∧ LB (l ⟨⟩)) : GCall Try.prog 64 [.d (ints l), .d (num n)] (.d (fault (fun _ => (wtF (l ⟨⟩) N).1) fun _ => (wtF (l ⟨⟩) N).2)) [] := by
  have hn : 0 ≤ n ⟨⟩ ∧ (n ⟨⟩).toNat = N := ⟨h.h.1, h.h.2.1⟩
  have hL : (l ⟨⟩).length ≤ 17592186044416 := h.h.2.2
  clear h
  refine g64 (tabOK 0 ms) rfl (Nat.le_of_ble_eq_true rfl) rfl ?_
  repeat' first
    | (refine VIf.mk' ?_ ?_ <;> intro _)
    | (refine LenB.mk ?_; intro _)
    | refine And.intro ?_ ?_
    | exact trivial
    | refine Stop.mk ?_
    | exact ShEq.sl
    | ((fail_if_success refine Side.mk ?_); (fail_if_success refine Exists.intro ?_ ?_); (fail_if_success refine VLoop.mk ?_); (fail_if_success refine VCut.mk ?_); (fail_if_success refine REq.sl ?_); (fail_if_success refine Same.mk ?_); (fail_if_success refine DEq.mk ?_); (fail_if_success refine VCall.mk ?_); (fail_if_success refine SReg.go ?_); (fail_if_success refine QCall.mk ?_); (fail_if_success refine Dec.mk ?_); (fail_if_success show False); (fail_if_success show _ = _); cbv)
  · exact Side.mk (by rename_i h1; (try simp only [ncast, decide_eq_true_eq] at h1); unfold wtF; rw [if_neg (by omega)])
  · exact Side.mk (by rename_i h1; (try simp only [ncast, decide_eq_true_eq] at h1); unfold wtF; rw [if_neg (by omega)])
  rename_i h1 _
  have hl : (l ⟨⟩).length = N := by (try simp only [ncast, decide_eq_false_iff_not, Decidable.not_not] at h1); omega
  have he0 : wtF (l ⟨⟩) N = wtGo (l ⟨⟩) 0 := by unfold wtF; rw [if_pos hl]
  clear h1
  refine VLoop.inv (ι := Nat) (fun i => ⟨[(4, .bptr 0 0), (12, .d (ints l)), (13, .d (num fun _ => (l ⟨⟩).length)), (14, .d (num fun _ => i))], [(0, .box [num fun _ => 0, num fun _ => 0])]⟩)
    (fun i => i ≤ N ∧ wtF (l ⟨⟩) N = wtGo ((l ⟨⟩).drop i) i) (fun i => N - i) 0 ⟨Nat.zero_le _, by simpa using he0⟩ ?_ ?_
  · cbv
    repeat' first | refine And.intro ?_ ?_ | exact trivial | exact Side.mk rfl | exact REq.sl rfl | exact DEq.mk rfl
  rintro i ⟨hi, he⟩
  repeat' first
    | (refine VIf.mk' ?_ ?_ <;> intro _)
    | (refine LenB.mk ?_; intro _)
    | refine And.intro ?_ ?_
    | exact trivial
    | refine Stop.mk ?_
    | exact ShEq.sl
    | ((fail_if_success refine Side.mk ?_); (fail_if_success refine Exists.intro ?_ ?_); (fail_if_success refine VLoop.mk ?_); (fail_if_success refine VCut.mk ?_); (fail_if_success refine REq.sl ?_); (fail_if_success refine Same.mk ?_); (fail_if_success refine DEq.mk ?_); (fail_if_success refine VCall.mk ?_); (fail_if_success refine SReg.go ?_); (fail_if_success refine QCall.mk ?_); (fail_if_success refine Dec.mk ?_); (fail_if_success show False); (fail_if_success show _ = _); cbv)
  all_goals try simp only [ncast, decide_eq_true_eq, decide_eq_false_iff_not, Decidable.not_not, Bool.not_eq_true', Bool.not_eq_false', cond_t, cond_f, toNat_cast] at *
  all_goals try (first | exact Side.mk (i64 (by (try simp only [ncast] at *); omega)) | exact Side.mk (u64 (by (try simp only [ncast] at *); omega)) | exact Side.mk (by (try simp only [ncast] at *); refine ⟨?_, ?_, u64 ?_⟩ <;> first | trivial | omega) | exact Side.mk (by (try simp only [ncast] at *); (try simp only [List.length_set, List.length_cons, List.length_nil, List.length_append]); omega))
  all_goals try first
    | exact Side.mk (by rw [he, wtGo_bad (by omega) (by omega)])
    | exact Side.mk (by rw [he, List.drop_of_length_le (by omega)]; simp [wtGo])
  · refine ⟨i + 1, ⟨by omega, by rw [he, wtGo_ok (by omega) (by omega)]; rfl⟩, by omega, ?_⟩
    cbv
    repeat' (first | refine And.intro ?_ ?_ | exact trivial | exact Side.mk rfl | exact REq.sl rfl | exact DEq.mk rfl | exact Side.mk (by (try simp only [ncast] at *); omega))
end Go.Eng
