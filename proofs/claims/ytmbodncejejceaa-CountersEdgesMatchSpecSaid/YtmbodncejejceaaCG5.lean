/- The contract of the reference's Connected. -/
import Derived.Test.YtmbodncejejceaaCSM
import Derived.Test.YtmbodncejejceaaCF1
import Derived.Test.YtmbodncejejceaaCPlA
import Derived.Test.YtmbodncejejceaaCCG5
set_option linter.all false

namespace Go.Eng
open Go.Proofs
attribute [local irreducible] vc vops gop step fins fin finP cov covEnv covRows softs qop hop

abbrev bools (xs : Th (List Bool)) : D := .sl 1 (fun x => [.b (.dyn x)]) false xs

structure CoPre (l : List Pr) (us : List Bool) (a b : Int) : Prop where
  ll : l.length ≤ 1000
  lu : l.length = us.length
  rng : ∀ x ∈ l, -1 ≤ x.1 ∧ -1 ≤ x.2
  a0 : -1 ≤ a
  b0 : -1 ≤ b

theorem conn_ok (l : Th (List Pr)) (us : Th (List Bool)) (a b : Th Int) (h : Side fun _ => CoPre (l ⟨⟩) (us ⟨⟩) (a ⟨⟩) (b ⟨⟩)) :
    GCall Try.prog 71 [.d (pairs l), .d (bools us), .d (num a), .d (num b)] (.d (bol fun _ => decide (rtOf (usedE (l ⟨⟩) (us ⟨⟩)) (nd (a ⟨⟩)) = rtOf (usedE (l ⟨⟩) (us ⟨⟩)) (nd (b ⟨⟩))))) [] := by
  obtain ⟨hll, hlu, hr, ha, hb⟩ := h.h
  clear h
  refine g71 (tabOK 0 ms) rfl (Nat.le_of_ble_eq_true rfl) rfl ?_
  repeat' first
    | (refine VIf.mk' ?_ ?_ <;> intro _)
    | (refine LenB.mk ?_; intro _)
    | refine And.intro ?_ ?_
    | exact trivial
    | refine Stop.mk ?_
    | exact ShEq.sl
    | refine Dec.mk ⟨[a ⟨⟩], rfl, ?_⟩
    | ((fail_if_success refine Side.mk ?_); (fail_if_success refine Exists.intro ?_ ?_); (fail_if_success refine VLoop.mk ?_); (fail_if_success refine VCut.mk ?_); (fail_if_success refine REq.sl ?_); (fail_if_success refine Same.mk ?_); (fail_if_success refine DEq.mk ?_); (fail_if_success refine VCall.mk ?_); (fail_if_success refine SReg.go ?_); (fail_if_success refine QCall.mk ?_); (fail_if_success refine Dec.mk ?_); (fail_if_success show False); (fail_if_success show _ = _); cbv)
  · rename_i h1
    refine Side.mk ?_
    show true = decide _
    have : a ⟨⟩ = b ⟨⟩ := by simpa using h1
    rw [this]; simp
  refine VLoop.inv (ι := Nat × List Int) (fun p => ⟨[(0, .d (pairs l)), (1, .d (bools us)), (3, .d (num b)), (9, .own 0), (10, .d (num fun _ => p.1))], [(0, .sl intSh fun _ => p.2)]⟩)
    (fun p => p.1 ≤ p.2.length ∧ BI (l ⟨⟩) (us ⟨⟩) (a ⟨⟩) p.2 p.1 0) (fun p => 2 * (l ⟨⟩).length + 1 - p.1) (0, [a ⟨⟩]) ⟨by simp, BI.start _ _ ha⟩ ?_ ?_
  · cbv
    repeat' first | refine And.intro ?_ ?_ | exact trivial | exact Side.mk rfl | exact REq.sl rfl | exact DEq.mk rfl
  rintro ⟨k, rc⟩ ⟨hk, hI⟩
  simp only at hk hI
  have hrl := hI.len
  repeat' first
    | (refine VIf.mk' ?_ ?_ <;> intro _)
    | (refine LenB.mk ?_; intro _)
    | refine And.intro ?_ ?_
    | exact trivial
    | refine Stop.mk ?_
    | exact ShEq.sl
    | refine VCall.mk' (.mk (has_ok _ _)) (.inr ⟨rfl, fun _ h => (List.not_mem_nil h).elim⟩) ?_
    | ((fail_if_success refine Side.mk ?_); (fail_if_success refine Exists.intro ?_ ?_); (fail_if_success refine VLoop.mk ?_); (fail_if_success refine VCut.mk ?_); (fail_if_success refine REq.sl ?_); (fail_if_success refine Same.mk ?_); (fail_if_success refine DEq.mk ?_); (fail_if_success refine VCall.mk ?_); (fail_if_success refine SReg.go ?_); (fail_if_success refine QCall.mk ?_); (fail_if_success refine Dec.mk ?_); (fail_if_success show False); (fail_if_success show _ = _); cbv)
  all_goals try simp only [ncast, decide_eq_true_eq, decide_eq_false_iff_not, Decidable.not_not, Bool.not_eq_true', Bool.not_eq_false', cond_t, cond_f, toNat_cast] at *
  all_goals try (first | exact Side.mk (i64 (by (try simp only [ncast] at *); omega)) | exact Side.mk (u64 (by (try simp only [ncast] at *); omega)) | exact Side.mk (by (try simp only [ncast] at *); refine ⟨?_, ?_, u64 ?_⟩ <;> first | trivial | omega) | exact Side.mk (by (try simp only [ncast] at *); (try simp only [List.length_set, List.length_cons, List.length_nil, List.length_append]); omega))
  · rename_i hkl
    replace hkl : k < rc.length := by (try simp only [ncast, decide_eq_true_eq] at hkl); omega
    refine VLoop.inv (ι := Nat × List Int) (fun p => ⟨[(0, .d (pairs l)), (1, .d (bools us)), (3, .d (num b)), (9, .own 0), (10, .d (num fun _ => k)), (11, .d (num fun _ => p.1))], [(0, .sl intSh fun _ => p.2)]⟩)
      (fun p => p.1 ≤ (l ⟨⟩).length ∧ k < p.2.length ∧ p.2.getD k 0 = rc.getD k 0 ∧ BI (l ⟨⟩) (us ⟨⟩) (a ⟨⟩) p.2 k p.1) (fun p => (l ⟨⟩).length - p.1) (0, rc) ⟨Nat.zero_le _, hkl, rfl, hI⟩ ?_ ?_
    · cbv
      repeat' (first | refine And.intro ?_ ?_ | exact trivial | exact Side.mk rfl | exact REq.sl rfl | exact DEq.mk rfl | exact Side.mk (by (try simp only [ncast] at *); omega))
    rintro ⟨j, rs⟩ ⟨hj, hks, hx, hJ⟩
    simp only at hj hks hx hJ
    have hsl := hJ.len
    repeat' first
      | (refine VIf.mk' ?_ ?_ <;> intro _)
      | (refine LenB.mk ?_; intro _)
      | refine And.intro ?_ ?_
      | exact trivial
      | refine Stop.mk ?_
      | exact ShEq.sl
      | refine VCall.mk' (.mk (has_ok _ _)) (.inr ⟨rfl, fun _ h => (List.not_mem_nil h).elim⟩) ?_
      | refine Dec.mk ⟨[_], rfl, ?_⟩
      | refine Same.mk ⟨[_], rfl, ?_⟩
      | ((fail_if_success refine Side.mk ?_); (fail_if_success refine Exists.intro ?_ ?_); (fail_if_success refine VLoop.mk ?_); (fail_if_success refine VCut.mk ?_); (fail_if_success refine REq.sl ?_); (fail_if_success refine Same.mk ?_); (fail_if_success refine DEq.mk ?_); (fail_if_success refine VCall.mk ?_); (fail_if_success refine SReg.go ?_); (fail_if_success refine QCall.mk ?_); (fail_if_success refine Dec.mk ?_); (fail_if_success show False); (fail_if_success show _ = _); cbv)
    all_goals try simp only [ncast, decide_eq_true_eq, decide_eq_false_iff_not, Decidable.not_not, Bool.not_eq_true', Bool.not_eq_false', cond_t, cond_f, toNat_cast] at *
    all_goals try (first | exact Side.mk (i64 (by (try simp only [ncast] at *); omega)) | exact Side.mk (u64 (by (try simp only [ncast] at *); omega)) | exact Side.mk (by (try simp only [ncast] at *); refine ⟨?_, ?_, u64 ?_⟩ <;> first | trivial | omega) | exact Side.mk (by (try simp only [ncast] at *); (try simp only [List.length_set, List.length_cons, List.length_nil, List.length_append]); omega))
    · rename_i hu
      refine ⟨(j + 1, rs), ⟨by simp only; omega, hks, hx, hJ.skip (by rw [hu]; simp)⟩, by simp only; omega, ?_⟩
      cbv
      repeat' (first | refine And.intro ?_ ?_ | exact trivial | exact Side.mk rfl | exact REq.sl rfl | exact DEq.mk rfl | exact Side.mk (by (try simp only [ncast] at *); omega))
    · rename_i hu h1 h2 h3 h4
      have hjl : j < (l ⟨⟩).length := by omega
      have hrj := hr _ (getD_memL (0, 0) hjl)
      have B1 := hJ.half1 hlu hks hjl hu h2 h1 hrj.2
      refine ⟨(j + 1, rs ++ [((l ⟨⟩).getD j (0, 0)).2] ++ [((l ⟨⟩).getD j (0, 0)).1]), ⟨by simp only; omega, by simp only [List.length_append, List.length_cons, List.length_nil]; omega, (getD_app (by simp; omega)).trans ((getD_app hks).trans hx), (B1.half2 hlu (by simp; omega) hjl hu h4 h3 hrj.1).step (fun _ => by simp) (fun _ => by simp)⟩, by simp only; omega, ?_⟩
      cbv
      repeat' (first | refine And.intro ?_ ?_ | exact trivial | exact Side.mk rfl | exact REq.sl rfl | exact DEq.mk rfl | exact Side.mk (by (try simp only [ncast] at *); omega))
    · rename_i hu h1 h2 h3 h4
      have hjl : j < (l ⟨⟩).length := by omega
      have hrj := hr _ (getD_memL (0, 0) hjl)
      have B1 := hJ.half1 hlu hks hjl hu h2 h1 hrj.2
      refine ⟨(j + 1, rs ++ [((l ⟨⟩).getD j (0, 0)).2]), ⟨by simp only; omega, by simp only [List.length_append, List.length_cons, List.length_nil]; omega, (getD_app hks).trans hx, B1.step (fun _ => by simp) (fun _ => h4)⟩, by simp only; omega, ?_⟩
      cbv
      repeat' (first | refine And.intro ?_ ?_ | exact trivial | exact Side.mk rfl | exact REq.sl rfl | exact DEq.mk rfl | exact Side.mk (by (try simp only [ncast] at *); omega))
    · rename_i hu h1 h2 h3
      have hjl : j < (l ⟨⟩).length := by omega
      have hrj := hr _ (getD_memL (0, 0) hjl)
      have B1 := hJ.half1 hlu hks hjl hu h2 h1 hrj.2
      refine ⟨(j + 1, rs ++ [((l ⟨⟩).getD j (0, 0)).2]), ⟨by simp only; omega, by simp only [List.length_append, List.length_cons, List.length_nil]; omega, (getD_app hks).trans hx, B1.step (fun _ => by simp) (fun h => absurd h h3)⟩, by simp only; omega, ?_⟩
      cbv
      repeat' (first | refine And.intro ?_ ?_ | exact trivial | exact Side.mk rfl | exact REq.sl rfl | exact DEq.mk rfl | exact Side.mk (by (try simp only [ncast] at *); omega))
    · rename_i hu h1 h2 h3 h4
      have hjl : j < (l ⟨⟩).length := by omega
      have hrj := hr _ (getD_memL (0, 0) hjl)
      refine ⟨(j + 1, rs ++ [((l ⟨⟩).getD j (0, 0)).1]), ⟨by simp only; omega, by simp only [List.length_append, List.length_cons, List.length_nil]; omega, (getD_app hks).trans hx, (hJ.half2 hlu hks hjl hu h4 h3 hrj.1).step (fun _ => List.mem_append_left _ h2) (fun _ => by simp)⟩, by simp only; omega, ?_⟩
      cbv
      repeat' (first | refine And.intro ?_ ?_ | exact trivial | exact Side.mk rfl | exact REq.sl rfl | exact DEq.mk rfl | exact Side.mk (by (try simp only [ncast] at *); omega))
    · rename_i hu h1 h2 h3 h4
      have hjl : j < (l ⟨⟩).length := by omega
      have hrj := hr _ (getD_memL (0, 0) hjl)
      refine ⟨(j + 1, rs), ⟨by simp only; omega, hks, hx, hJ.step (fun _ => h2) (fun _ => h4)⟩, by simp only; omega, ?_⟩
      cbv
      repeat' (first | refine And.intro ?_ ?_ | exact trivial | exact Side.mk rfl | exact REq.sl rfl | exact DEq.mk rfl | exact Side.mk (by (try simp only [ncast] at *); omega))
    · rename_i hu h1 h2 h3
      have hjl : j < (l ⟨⟩).length := by omega
      have hrj := hr _ (getD_memL (0, 0) hjl)
      refine ⟨(j + 1, rs), ⟨by simp only; omega, hks, hx, hJ.step (fun _ => h2) (fun h => absurd h h3)⟩, by simp only; omega, ?_⟩
      cbv
      repeat' (first | refine And.intro ?_ ?_ | exact trivial | exact Side.mk rfl | exact REq.sl rfl | exact DEq.mk rfl | exact Side.mk (by (try simp only [ncast] at *); omega))
    · rename_i hu h1 h3 h4
      have hjl : j < (l ⟨⟩).length := by omega
      have hrj := hr _ (getD_memL (0, 0) hjl)
      refine ⟨(j + 1, rs ++ [((l ⟨⟩).getD j (0, 0)).1]), ⟨by simp only; omega, by simp only [List.length_append, List.length_cons, List.length_nil]; omega, (getD_app hks).trans hx, (hJ.half2 hlu hks hjl hu h4 h3 hrj.1).step (fun h => absurd (h.trans (getD_app hks)) h1) (fun _ => by simp)⟩, by simp only; omega, ?_⟩
      cbv
      repeat' (first | refine And.intro ?_ ?_ | exact trivial | exact Side.mk rfl | exact REq.sl rfl | exact DEq.mk rfl | exact Side.mk (by (try simp only [ncast] at *); omega))
    · rename_i hu h1 h3 h4
      have hjl : j < (l ⟨⟩).length := by omega
      have hrj := hr _ (getD_memL (0, 0) hjl)
      refine ⟨(j + 1, rs), ⟨by simp only; omega, hks, hx, hJ.step (fun h => absurd h h1) (fun _ => h4)⟩, by simp only; omega, ?_⟩
      cbv
      repeat' (first | refine And.intro ?_ ?_ | exact trivial | exact Side.mk rfl | exact REq.sl rfl | exact DEq.mk rfl | exact Side.mk (by (try simp only [ncast] at *); omega))
    · rename_i hu h1 h3
      have hjl : j < (l ⟨⟩).length := by omega
      have hrj := hr _ (getD_memL (0, 0) hjl)
      refine ⟨(j + 1, rs), ⟨by simp only; omega, hks, hx, hJ.step (fun h => absurd h h1) (fun h => absurd h h3)⟩, by simp only; omega, ?_⟩
      cbv
      repeat' (first | refine And.intro ?_ ?_ | exact trivial | exact Side.mk rfl | exact REq.sl rfl | exact DEq.mk rfl | exact Side.mk (by (try simp only [ncast] at *); omega))
    · rename_i hge
      refine ⟨(k + 1, rs), ⟨by simp only; omega, hJ.next (by omega)⟩, by simp only; omega, ?_⟩
      cbv
      repeat' (first | refine And.intro ?_ ?_ | exact trivial | exact Side.mk rfl | exact REq.sl rfl | exact DEq.mk rfl | exact Side.mk (by (try simp only [ncast] at *); omega))
  · rename_i hge
    refine Side.mk ?_
    exact decide_eq_decide.2 (hI.done hlu (by omega) hr hb)
end Go.Eng
