/- The contract of solve. -/
import Derived.Test.YtmbodncejejceaaCSM
import Derived.Test.YtmbodncejejceaaCPlB
import Derived.Test.YtmbodncejejceaaCCG8
set_option linter.all false

namespace Go.Eng
open Go.Proofs
attribute [local irreducible] vc vops gop step fins fin finP cov covEnv covRows softs qop hop

set_option maxHeartbeats 2000000 in
theorem solve_ok (L : Th (List Pr)) (n : Th Int) (kn : Th (List Bool)) (ou : Th (List Int)) (N : Nat) (k0 : Nat → Bool) (c0 : Nat → Int)
    (h : Side fun _ => (0 ≤ n ⟨⟩ ∧ (n ⟨⟩).toNat = N ∧ N ≤ 1000) ∧ (L ⟨⟩).length ≤ 1000 ∧ SolPre (L ⟨⟩) N ∧ InvK (L ⟨⟩) N k0 c0 (kn ⟨⟩, ou ⟨⟩) ∧ (∀ i, i < (L ⟨⟩).length → k0 i = false → (edF (L ⟨⟩) i).1 ≠ (edF (L ⟨⟩) i).2) ∧ sumN (fun i => max (c0 i) (-(c0 i))) (L ⟨⟩).length ≤ 1000000000) :
    GCall Try.prog 73 [.d (pairs L), .d (num n), .row (.sl boolSh kn), .row (.sl intSh ou)] (.tup []) [.sl boolSh fun _ => (solveL (L ⟨⟩) N ((L ⟨⟩).length + 1) (kn ⟨⟩, ou ⟨⟩)).1, .sl intSh fun _ => (solveL (L ⟨⟩) N ((L ⟨⟩).length + 1) (kn ⟨⟩, ou ⟨⟩)).2] := by
  obtain ⟨⟨hn0, hn, hN⟩, hL, hp, hI, hnl, hB⟩ := h.h
  clear h
  generalize hfin : solveL (L ⟨⟩) N ((L ⟨⟩).length + 1) (kn ⟨⟩, ou ⟨⟩) = fin at *
  have hu0 : unk (kn ⟨⟩, ou ⟨⟩) < (L ⟨⟩).length + 1 := by
    have := List.length_filter_le (fun b => !b) (kn ⟨⟩)
    have := hI.l1
    simp only [unk] at *
    omega
  refine g73 (tabOK 2 ms) rfl (Nat.le_of_ble_eq_true rfl) rfl ?_
  repeat' first
    | (refine VIf.mk' ?_ ?_ <;> intro _)
    | (refine LenB.mk ?_; intro _)
    | refine And.intro ?_ ?_
    | exact trivial
    | refine Stop.mk ?_
    | exact ShEq.sl
    | ((fail_if_success refine Side.mk ?_); (fail_if_success refine Exists.intro ?_ ?_); (fail_if_success refine VLoop.mk ?_); (fail_if_success refine VCut.mk ?_); (fail_if_success refine REq.sl ?_); (fail_if_success refine Same.mk ?_); (fail_if_success refine DEq.mk ?_); (fail_if_success refine VCall.mk ?_); (fail_if_success refine SReg.go ?_); (fail_if_success refine QCall.mk ?_); (fail_if_success refine Dec.mk ?_); (fail_if_success show False); (fail_if_success show _ = _); cbv)
  refine VLoop.inv (ι := KC × Bool) (fun p => ⟨[(0, .d (pairs L)), (1, .d (num n)), (2, .own 0), (3, .own 1), (8, .d (bol fun _ => p.2))], [(0, .sl boolSh fun _ => p.1.1), (1, .sl intSh fun _ => p.1.2)]⟩)
    (fun p => InvK (L ⟨⟩) N k0 c0 p.1 ∧ (p.2 = true → ∃ f, unk p.1 < f ∧ solveL (L ⟨⟩) N f p.1 = fin) ∧ (p.2 = false → p.1 = fin)) (fun p => 2 * unk p.1 + if p.2 then 1 else 0) ((kn ⟨⟩, ou ⟨⟩), true) ⟨hI, fun _ => ⟨_, hu0, hfin⟩, fun h => by cases h⟩ ?_ ?_
  · cbv
    repeat' first | refine And.intro ?_ ?_ | exact trivial | exact Side.mk rfl | exact REq.sl rfl | exact DEq.mk rfl
  rintro ⟨s, ch⟩ ⟨hS, hc1, hc2⟩
  simp only at hS hc1 hc2
  repeat' first
    | (refine VIf.mk' ?_ ?_ <;> intro _)
    | (refine LenB.mk ?_; intro _)
    | refine And.intro ?_ ?_
    | exact trivial
    | refine Stop.mk ?_
    | exact ShEq.sl
    | ((fail_if_success refine Side.mk ?_); (fail_if_success refine Exists.intro ?_ ?_); (fail_if_success refine VLoop.mk ?_); (fail_if_success refine VCut.mk ?_); (fail_if_success refine REq.sl ?_); (fail_if_success refine Same.mk ?_); (fail_if_success refine DEq.mk ?_); (fail_if_success refine VCall.mk ?_); (fail_if_success refine SReg.go ?_); (fail_if_success refine QCall.mk ?_); (fail_if_success refine Dec.mk ?_); (fail_if_success show False); (fail_if_success show _ = _); cbv)
  · rename_i hch
    simp only at hch
    obtain ⟨f, hf1, hf2⟩ := hc1 hch
    subst hch
    clear hc1 hc2
    obtain ⟨f, rfl⟩ : ∃ f', f = f' + 1 := ⟨f - 1, by omega⟩
    have hsw := hS.sweep hp hnl
    have hend := hsw (N + 1) (Nat.le_refl _)
    unfold solveL at hf2
    refine VLoop.inv (ι := Nat) (fun k => ⟨[(0, .d (pairs L)), (1, .d (num n)), (2, .own 0), (3, .own 1), (8, .d (bol fun _ => (sweepTo (L ⟨⟩) s k).2)), (9, .d (num fun _ => (k : Int) - 1))], [(0, .sl boolSh fun _ => (sweepTo (L ⟨⟩) s k).1.1), (1, .sl intSh fun _ => (sweepTo (L ⟨⟩) s k).1.2)]⟩)
      (fun k => k ≤ N + 1) (fun k => N + 1 - k) 0 (Nat.zero_le _) ?_ ?_
    · cbv
      repeat' first | refine And.intro ?_ ?_ | exact trivial | exact Side.mk rfl | exact REq.sl rfl | exact DEq.mk rfl
    intro k hk
    have hSk := (hsw k hk).1
    have hsk1 : sweepTo (L ⟨⟩) s (k + 1) = (nodeL (L ⟨⟩) ((k : Int) - 1) (sweepTo (L ⟨⟩) s k).1, (sweepTo (L ⟨⟩) s k).2 || openAt (L ⟨⟩) ((k : Int) - 1) (sweepTo (L ⟨⟩) s k).1) := rfl
    generalize hqe : sweepTo (L ⟨⟩) s k = q at *
    obtain ⟨r, qc⟩ := q
    simp only at hSk hsk1
    generalize hv : (k : Int) - 1 = v at *
    have hvk : (v + 1).toNat = k ∧ 0 ≤ v + 1 := by omega
    have hv2 : (k : Int) - 1 = v := hv
    clear hv
    have hrl1 := hSk.l1
    have hrl2 := hSk.l2
    have hsm := fun i hi => hSk.small hB (i := i) hi
    repeat' first
      | (refine VIf.mk' ?_ ?_ <;> intro _)
      | (refine LenB.mk ?_; intro _)
      | refine And.intro ?_ ?_
      | exact trivial
      | refine Stop.mk ?_
      | exact ShEq.sl
      | ((fail_if_success refine Side.mk ?_); (fail_if_success refine Exists.intro ?_ ?_); (fail_if_success refine VLoop.mk ?_); (fail_if_success refine VCut.mk ?_); (fail_if_success refine REq.sl ?_); (fail_if_success refine Same.mk ?_); (fail_if_success refine DEq.mk ?_); (fail_if_success refine VCall.mk ?_); (fail_if_success refine SReg.go ?_); (fail_if_success refine QCall.mk ?_); (fail_if_success refine Dec.mk ?_); (fail_if_success show False); (fail_if_success show _ = _); cbv)
    · rename_i hkN _
      replace hkN : k < N + 1 := by (try simp only [decide_eq_true_eq] at hkN); omega
      have hv1 : -1 ≤ v ∧ v < N := by omega
      have hbd := fun i hi => scL_bd hSk (by omega) hB v (i := i) hi
      have hrg := fun i hi => scL_rng (L ⟨⟩) r v (i := i) hi
      refine VLoop.inv (ι := Nat) (fun i => ⟨[(0, .d (pairs L)), (1, .d (num n)), (2, .own 0), (3, .own 1), (8, .d (bol fun _ => qc)), (9, .d (num fun _ => v)), (10, .d (num fun _ => (scL (L ⟨⟩) r v i).1)), (11, .d (num fun _ => (scL (L ⟨⟩) r v i).2)), (20, .d (pairs L)), (21, .d (num fun _ => (L ⟨⟩).length)), (22, .d (num fun _ => i))], [(0, .sl boolSh fun _ => r.1), (1, .sl intSh fun _ => r.2)]⟩)
        (fun i => i ≤ (L ⟨⟩).length) (fun i => (L ⟨⟩).length - i) 0 (Nat.zero_le _) ?_ ?_
      · cbv
        repeat' first | refine And.intro ?_ ?_ | exact trivial | exact Side.mk rfl | exact REq.sl rfl | exact DEq.mk rfl
      intro i hi
      have hb := hbd i hi
      have hr := hrg i hi
      have hsmi := hsm i
      have c1 := scL_skip (s := r) hp hv1.1 (i := i)
      have c2 := scL_two (s := r) hp hv1.1 (i := i)
      have c3 := scL_new (s := r) hp hv1.1 (i := i)
      have c4 := scL_out (s := r) hp hv1.1 (i := i)
      have c5 := scL_in (s := r) hp hv1.1 (i := i)
      generalize hsc : scL (L ⟨⟩) r v i = sc at *
      repeat' first
        | (refine VIf.mk' ?_ ?_ <;> intro _)
        | (refine LenB.mk ?_; intro _)
        | refine And.intro ?_ ?_
        | exact trivial
        | refine Stop.mk ?_
        | exact ShEq.sl
        | ((fail_if_success refine Side.mk ?_); (fail_if_success refine Exists.intro ?_ ?_); (fail_if_success refine VLoop.mk ?_); (fail_if_success refine VCut.mk ?_); (fail_if_success refine REq.sl ?_); (fail_if_success refine Same.mk ?_); (fail_if_success refine DEq.mk ?_); (fail_if_success refine VCall.mk ?_); (fail_if_success refine SReg.go ?_); (fail_if_success refine QCall.mk ?_); (fail_if_success refine Dec.mk ?_); (fail_if_success show False); (fail_if_success show _ = _); cbv)
      all_goals try simp only [ncast, decide_eq_true_eq, decide_eq_false_iff_not, Decidable.not_not, Bool.not_eq_true', Bool.not_eq_false', cond_t, cond_f, toNat_cast] at *
      all_goals try (first | exact Side.mk (i64 (by (try simp only [ncast] at *); omega)) | exact Side.mk (u64 (by (try simp only [ncast] at *); omega)) | exact Side.mk (by (try simp only [ncast] at *); refine ⟨?_, ?_, u64 ?_⟩ <;> first | trivial | omega) | exact Side.mk (by (try simp only [ncast] at *); (try simp only [List.length_set, List.length_cons, List.length_nil, List.length_append, hrl1, hrl2]); omega))
      all_goals try (
        exfalso
        have h1 : r.1.getD i false = true := by assumption
        have h2 : r.1.getD i false = false := by assumption
        rw [h1] at h2
        cases h2)
      all_goals try (exfalso; omega)
      all_goals try (
        have hil : i < (L ⟨⟩).length := by omega
        first
          | have e := c1 hil (by omega)
          | have e := c2 hil (by omega) (by assumption) (by omega)
          | have e := c3 hil (by omega) (by assumption) (by omega)
          | have e := c4 hil (by omega) (by assumption) (by assumption)
          | have e := c5 hil (by omega) (by assumption) (by assumption)
        have e1 := (congrArg Prod.fst e).symm
        have e2 := (congrArg Prod.snd e).symm
        refine ⟨i + 1, by omega, by omega, ?_⟩
        cbv
        repeat' first | refine And.intro ?_ ?_ | exact trivial | exact Side.mk rfl | exact REq.sl rfl | exact DEq.mk rfl | exact Side.mk e1 | exact Side.mk e2)
      all_goals
        have hie : i = (L ⟨⟩).length := by omega
        subst hie
      · have h0 : (scL (L ⟨⟩) r v (L ⟨⟩).length).1 < 0 ∨ (scL (L ⟨⟩) r v (L ⟨⟩).length).1 = (L ⟨⟩).length := by rw [hsc]; left; assumption
        obtain ⟨n1, n2⟩ := nodeL_no h0
        have e1 := (hsk1.trans (by rw [n1, n2, Bool.or_false]))
        refine ⟨k + 1, by omega, by omega, ?_⟩
        have d1 : qc = (sweepTo (L ⟨⟩) s (k + 1)).2 := by rw [e1]
        have d2 : r.1 = (sweepTo (L ⟨⟩) s (k + 1)).1.1 := by rw [e1]
        have d3 : r.2 = (sweepTo (L ⟨⟩) s (k + 1)).1.2 := by rw [e1]
        cbv
        repeat' first | refine And.intro ?_ ?_ | exact trivial | exact Side.mk rfl | exact REq.sl rfl | exact DEq.mk rfl | exact Side.mk d1 | exact REq.sl d2 | exact REq.sl d3 | exact Side.mk (by (try simp only [ncast] at *); omega)
      · have h0 : (scL (L ⟨⟩) r v (L ⟨⟩).length).1 < 0 ∨ (scL (L ⟨⟩) r v (L ⟨⟩).length).1 = (L ⟨⟩).length := by rw [hsc]; right; assumption
        obtain ⟨n1, n2⟩ := nodeL_no h0
        have e1 := (hsk1.trans (by rw [n1, n2, Bool.or_false]))
        refine ⟨k + 1, by omega, by omega, ?_⟩
        have d1 : qc = (sweepTo (L ⟨⟩) s (k + 1)).2 := by rw [e1]
        have d2 : r.1 = (sweepTo (L ⟨⟩) s (k + 1)).1.1 := by rw [e1]
        have d3 : r.2 = (sweepTo (L ⟨⟩) s (k + 1)).1.2 := by rw [e1]
        cbv
        repeat' first | refine And.intro ?_ ?_ | exact trivial | exact Side.mk rfl | exact REq.sl rfl | exact DEq.mk rfl | exact Side.mk d1 | exact REq.sl d2 | exact REq.sl d3 | exact Side.mk (by (try simp only [ncast] at *); omega)
      · have h0 : ¬((scL (L ⟨⟩) r v (L ⟨⟩).length).1 < 0 ∨ (scL (L ⟨⟩) r v (L ⟨⟩).length).1 = (L ⟨⟩).length) := by rw [hsc]; omega
        obtain ⟨n1, n2⟩ := nodeL_yes h0
        rw [hsc, if_pos (by assumption)] at n1
        have e1 := (hsk1.trans (by rw [n1, n2, Bool.or_true]))
        refine ⟨k + 1, by omega, by omega, ?_⟩
        have d1 : true = (sweepTo (L ⟨⟩) s (k + 1)).2 := by rw [e1]
        have d2 : r.1.set sc.1.toNat true = (sweepTo (L ⟨⟩) s (k + 1)).1.1 := by rw [e1]
        have d3 : r.2.set sc.1.toNat (-sc.2) = (sweepTo (L ⟨⟩) s (k + 1)).1.2 := by rw [e1]
        cbv
        repeat' first | refine And.intro ?_ ?_ | exact trivial | exact Side.mk rfl | exact REq.sl rfl | exact DEq.mk rfl | exact Side.mk d1 | exact REq.sl d2 | exact REq.sl d3 | exact Side.mk (by (try simp only [ncast] at *); omega)
      · have h0 : ¬((scL (L ⟨⟩) r v (L ⟨⟩).length).1 < 0 ∨ (scL (L ⟨⟩) r v (L ⟨⟩).length).1 = (L ⟨⟩).length) := by rw [hsc]; omega
        obtain ⟨n1, n2⟩ := nodeL_yes h0
        rw [hsc, if_neg (by assumption)] at n1
        have e1 := (hsk1.trans (by rw [n1, n2, Bool.or_true]))
        refine ⟨k + 1, by omega, by omega, ?_⟩
        have d1 : true = (sweepTo (L ⟨⟩) s (k + 1)).2 := by rw [e1]
        have d2 : r.1.set sc.1.toNat true = (sweepTo (L ⟨⟩) s (k + 1)).1.1 := by rw [e1]
        have d3 : r.2.set sc.1.toNat sc.2 = (sweepTo (L ⟨⟩) s (k + 1)).1.2 := by rw [e1]
        cbv
        repeat' first | refine And.intro ?_ ?_ | exact trivial | exact Side.mk rfl | exact REq.sl rfl | exact DEq.mk rfl | exact Side.mk d1 | exact REq.sl d2 | exact REq.sl d3 | exact Side.mk (by (try simp only [ncast] at *); omega)
    · rename_i hge
      obtain rfl : k = N + 1 := by (try simp only [decide_eq_false_iff_not] at hge); omega
      rw [hqe] at hend hf2
      simp only at hend hf2
      obtain ⟨g1, g2, g3⟩ := hend
      refine ⟨(r, qc), ⟨g1, fun hq => ?_, fun hq => ?_⟩, ?_, ?_⟩
      · simp only at hq
        subst hq
        rw [if_pos rfl] at hf2
        exact ⟨f, by have := g2 rfl; simp only; omega, hf2⟩
      · simp only at hq
        subst hq
        rw [if_neg (by simp)] at hf2
        exact hf2
      · simp only
        cases qc with
        | true => have := g2 rfl; simp; omega
        | false => rw [(g3 rfl).1]; simp
      · cbv
        repeat' (first | refine And.intro ?_ ?_ | exact trivial | exact Side.mk rfl | exact REq.sl rfl | exact DEq.mk rfl | exact Side.mk (by (try simp only [ncast] at *); omega))
  · rename_i hch
    simp only at hch
    have := hc2 hch
    rw [← this]
    exact REq.sl rfl
  · rename_i hch
    simp only at hch
    have := hc2 hch
    rw [← this]
    exact REq.sl rfl
end Go.Eng
