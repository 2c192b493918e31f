/- The contracts of balanced, and of the search for a number below zero. -/
import Derived.Test.YtmbodncejejceaaCG8
import Derived.Test.YtmbodncejejceaaCPlB
import Derived.Test.YtmbodncejejceaaCCG9
set_option linter.all false

namespace Go.Eng
open Go.Proofs
attribute [local irreducible] vc vops gop step fins fin finP cov covEnv covRows softs qop hop

theorem neg_ok (x : Th Int) : GCall Try.prog 76 [.d (num x)] (.d (bol fun _ => decide (x ⟨⟩ < 0))) [] := by
  refine g76 (tabOK 0 ms) rfl (Nat.le_of_ble_eq_true rfl) rfl ?_
  repeat' first
    | (refine VIf.mk' ?_ ?_ <;> intro _)
    | (refine LenB.mk ?_; intro _)
    | refine And.intro ?_ ?_
    | exact trivial
    | refine Stop.mk ?_
    | exact ShEq.sl
    | ((fail_if_success refine Side.mk ?_); (fail_if_success refine Exists.intro ?_ ?_); (fail_if_success refine VLoop.mk ?_); (fail_if_success refine VCut.mk ?_); (fail_if_success refine REq.sl ?_); (fail_if_success refine Same.mk ?_); (fail_if_success refine DEq.mk ?_); (fail_if_success refine VCall.mk ?_); (fail_if_success refine SReg.go ?_); (fail_if_success refine QCall.mk ?_); (fail_if_success refine Dec.mk ?_); (fail_if_success show False); (fail_if_success show _ = _); cbv)
  all_goals exact Side.mk rfl
theorem nz_ok (x : Th Int) : GCall Try.prog 96 [.d (num x)] (.d (bol fun _ => decide (x ⟨⟩ ≠ 0))) [] := by
  refine g96 (tabOK 0 ms) rfl (Nat.le_of_ble_eq_true rfl) rfl ?_
  repeat' first
    | (refine VIf.mk' ?_ ?_ <;> intro _)
    | (refine LenB.mk ?_; intro _)
    | refine And.intro ?_ ?_
    | exact trivial
    | refine Stop.mk ?_
    | exact ShEq.sl
    | ((fail_if_success refine Side.mk ?_); (fail_if_success refine Exists.intro ?_ ?_); (fail_if_success refine VLoop.mk ?_); (fail_if_success refine VCut.mk ?_); (fail_if_success refine REq.sl ?_); (fail_if_success refine Same.mk ?_); (fail_if_success refine DEq.mk ?_); (fail_if_success refine VCall.mk ?_); (fail_if_success refine SReg.go ?_); (fail_if_success refine QCall.mk ?_); (fail_if_success refine Dec.mk ?_); (fail_if_success show False); (fail_if_success show _ = _); cbv)
  all_goals exact Side.mk rfl

theorem idxneg_ok (l : Th (List Int)) : GCall Try.prog 75 [.d (ints l), .d (.fn 76 [])] (.d (num fun _ => idxF (fun x => decide (x < 0)) (l ⟨⟩) 0)) [] := by
  refine g75 (tabOK 0 ms) rfl (Nat.le_of_ble_eq_true rfl) rfl ?_
  repeat' first
    | (refine VIf.mk' ?_ ?_ <;> intro _)
    | (refine LenB.mk ?_; intro _)
    | refine And.intro ?_ ?_
    | exact trivial
    | refine Stop.mk ?_
    | exact ShEq.sl
    | ((fail_if_success refine Side.mk ?_); (fail_if_success refine Exists.intro ?_ ?_); (fail_if_success refine VLoop.mk ?_); (fail_if_success refine VCut.mk ?_); (fail_if_success refine REq.sl ?_); (fail_if_success refine Same.mk ?_); (fail_if_success refine DEq.mk ?_); (fail_if_success refine VCall.mk ?_); (fail_if_success refine SReg.go ?_); (fail_if_success refine QCall.mk ?_); (fail_if_success refine Dec.mk ?_); (fail_if_success show False); (fail_if_success show _ = _); cbv)
  refine VLoop.inv (ι := Nat) (fun k => ⟨[(0, .d (ints l)), (1, .d (.fn 76 [])), (7, .d (num fun _ => (l ⟨⟩).length)), (8, .d (num fun _ => k))], []⟩)
    (fun k => k ≤ (l ⟨⟩).length ∧ idxF (fun x => decide (x < 0)) (l ⟨⟩) 0 = idxF (fun x => decide (x < 0)) ((l ⟨⟩).drop k) k) (fun k => (l ⟨⟩).length - k) 0 ⟨Nat.zero_le _, rfl⟩ ?_ ?_
  · cbv
    repeat' first | refine And.intro ?_ ?_ | exact trivial | exact Side.mk rfl | exact REq.sl rfl | exact DEq.mk rfl
  rintro k ⟨hk, he⟩
  repeat' first
    | (refine VIf.mk' ?_ ?_ <;> intro _)
    | (refine LenB.mk ?_; intro _)
    | refine And.intro ?_ ?_
    | exact trivial
    | refine Stop.mk ?_
    | exact ShEq.sl
    | refine VCall.mk' (.mk (neg_ok _)) (.inl rfl) ?_
    | ((fail_if_success refine Side.mk ?_); (fail_if_success refine Exists.intro ?_ ?_); (fail_if_success refine VLoop.mk ?_); (fail_if_success refine VCut.mk ?_); (fail_if_success refine REq.sl ?_); (fail_if_success refine Same.mk ?_); (fail_if_success refine DEq.mk ?_); (fail_if_success refine VCall.mk ?_); (fail_if_success refine SReg.go ?_); (fail_if_success refine QCall.mk ?_); (fail_if_success refine Dec.mk ?_); (fail_if_success show False); (fail_if_success show _ = _); cbv)
  all_goals try simp only [ncast, decide_eq_true_eq, decide_eq_false_iff_not, Decidable.not_not, Bool.not_eq_true', Bool.not_eq_false', cond_t, cond_f, toNat_cast] at *
  all_goals try (first | exact Side.mk (i64 (by (try simp only [ncast] at *); omega)) | exact Side.mk (u64 (by (try simp only [ncast] at *); omega)) | exact Side.mk (by (try simp only [ncast] at *); refine ⟨?_, ?_, u64 ?_⟩ <;> first | trivial | omega) | exact Side.mk (by (try simp only [ncast] at *); (try simp only [List.length_set, List.length_cons, List.length_nil, List.length_append]); omega))
  · rename_i hlt h
    exact Side.mk (by rw [he]; exact (idxF_yes (by omega) (decide_eq_true h) _).symm)
  · rename_i hlt h
    refine ⟨k + 1, ⟨by omega, he.trans (idxF_no (by omega) (decide_eq_false h) _)⟩, by omega, ?_⟩
    cbv
    repeat' (first | refine And.intro ?_ ?_ | exact trivial | exact Side.mk rfl | exact REq.sl rfl | exact DEq.mk rfl | exact Side.mk (by (try simp only [ncast] at *); omega))
  · rename_i hge
    exact Side.mk (by rw [he, List.drop_of_length_le (by omega)]; rfl)

theorem idxnz_ok (l : Th (List Int)) : GCall Try.prog 75 [.d (ints l), .d (.fn 96 [])] (.d (num fun _ => idxF (fun x => decide (x ≠ 0)) (l ⟨⟩) 0)) [] := by
  refine g75 (tabOK 0 ms) rfl (Nat.le_of_ble_eq_true rfl) rfl ?_
  repeat' first
    | (refine VIf.mk' ?_ ?_ <;> intro _)
    | (refine LenB.mk ?_; intro _)
    | refine And.intro ?_ ?_
    | exact trivial
    | refine Stop.mk ?_
    | exact ShEq.sl
    | ((fail_if_success refine Side.mk ?_); (fail_if_success refine Exists.intro ?_ ?_); (fail_if_success refine VLoop.mk ?_); (fail_if_success refine VCut.mk ?_); (fail_if_success refine REq.sl ?_); (fail_if_success refine Same.mk ?_); (fail_if_success refine DEq.mk ?_); (fail_if_success refine VCall.mk ?_); (fail_if_success refine SReg.go ?_); (fail_if_success refine QCall.mk ?_); (fail_if_success refine Dec.mk ?_); (fail_if_success show False); (fail_if_success show _ = _); cbv)
  refine VLoop.inv (ι := Nat) (fun k => ⟨[(0, .d (ints l)), (1, .d (.fn 96 [])), (7, .d (num fun _ => (l ⟨⟩).length)), (8, .d (num fun _ => k))], []⟩)
    (fun k => k ≤ (l ⟨⟩).length ∧ idxF (fun x => decide (x ≠ 0)) (l ⟨⟩) 0 = idxF (fun x => decide (x ≠ 0)) ((l ⟨⟩).drop k) k) (fun k => (l ⟨⟩).length - k) 0 ⟨Nat.zero_le _, rfl⟩ ?_ ?_
  · cbv
    repeat' first | refine And.intro ?_ ?_ | exact trivial | exact Side.mk rfl | exact REq.sl rfl | exact DEq.mk rfl
  rintro k ⟨hk, he⟩
  repeat' first
    | (refine VIf.mk' ?_ ?_ <;> intro _)
    | (refine LenB.mk ?_; intro _)
    | refine And.intro ?_ ?_
    | exact trivial
    | refine Stop.mk ?_
    | exact ShEq.sl
    | refine VCall.mk' (.mk (nz_ok _)) (.inl rfl) ?_
    | ((fail_if_success refine Side.mk ?_); (fail_if_success refine Exists.intro ?_ ?_); (fail_if_success refine VLoop.mk ?_); (fail_if_success refine VCut.mk ?_); (fail_if_success refine REq.sl ?_); (fail_if_success refine Same.mk ?_); (fail_if_success refine DEq.mk ?_); (fail_if_success refine VCall.mk ?_); (fail_if_success refine SReg.go ?_); (fail_if_success refine QCall.mk ?_); (fail_if_success refine Dec.mk ?_); (fail_if_success show False); (fail_if_success show _ = _); cbv)
  all_goals try simp only [ncast, decide_eq_true_eq, decide_eq_false_iff_not, Decidable.not_not, Bool.not_eq_true', Bool.not_eq_false', cond_t, cond_f, toNat_cast] at *
  all_goals try (first | exact Side.mk (i64 (by (try simp only [ncast] at *); omega)) | exact Side.mk (u64 (by (try simp only [ncast] at *); omega)) | exact Side.mk (by (try simp only [ncast] at *); refine ⟨?_, ?_, u64 ?_⟩ <;> first | trivial | omega) | exact Side.mk (by (try simp only [ncast] at *); (try simp only [List.length_set, List.length_cons, List.length_nil, List.length_append]); omega))
  · rename_i hlt h
    exact Side.mk (by rw [he]; exact (idxF_yes (by omega) (by simpa using h) _).symm)
  · rename_i hlt h
    refine ⟨k + 1, ⟨by omega, he.trans (idxF_no (by omega) (by simpa using h) _)⟩, by omega, ?_⟩
    cbv
    repeat' (first | refine And.intro ?_ ?_ | exact trivial | exact Side.mk rfl | exact REq.sl rfl | exact DEq.mk rfl | exact Side.mk (by (try simp only [ncast] at *); omega))
  · rename_i hge
    exact Side.mk (by rw [he, List.drop_of_length_le (by omega)]; rfl)

theorem hasnz_ok (l : Th (List Int)) : GCall Try.prog 95 [.d (ints l), .d (.fn 96 [])] (.d (bol fun _ => decide (0 ≤ idxF (fun x => decide (x ≠ 0)) (l ⟨⟩) 0))) [] := by
  refine g95 (tabOK 0 ms) rfl (Nat.le_of_ble_eq_true rfl) rfl ?_
  repeat' first
    | (refine VIf.mk' ?_ ?_ <;> intro _)
    | (refine LenB.mk ?_; intro _)
    | refine And.intro ?_ ?_
    | exact trivial
    | refine Stop.mk ?_
    | exact ShEq.sl
    | refine VCall.mk' (.mk (idxnz_ok _)) (.inl rfl) ?_
    | ((fail_if_success refine Side.mk ?_); (fail_if_success refine Exists.intro ?_ ?_); (fail_if_success refine VLoop.mk ?_); (fail_if_success refine VCut.mk ?_); (fail_if_success refine REq.sl ?_); (fail_if_success refine Same.mk ?_); (fail_if_success refine DEq.mk ?_); (fail_if_success refine VCall.mk ?_); (fail_if_success refine SReg.go ?_); (fail_if_success refine QCall.mk ?_); (fail_if_success refine Dec.mk ?_); (fail_if_success show False); (fail_if_success show _ = _); cbv)
  all_goals exact Side.mk rfl

structure BaPre (L : List Pr) (n : Int) (N : Nat) (c : List Int) : Prop where
  n0 : 0 ≤ n ∧ n.toNat = N
  nN : N ≤ 1000
  ll : L.length ≤ 1000
  sp : SolPre L N
  lc : c.length = L.length
  bd : ∀ i, i < L.length → -1000000000 ≤ c.getD i 0 ∧ c.getD i 0 ≤ 1000000000

theorem balanced_ok (L : Th (List Pr)) (n : Th Int) (c : Th (List Int)) (N : Nat) (h : Side fun _ => BaPre (L ⟨⟩) (n ⟨⟩) N (c ⟨⟩)) :
    GCall Try.prog 74 [.d (pairs L), .d (num n), .d (ints c)] (.d (bol fun _ => decide (Bal (edF (L ⟨⟩)) (L ⟨⟩).length (N + 1) fun i => (c ⟨⟩).getD i 0))) [] := by
  obtain ⟨hn, hN, hL, hp, hlc, hbd⟩ := h.h
  clear h
  refine g74 (tabOK 0 ms) rfl (Nat.le_of_ble_eq_true rfl) rfl ?_
  repeat' first
    | (refine VIf.mk' ?_ ?_ <;> intro _)
    | (refine LenB.mk ?_; intro _)
    | refine And.intro ?_ ?_
    | exact trivial
    | refine Stop.mk ?_
    | exact ShEq.sl
    | ((fail_if_success refine Side.mk ?_); (fail_if_success refine Exists.intro ?_ ?_); (fail_if_success refine VLoop.mk ?_); (fail_if_success refine VCut.mk ?_); (fail_if_success refine REq.sl ?_); (fail_if_success refine Same.mk ?_); (fail_if_success refine DEq.mk ?_); (fail_if_success refine VCall.mk ?_); (fail_if_success refine SReg.go ?_); (fail_if_success refine QCall.mk ?_); (fail_if_success refine Dec.mk ?_); (fail_if_success show False); (fail_if_success show _ = _); cbv)
  · exact Side.mk (i64 (by omega))
  · exact Side.mk (by simp only [ncast]; omega)
  have e0 : List.replicate (n ⟨⟩ + 1).toNat (0 : Int) = sumL (L ⟨⟩) (fun i => (c ⟨⟩).getD i 0) N 0 := by
    rw [show (n ⟨⟩ + 1).toNat = N + 1 by omega]; exact sumL_zero _ _ _
  refine VLoop.inv (ι := Nat) (fun k => ⟨[(2, .d (ints c)), (7, .own 0), (13, .d (pairs L)), (14, .d (num fun _ => (L ⟨⟩).length)), (15, .d (num fun _ => k))], [(0, .sl intSh fun _ => sumL (L ⟨⟩) (fun i => (c ⟨⟩).getD i 0) N k)]⟩)
    (fun k => k ≤ (L ⟨⟩).length) (fun k => (L ⟨⟩).length - k) 0 (Nat.zero_le _) ?_ ?_
  · cbv
    repeat' first | refine And.intro ?_ ?_ | exact trivial | exact Side.mk rfl | exact REq.sl rfl | exact DEq.mk rfl | exact REq.sl e0
  intro k hk
  have hsl := sumL_len (L ⟨⟩) (fun i => (c ⟨⟩).getD i 0) N k
  have hx : k < (L ⟨⟩).length → ((0 ≤ ((L ⟨⟩).getD k (0, 0)).1 + 1 ∧ ((L ⟨⟩).getD k (0, 0)).1 + 1 < N + 1) ∧ 0 ≤ ((L ⟨⟩).getD k (0, 0)).2 + 1 ∧ ((L ⟨⟩).getD k (0, 0)).2 + 1 < N + 1) := fun h => by
    have := hp.rng _ (getD_memL (0, 0) h); omega
  have hsv : ∀ v, v < N + 1 → -1000000000000 ≤ (sumL (L ⟨⟩) (fun i => (c ⟨⟩).getD i 0) N k).getD v 0 ∧ (sumL (L ⟨⟩) (fun i => (c ⟨⟩).getD i 0) N k).getD v 0 ≤ 1000000000000 := fun v hv => by
    rw [sumL_at hv]
    have := res_bd (E := edF (L ⟨⟩)) (k := k) (c := fun i => (c ⟨⟩).getD i 0) (B := 1000000000) (fun i hi => hbd i (by omega)) v
    omega
  have hcb := hbd k
  have hstep := sumL_step (L := L ⟨⟩) (c := fun i => (c ⟨⟩).getD i 0) (N := N) (k := k) (a := (((L ⟨⟩).getD k (0, 0)).1 + 1).toNat) (b := (((L ⟨⟩).getD k (0, 0)).2 + 1).toNat) rfl rfl
  generalize hS : sumL (L ⟨⟩) (fun i => (c ⟨⟩).getD i 0) N k = S at *
  have hsv2 : ∀ (a b : Nat) (y : Int), a < N + 1 → b < N + 1 → -1001000000000 ≤ y ∧ y ≤ 1001000000000 → -1001000000000 ≤ (S.set a y).getD b 0 ∧ (S.set a y).getD b 0 ≤ 1001000000000 := fun a b y ha hb hy => by
    have := hsv b hb
    rw [getD_set]
    split <;> omega
  repeat' first
    | (refine VIf.mk' ?_ ?_ <;> intro _)
    | (refine LenB.mk ?_; intro _)
    | refine And.intro ?_ ?_
    | exact trivial
    | refine Stop.mk ?_
    | exact ShEq.sl
    | ((fail_if_success refine Side.mk ?_); (fail_if_success refine Exists.intro ?_ ?_); (fail_if_success refine VLoop.mk ?_); (fail_if_success refine VCut.mk ?_); (fail_if_success refine REq.sl ?_); (fail_if_success refine Same.mk ?_); (fail_if_success refine DEq.mk ?_); (fail_if_success refine VCall.mk ?_); (fail_if_success refine SReg.go ?_); (fail_if_success refine QCall.mk ?_); (fail_if_success refine Dec.mk ?_); (fail_if_success show False); (fail_if_success show _ = _); cbv)
  all_goals try simp only [ncast, decide_eq_true_eq, decide_eq_false_iff_not, Decidable.not_not, Bool.not_eq_true', Bool.not_eq_false', cond_t, cond_f, toNat_cast] at *
  all_goals try (first | exact Side.mk (i64 (by (try simp only [ncast] at *); omega)) | exact Side.mk (u64 (by (try simp only [ncast] at *); omega)) | exact Side.mk (by (try simp only [ncast] at *); refine ⟨?_, ?_, u64 ?_⟩ <;> first | trivial | omega) | exact Side.mk (by (try simp only [ncast] at *); (try simp only [List.length_set, List.length_cons, List.length_nil, List.length_append]); omega))
  all_goals try (
    have hkl : k < (L ⟨⟩).length := by omega
    obtain ⟨⟨x1, x2⟩, x3, x4⟩ := hx hkl
    have xa := hsv (((L ⟨⟩).getD k (0, 0)).1 + 1).toNat (by omega)
    have xc := hcb hkl
    have xb := hsv2 (((L ⟨⟩).getD k (0, 0)).1 + 1).toNat (((L ⟨⟩).getD k (0, 0)).2 + 1).toNat (S.getD (((L ⟨⟩).getD k (0, 0)).1 + 1).toNat 0 - (c ⟨⟩).getD k 0) (by omega) (by omega) (by omega)
    first
      | exact Side.mk (i64 (by omega))
      | exact Side.mk (by (try simp only [List.length_set]); omega))
  · rename_i hlt
    obtain ⟨⟨x1, x2⟩, x3, x4⟩ := hx (by omega)
    have e1 := hstep (by omega) (by omega)
    refine ⟨k + 1, by omega, by omega, ?_⟩
    cbv
    repeat' first | refine And.intro ?_ ?_ | exact trivial | exact Side.mk rfl | exact REq.sl rfl | exact DEq.mk rfl | exact REq.sl e1
  · rename_i hge
    obtain rfl : k = (L ⟨⟩).length := by (try simp only [ncast, decide_eq_false_iff_not] at hge); omega
    refine VCall.mk' (.mk (hasnz_ok _)) (.inr ⟨rfl, fun _ h => (List.not_mem_nil h).elim⟩) ?_
    repeat' first
      | (refine VIf.mk' ?_ ?_ <;> intro _)
      | (refine LenB.mk ?_; intro _)
      | refine And.intro ?_ ?_
      | exact trivial
      | refine Stop.mk ?_
      | exact ShEq.sl
      | ((fail_if_success refine Side.mk ?_); (fail_if_success refine Exists.intro ?_ ?_); (fail_if_success refine VLoop.mk ?_); (fail_if_success refine VCut.mk ?_); (fail_if_success refine REq.sl ?_); (fail_if_success refine Same.mk ?_); (fail_if_success refine DEq.mk ?_); (fail_if_success refine VCall.mk ?_); (fail_if_success refine SReg.go ?_); (fail_if_success refine QCall.mk ?_); (fail_if_success refine Dec.mk ?_); (fail_if_success show False); (fail_if_success show _ = _); cbv)
    refine Side.mk ?_
    have h1 := idxF_neg (p := fun x => decide (x ≠ 0)) (l := S) (i := 0) (by omega)
    have h2 : Bal (edF (L ⟨⟩)) (L ⟨⟩).length (N + 1) (fun i => (c ⟨⟩).getD i 0) ↔ ∀ x ∈ S, (fun x => decide (x ≠ 0)) x = false := by
      rw [← hS]
      constructor
      · intro hb x hx
        obtain ⟨v, hv, rfl⟩ := List.getElem_of_mem hx
        have hv' : v < N + 1 := by simpa [sumL] using hv
        rw [← getD_eq (d := 0) hv, sumL_at hv', hb v hv']
        simp
      · intro hx v hv
        have := hx _ (getD_memL 0 (show v < (sumL (L ⟨⟩) (fun i => (c ⟨⟩).getD i 0) N (L ⟨⟩).length).length by simp [sumL, hv]))
        rw [sumL_at hv] at this
        simp at this; exact this
    have h3 := h1.trans h2.symm
    show (!decide (0 ≤ idxF (fun x => decide (x ≠ 0)) S 0)) = decide (Bal (edF (L ⟨⟩)) (L ⟨⟩).length (N + 1) fun i => (c ⟨⟩).getD i 0)
    rw [← decide_not]
    exact decide_eq_decide.2 (by rw [← h3]; omega)
end Go.Eng
