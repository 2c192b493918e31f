/- The contract of the reference's Functions. -/
import Derived.Test.YtmbodncejejceaaBF19
import Derived.Test.YtmbodncejejceaaBC3
set_option linter.all false

namespace Go.Eng
open Go.Proofs
attribute [local irreducible] vc vops gop step fins fin finP cov covEnv covRows softs qop

def waysL (a b : List Int) : List (List (List Int)) := [[a, b], [a, b.reverse], [a.reverse, b], [a.reverse, b.reverse]]
theorem waysL_at (a b : List Int) {i : Nat} (h : i < 4) : (waysL a b).getD i [] = [((waysW a b).getD i ([], [])).1, ((waysW a b).getD i ([], [])).2] := by
  match i, h with
  | 0, _ => rfl
  | 1, _ => rfl
  | 2, _ => rfl
  | 3, _ => rfl

theorem turned_side (xs : Th (List Int)) (h : Side fun _ => (xs ()).length ≤ 1000000) : GCall Try.prog 58 [.d (ints xs)] (.d (ints fun _ => (xs ()).reverse)) [] := turned_d xs h.h
theorem flat_le (L : List (List Int)) (k : Nat) : (L.take k).flatten.length ≤ L.flatten.length := by
  have := congrArg (fun x : List (List Int) => x.flatten.length) (List.take_append_drop k L)
  simp only [List.flatten_append, List.length_append] at this
  omega

theorem seam_side (c : Th (List Near)) (w : Th (List (List Int))) (hg : Side fun _ => goodCalls (c ())) (h : Side fun _ => (w ()).length = 2 ∧ (w ()).getD 0 [] ≠ [] ∧ (w ()).getD 1 [] ≠ [] ∧ ((w ()).getD 0 []).length ≤ 1000000) :
    GCall Try.prog 59 [.d (nears c), .d (lists w)] (.d (num fun _ => seamW (wt (c ())) ((w ()).getD 0 [], (w ()).getD 1 []))) [] := seam_ok c w hg.h h.h.1 h.h.2.1 h.h.2.2.1 h.h.2.2.2

set_option maxHeartbeats 8000000 in
theorem functions_ok (n : Th Int) (c : Th (List Near)) (N : Nat) (hn0 : n () = N) (hn : N ≤ 60) (hg : goodCalls (c ())) :
    GCall Try.prog 23 [.d (num n), .d (nears c)] (.row (.sl intSh fun _ => orderF (wt (c ())) N)) [] := by
  refine g23 (tabOK 0 mm) rfl (Nat.le_of_ble_eq_true rfl) rfl ?_
  repeat' first
    | (refine VIf.mk' ?_ ?_ <;> intro _)
    | (refine LenB.mk ?_; intro _)
    | refine And.intro ?_ ?_
    | exact trivial
    | refine Stop.mk ?_
    | exact ShEq.sl
    | ((fail_if_success refine Side.mk ?_); (fail_if_success refine Exists.intro ?_ ?_); (fail_if_success refine VLoop.mk ?_); (fail_if_success refine VCut.mk ?_); (fail_if_success refine REq.sl ?_); (fail_if_success refine Same.mk ?_); (fail_if_success refine DEq.mk ?_); (fail_if_success refine VCall.mk ?_); (fail_if_success refine SReg.go ?_); (fail_if_success refine QCall.mk ?_); (fail_if_success refine Dec.mk ?_); (fail_if_success show False); (fail_if_success show _ = _); cbv)
  -- the ways of one
  refine VLoop.inv (ι := Nat × List (List Int)) (fun p => ⟨[(0, .d (num n)), (1, .d (nears c)), (5, .own 0), (6, .d (num fun _ => p.1))], [(0, .sl listSh fun _ => p.2)]⟩)
    (fun p => p.1 ≤ N ∧ p.2 = startL p.1) (fun p => N - p.1) (0, []) ⟨Nat.zero_le _, rfl⟩ ?_ ?_
  · cbv
    repeat' first | refine And.intro ?_ ?_ | exact trivial | exact Side.mk rfl | exact REq.sl rfl | exact DEq.mk rfl
  rintro ⟨i, L⟩ ⟨hi, hL⟩
  simp only at hi hL
  subst hL
  have hS : ∀ k, startL (k + 1) = startL k ++ [[(k : Int)]] := fun k => by simp [startL, List.range_succ]
  have hSl : ∀ k, (startL k).length = k := fun k => by simp [startL]
  repeat' first
    | (refine VIf.mk' ?_ ?_ <;> intro _)
    | (refine LenB.mk ?_; intro _)
    | refine And.intro ?_ ?_
    | exact trivial
    | refine Stop.mk ?_
    | exact ShEq.sl
    | refine Dec.mk ⟨[[(i : Int)]], rfl, ?_⟩
    | refine Dec.mk ⟨[(i : Int)], rfl, ?_⟩
    | refine Same.mk ⟨[[(i : Int)]], rfl, ?_⟩
    | ((fail_if_success refine Side.mk ?_); (fail_if_success refine Exists.intro ?_ ?_); (fail_if_success refine VLoop.mk ?_); (fail_if_success refine VCut.mk ?_); (fail_if_success refine REq.sl ?_); (fail_if_success refine Same.mk ?_); (fail_if_success refine DEq.mk ?_); (fail_if_success refine VCall.mk ?_); (fail_if_success refine SReg.go ?_); (fail_if_success refine QCall.mk ?_); (fail_if_success refine Dec.mk ?_); (fail_if_success show False); (fail_if_success show _ = _); cbv)
  all_goals try simp only [ncast, decide_eq_true_eq, decide_eq_false_iff_not, Decidable.not_not, Bool.not_eq_true', Bool.not_eq_false', cond_t, cond_f, toNat_cast] at *
  · exact Side.mk (by rw [hSl]; simp only [List.length_cons, List.length_nil]; omega)
  · exact Side.mk (i64 (by omega))
  · refine ⟨(i + 1, startL (i + 1)), ⟨by simp only; omega, rfl⟩, by simp only; omega, ?_⟩
    cbv
    repeat' first | refine And.intro ?_ ?_ | exact trivial | exact Side.mk rfl | exact REq.sl (hS i).symm | exact DEq.mk rfl
  rename_i hii
  have hiN : i = N := by omega
  subst hiN
  generalize hWW : wt (c ⟨⟩) = W
  have hbw : ∀ L : List (List Int), InvL i L → ∀ a b : Nat, a < b → b < L.length → betw (c ⟨⟩) (L.getD a []) (L.getD b []) = pairF W L (a, b) := fun L hI a b hab hb => by
    rw [← cross_betw (hI.two hab hb), hWW]; rfl
  -- the rounds
  refine VLoop.inv (ι := List (List Int)) (fun L => ⟨[(1, .d (nears c)), (5, .own 0)], [(0, .sl listSh fun _ => L)]⟩)
    (fun L => InvL i L ∧ orderL W L.length L = orderF W i) (fun L => L.length) (startL i) ⟨startL_inv _, by simp [startL, orderF]⟩ ?_ ?_
  · cbv
    repeat' (first | refine And.intro ?_ ?_ | exact trivial | exact Side.mk rfl | exact REq.sl rfl | exact DEq.mk rfl | exact Side.mk (by simp only [ncast]; omega))
  rintro L ⟨hI, hO⟩
  have hLn := hI.length
  repeat' first
    | (refine VIf.mk' ?_ ?_ <;> intro _)
    | (refine LenB.mk ?_; intro _)
    | refine And.intro ?_ ?_
    | exact trivial
    | refine Stop.mk ?_
    | exact ShEq.sl
    | ((fail_if_success refine Side.mk ?_); (fail_if_success refine Exists.intro ?_ ?_); (fail_if_success refine VLoop.mk ?_); (fail_if_success refine VCut.mk ?_); (fail_if_success refine REq.sl ?_); (fail_if_success refine Same.mk ?_); (fail_if_success refine DEq.mk ?_); (fail_if_success refine VCall.mk ?_); (fail_if_success refine SReg.go ?_); (fail_if_success refine QCall.mk ?_); (fail_if_success refine Dec.mk ?_); (fail_if_success show False); (fail_if_success show _ = _); cbv)
  all_goals try simp only [ncast, decide_eq_true_eq, decide_eq_false_iff_not, Decidable.not_not, Bool.not_eq_true', Bool.not_eq_false', cond_t, cond_f, toNat_cast] at *
  generalize hM : L.length = M at *
  generalize hf : pairF W L = f
  have hfe : ∀ a b : Nat, a < b → b < M → betw (c ⟨⟩) (L.getD a []) (L.getD b []) = f (a, b) := fun a b hab hb => by rw [← hf]; exact hbw L hI a b hab (by omega)
  -- the first way
  refine VLoop.inv (ι := Nat) (fun x => ⟨[(1, .d (nears c)), (5, .own 0), (7, .d (num fun _ => oA (bestTo f M x (x + 1)))), (8, .d (num fun _ => oB (bestTo f M x (x + 1)))), (9, .d (num fun _ => x))], [(0, .sl listSh fun _ => L)]⟩)
    (fun x => x ≤ M) (fun x => M - x) 0 (Nat.zero_le _) ?_ ?_
  · cbv
    repeat' first | refine And.intro ?_ ?_ | exact trivial | exact Side.mk rfl | exact REq.sl rfl | exact DEq.mk rfl | exact Side.mk (by rw [bestTo_zero]; rfl)
  intro x hx
  repeat' first
    | (refine VIf.mk' ?_ ?_ <;> intro _)
    | (refine LenB.mk ?_; intro _)
    | refine And.intro ?_ ?_
    | exact trivial
    | refine Stop.mk ?_
    | exact ShEq.sl
    | ((fail_if_success refine Side.mk ?_); (fail_if_success refine Exists.intro ?_ ?_); (fail_if_success refine VLoop.mk ?_); (fail_if_success refine VCut.mk ?_); (fail_if_success refine REq.sl ?_); (fail_if_success refine Same.mk ?_); (fail_if_success refine DEq.mk ?_); (fail_if_success refine VCall.mk ?_); (fail_if_success refine SReg.go ?_); (fail_if_success refine QCall.mk ?_); (fail_if_success refine Dec.mk ?_); (fail_if_success show False); (fail_if_success show _ = _); cbv)
  all_goals try simp only [ncast, decide_eq_true_eq, decide_eq_false_iff_not, Decidable.not_not, Bool.not_eq_true', Bool.not_eq_false', cond_t, cond_f, toNat_cast] at *
  · exact Side.mk (i64 (by omega))
  · -- the second way
    rename_i hxM
    refine VLoop.inv (ι := Nat) (fun k => ⟨[(1, .d (nears c)), (5, .own 0), (7, .d (num fun _ => oA (bestTo f M x k))), (8, .d (num fun _ => oB (bestTo f M x k))), (9, .d (num fun _ => x)), (10, .d (num fun _ => k))], [(0, .sl listSh fun _ => L)]⟩)
      (fun k => x + 1 ≤ k ∧ k ≤ M) (fun k => M - k) (x + 1) ⟨Nat.le_refl _, by omega⟩ ?_ ?_
    · cbv
      repeat' (first | refine And.intro ?_ ?_ | exact trivial | exact Side.mk rfl | exact REq.sl rfl | exact DEq.mk rfl | exact Side.mk (by simp only [ncast]; omega))
    rintro k ⟨hk1, hk2⟩
    have hcur : ∀ p, bestTo f M x k = some p → p.1 < p.2 ∧ p.2 < M ∧ betw (c ⟨⟩) (L.getD p.1 []) (L.getD p.2 []) = f p ∧ 0 < f p := fun p hp => by
      obtain ⟨h1, h2⟩ := bestTo_mem (.inl hk2) hp
      exact ⟨h1, h2, hfe p.1 p.2 h1 h2, bestTo_pos hp⟩
    have hnx : bestTo f M x (k + 1) = bstep f (bestTo f M x k) (x, k) := bestTo_succ f M x k hk1
    have hrow : k = M → bestTo f M (x + 1) (x + 2) = bestTo f M x k := fun h => bestTo_row f M x k (by omega) (.inl (by omega))
    have hxk : k < M → betw (c ⟨⟩) (L.getD x []) (L.getD k []) = f (x, k) := fun h => hfe x k (by omega) h
    generalize bestTo f M x k = b at *
    have hb : (b = none ∧ oA b = -1 ∧ bval f b = 0) ∨ ∃ p : Nat × Nat, b = some p ∧ oA b = p.1 ∧ oB b = p.2 ∧ bval f b = f p := by
      cases b with
      | none => exact .inl ⟨rfl, rfl, rfl⟩
      | some p => exact .inr ⟨p, rfl, rfl, rfl, rfl⟩
    repeat' first
      | (refine VIf.mk' ?_ ?_ <;> intro _)
      | (refine LenB.mk ?_; intro _)
      | refine And.intro ?_ ?_
      | exact trivial
      | refine Stop.mk ?_
      | exact ShEq.sl
      | refine VCall.mk' (.mk (betw_ok _ _ _ hg)) (.inl rfl) ?_
      | ((fail_if_success refine Side.mk ?_); (fail_if_success refine Exists.intro ?_ ?_); (fail_if_success refine VLoop.mk ?_); (fail_if_success refine VCut.mk ?_); (fail_if_success refine REq.sl ?_); (fail_if_success refine Same.mk ?_); (fail_if_success refine DEq.mk ?_); (fail_if_success refine VCall.mk ?_); (fail_if_success refine SReg.go ?_); (fail_if_success refine QCall.mk ?_); (fail_if_success refine Dec.mk ?_); (fail_if_success show False); (fail_if_success show _ = _); cbv)
    all_goals try simp only [ncast, decide_eq_true_eq, decide_eq_false_iff_not, Decidable.not_not, Bool.not_eq_true', Bool.not_eq_false', cond_t, cond_f, toNat_cast] at *
    · exact Side.mk (by omega)
    · exact Side.mk (by omega)
    · exact Side.mk (i64 (by omega))
    · rename_i h1 h2 h3
      have hlt : bval f b < f (x, k) := by
        rw [hxk (by omega)] at h2
        rcases hb with ⟨_, _, h⟩ | ⟨p, rfl, e1, _, _⟩
        · omega
        · omega
      have e : bestTo f M x (k + 1) = some (x, k) := by rw [hnx]; unfold bstep; rw [if_pos hlt]
      refine ⟨k + 1, ⟨by omega, by omega⟩, by omega, ?_⟩
      cbv
      repeat' first | refine And.intro ?_ ?_ | exact trivial | exact Side.mk rfl | exact REq.sl rfl | exact DEq.mk rfl | exact Side.mk (by rw [e]; rfl)
    · refine Side.mk ?_
      rcases hb with ⟨_, h, _⟩ | ⟨p, rfl, h1, h2, _⟩
      · omega
      · have := hcur p rfl; omega
    · refine Side.mk ?_
      rcases hb with ⟨_, h, _⟩ | ⟨p, rfl, h1, h2, _⟩
      · omega
      · have := hcur p rfl; omega
    · exact Side.mk (i64 (by omega))
    · rename_i h1 h2 h3 h4
      have hlt : bval f b < f (x, k) := by
        rw [hxk (by omega)] at h4
        rcases hb with ⟨_, h, _⟩ | ⟨p, rfl, e1, e2, e3⟩
        · omega
        · rw [e1, e2, Int.toNat_natCast, Int.toNat_natCast, (hcur p rfl).2.2.1] at h4
          omega
      have e : bestTo f M x (k + 1) = some (x, k) := by rw [hnx]; unfold bstep; rw [if_pos hlt]
      refine ⟨k + 1, ⟨by omega, by omega⟩, by omega, ?_⟩
      cbv
      repeat' first | refine And.intro ?_ ?_ | exact trivial | exact Side.mk rfl | exact REq.sl rfl | exact DEq.mk rfl | exact Side.mk (by rw [e]; rfl)
    · exact Side.mk (i64 (by omega))
    · rename_i h1 h2 h3 h4
      have hlt : ¬ bval f b < f (x, k) := by
        rw [hxk (by omega)] at h4
        rcases hb with ⟨_, h, _⟩ | ⟨p, rfl, e1, e2, e3⟩
        · omega
        · rw [e1, e2, Int.toNat_natCast, Int.toNat_natCast, (hcur p rfl).2.2.1] at h4
          omega
      have e : bestTo f M x (k + 1) = b := by rw [hnx]; unfold bstep; rw [if_neg hlt]
      refine ⟨k + 1, ⟨by omega, by omega⟩, by omega, ?_⟩
      cbv
      repeat' first | refine And.intro ?_ ?_ | exact trivial | exact Side.mk rfl | exact REq.sl rfl | exact DEq.mk rfl | exact Side.mk (by rw [e])
    · exact Side.mk (i64 (by omega))
    · rename_i h1 h2
      have hlt : ¬ bval f b < f (x, k) := by
        rw [hxk (by omega)] at h2
        rcases hb with ⟨_, _, h⟩ | ⟨p, rfl, e1, _, e3⟩
        · omega
        · have := hcur p rfl; omega
      have e : bestTo f M x (k + 1) = b := by rw [hnx]; unfold bstep; rw [if_neg hlt]
      refine ⟨k + 1, ⟨by omega, by omega⟩, by omega, ?_⟩
      cbv
      repeat' first | refine And.intro ?_ ?_ | exact trivial | exact Side.mk rfl | exact REq.sl rfl | exact DEq.mk rfl | exact Side.mk (by rw [e])
    · exact Side.mk (i64 (by omega))
    · rename_i h1
      have e := hrow (by omega)
      refine ⟨x + 1, by omega, by omega, ?_⟩
      cbv
      repeat' first | refine And.intro ?_ ?_ | exact trivial | exact Side.mk rfl | exact REq.sl rfl | exact DEq.mk rfl | exact Side.mk (by rw [e])
  · -- all the ways, one behind the other
    rename_i hxM hneg
    have hxe : x = M := by omega
    subst hxe
    have hbn : bestTo f x x (x + 1) = none := by
      cases hb : bestTo f x x (x + 1) with
      | none => rfl
      | some p => rw [hb] at hneg; simp only [oA] at hneg; omega
    have hst : stepL W L = none := by
      unfold stepL best
      rw [hf, hM, hbn]
    have hfl : (L.flatten).length = i := by have := hI.2.length_eq; simpa using this
    have hres : orderF W i = L.flatten := by
      rw [← hO, ← hM]; exact order_none hst
    refine VLoop.inv (ι := Nat) (fun k => ⟨[(5, .own 0), (12, .own 1), (13, .d (num fun _ => k))], [(1, .sl intSh fun _ => (L.take k).flatten), (0, .sl listSh fun _ => L)]⟩)
      (fun k => k ≤ x) (fun k => x - k) 0 (Nat.zero_le _) ?_ ?_
    · cbv
      repeat' (first | refine And.intro ?_ ?_ | exact trivial | exact Side.mk rfl | exact REq.sl rfl | exact DEq.mk rfl | exact Side.mk (by simp only [ncast]; omega))
    intro k hk
    have hkl := flat_le L k
    have hkl2 := flat_le L (k + 1)
    repeat' first
      | (refine VIf.mk' ?_ ?_ <;> intro _)
      | (refine LenB.mk ?_; intro _)
      | refine And.intro ?_ ?_
      | exact trivial
      | refine Stop.mk ?_
      | exact ShEq.sl
      | refine Same.mk ⟨_, rfl, ?_⟩
      | ((fail_if_success refine Side.mk ?_); (fail_if_success refine Exists.intro ?_ ?_); (fail_if_success refine VLoop.mk ?_); (fail_if_success refine VCut.mk ?_); (fail_if_success refine REq.sl ?_); (fail_if_success refine Same.mk ?_); (fail_if_success refine DEq.mk ?_); (fail_if_success refine VCall.mk ?_); (fail_if_success refine SReg.go ?_); (fail_if_success refine QCall.mk ?_); (fail_if_success refine Dec.mk ?_); (fail_if_success show False); (fail_if_success show _ = _); cbv)
    all_goals try simp only [ncast, decide_eq_true_eq, decide_eq_false_iff_not, Decidable.not_not, Bool.not_eq_true', Bool.not_eq_false', cond_t, cond_f, toNat_cast] at *
    · exact Side.mk (by omega)
    · rename_i h
      have := flat_take L k (by omega)
      rw [this, List.length_append] at hkl2
      exact Side.mk (by omega)
    · exact Side.mk (i64 (by omega))
    · refine ⟨k + 1, by omega, by omega, ?_⟩
      have e := (flat_take L k (by omega)).symm
      cbv
      repeat' first | refine And.intro ?_ ?_ | exact trivial | exact Side.mk rfl | exact REq.sl rfl | exact DEq.mk rfl | exact REq.sl e
    · refine REq.sl ?_
      rw [hres, List.take_of_length_le (by omega)]
  refine SReg.frz' 0 _ rfl (Nat.zero_le _) ?_
  repeat' first
    | (refine VIf.mk' ?_ ?_ <;> intro _)
    | (refine LenB.mk ?_; intro _)
    | refine And.intro ?_ ?_
    | exact trivial
    | refine Stop.mk ?_
    | exact ShEq.sl
    | refine QCall.mk' (.mk (turned_side _ ?_)) ?_
    | refine Dec.mk ⟨[L.getD (oA (bestTo f M x (x + 1))).toNat [], L.getD (oB (bestTo f M x (x + 1))).toNat []], rfl, ?_⟩
    | refine Dec.mk ⟨[L.getD (oA (bestTo f M x (x + 1))).toNat [], (L.getD (oB (bestTo f M x (x + 1))).toNat []).reverse], rfl, ?_⟩
    | refine Dec.mk ⟨[(L.getD (oA (bestTo f M x (x + 1))).toNat []).reverse, L.getD (oB (bestTo f M x (x + 1))).toNat []], rfl, ?_⟩
    | refine Dec.mk ⟨[(L.getD (oA (bestTo f M x (x + 1))).toNat []).reverse, (L.getD (oB (bestTo f M x (x + 1))).toNat []).reverse], rfl, ?_⟩
    | refine Dec.mk ⟨waysL (L.getD (oA (bestTo f M x (x + 1))).toNat []) (L.getD (oB (bestTo f M x (x + 1))).toNat []), rfl, ?_⟩
    | ((fail_if_success refine Side.mk ?_); (fail_if_success refine Exists.intro ?_ ?_); (fail_if_success refine VLoop.mk ?_); (fail_if_success refine VCut.mk ?_); (fail_if_success refine REq.sl ?_); (fail_if_success refine Same.mk ?_); (fail_if_success refine DEq.mk ?_); (fail_if_success refine VCall.mk ?_); (fail_if_success refine SReg.go ?_); (fail_if_success refine QCall.mk ?_); (fail_if_success refine Dec.mk ?_); (fail_if_success show False); (fail_if_success show _ = _); cbv)
  all_goals try simp only [ncast, decide_eq_true_eq, decide_eq_false_iff_not, Decidable.not_not, Bool.not_eq_true', Bool.not_eq_false', cond_t, cond_f, toNat_cast] at *
  all_goals
    have hmem : 0 ≤ oA (bestTo f M x (x + 1)) → ∃ p, bestTo f M x (x + 1) = some p ∧ p.1 < p.2 ∧ p.2 < M := fun h => by
      cases hb : bestTo f M x (x + 1) with
      | none => rw [hb] at h; simp [oA] at h
      | some p => exact ⟨p, rfl, bestTo_mem (.inr (by omega)) hb⟩
    obtain ⟨p, hp, hp1, hp2⟩ := hmem (by omega)
    have eA : oA (bestTo f M x (x + 1)) = (p.1 : Int) := by rw [hp]; rfl
    have eB : oB (bestTo f M x (x + 1)) = (p.2 : Int) := by rw [hp]; rfl
    have hlA := hI.len1 (getD_memL [] (show p.1 < L.length by omega))
    have hlB := hI.len1 (getD_memL [] (show p.2 < L.length by omega))
    try first
      | exact Side.mk (by rw [eA]; omega)
      | exact Side.mk (by rw [eB]; omega)
      | exact Side.mk (by rw [eA, Int.toNat_natCast]; omega)
      | exact Side.mk (by rw [eB, Int.toNat_natCast]; omega)
  generalize oA (bestTo f M x (x + 1)) = a' at *
  generalize oB (bestTo f M x (x + 1)) = b' at *
  subst eA
  subst eB
  have hA1 := hI.1 _ (getD_memL [] (show p.1 < L.length by omega))
  have hB1 := hI.1 _ (getD_memL [] (show p.2 < L.length by omega))
  -- the best of the four
  refine VLoop.inv (ι := Nat × Nat) (fun q => ⟨[(1, .d (nears c)), (5, .d (lists fun _ => L)), (7, .d (num fun _ => p.1)), (8, .d (num fun _ => p.2)), (14, .d (.sl 1 (fun x => [lists x]) [] fun _ => waysL (L.getD p.1 []) (L.getD p.2 []))), (15, .d (num fun _ => q.2)), (16, .d (num fun _ => q.1))], []⟩)
    (fun q => 1 ≤ q.1 ∧ q.1 ≤ 4 ∧ q.2 < 4 ∧ (waysW (L.getD p.1 []) (L.getD p.2 [])).getD q.2 ([], []) = curW W (L.getD p.1 []) (L.getD p.2 []) q.1) (fun q => 4 - q.1) (1, 0) ⟨by simp, by simp, by simp, rfl⟩ ?_ ?_
  · cbv
    repeat' first | refine And.intro ?_ ?_ | exact trivial | exact Side.mk rfl | exact REq.sl rfl | exact DEq.mk rfl
  rintro ⟨k, b⟩ ⟨hk1, hk4, hb4, hbw2⟩
  simp only at hk1 hk4 hb4 hbw2
  have hgs : Side fun _ => goodCalls (c ⟨⟩) := ⟨hg⟩
  have hla := hI.len1 (getD_memL [] (show p.1 < L.length by omega))
  have hlb := hI.len1 (getD_memL [] (show p.2 < L.length by omega))
  have hsw : ∀ j, j < 4 → seamW (wt (c ⟨⟩)) (((waysL (L.getD p.1 []) (L.getD p.2 [])).getD j []).getD 0 [], ((waysL (L.getD p.1 []) (L.getD p.2 [])).getD j []).getD 1 []) = seamW W ((waysW (L.getD p.1 []) (L.getD p.2 [])).getD j ([], [])) := fun j hj => by
    rw [waysL_at _ _ hj, hWW]; rfl
  have hsd : ∀ j, j < 4 → ((waysL (L.getD p.1 []) (L.getD p.2 [])).getD j []).length = 2 ∧ ((waysL (L.getD p.1 []) (L.getD p.2 [])).getD j []).getD 0 [] ≠ [] ∧ ((waysL (L.getD p.1 []) (L.getD p.2 [])).getD j []).getD 1 [] ≠ [] ∧ (((waysL (L.getD p.1 []) (L.getD p.2 [])).getD j []).getD 0 []).length ≤ 1000000 := fun j hj => by
    rw [waysL_at _ _ hj]
    obtain ⟨h1, h2⟩ := waysW_mem (getD_memL ([], []) (show j < (waysW (L.getD p.1 []) (L.getD p.2 [])).length from hj))
    refine ⟨rfl, ?_, ?_, ?_⟩
    · show ((waysW (L.getD p.1 []) (L.getD p.2 [])).getD j ([], [])).1 ≠ []
      rcases h1 with h | h <;> rw [h]
      · exact hA1
      · simpa using hA1
    · show ((waysW (L.getD p.1 []) (L.getD p.2 [])).getD j ([], [])).2 ≠ []
      rcases h2 with h | h <;> rw [h]
      · exact hB1
      · simpa using hB1
    · show ((waysW (L.getD p.1 []) (L.getD p.2 [])).getD j ([], [])).1.length ≤ 1000000
      rcases h1 with h | h <;> rw [h]
      · omega
      · rw [List.length_reverse]; omega
  have hwl : (waysL (L.getD p.1 []) (L.getD p.2 [])).length = 4 := rfl
  repeat' first
    | (refine VIf.mk' ?_ ?_ <;> intro _)
    | (refine LenB.mk ?_; intro _)
    | refine And.intro ?_ ?_
    | exact trivial
    | refine Stop.mk ?_
    | exact ShEq.sl
    | refine SReg.go ?_
    | refine QCall.mk' (.mk (seam_side _ _ hgs ?_)) ?_
    | ((fail_if_success refine Side.mk ?_); (fail_if_success refine Exists.intro ?_ ?_); (fail_if_success refine VLoop.mk ?_); (fail_if_success refine VCut.mk ?_); (fail_if_success refine REq.sl ?_); (fail_if_success refine Same.mk ?_); (fail_if_success refine DEq.mk ?_); (fail_if_success refine VCall.mk ?_); (fail_if_success refine SReg.go ?_); (fail_if_success refine QCall.mk ?_); (fail_if_success refine Dec.mk ?_); (fail_if_success show False); (fail_if_success show _ = _); cbv)
  all_goals try simp only [ncast, decide_eq_true_eq, decide_eq_false_iff_not, Decidable.not_not, Bool.not_eq_true', Bool.not_eq_false', cond_t, cond_f, toNat_cast] at *
  · exact Side.mk (by rw [hwl]; omega)
  · exact Side.mk (hsd k (by omega))
  · exact Side.mk (by rw [hwl]; omega)
  · exact Side.mk (hsd b (by omega))
  · exact Side.mk (i64 (by omega))
  · rename_i h1 h2
    rw [hsw k (by omega), hsw b (by omega), hbw2] at h2
    refine ⟨(k + 1, k), ⟨by simp only; omega, by simp only; omega, by simp only; omega, ?_⟩, by simp only; omega, ?_⟩
    · simp only
      rw [curW_step W _ _ hk1 (by omega)]
      unfold wstep; rw [if_pos (by omega)]
    · cbv
      repeat' (first | refine And.intro ?_ ?_ | exact trivial | exact Side.mk rfl | exact REq.sl rfl | exact DEq.mk rfl | exact Side.mk (by simp only [ncast]; omega))
  · exact Side.mk (i64 (by omega))
  · rename_i h1 h2
    rw [hsw k (by omega), hsw b (by omega), hbw2] at h2
    refine ⟨(k + 1, b), ⟨by simp only; omega, by simp only; omega, by simp only; omega, ?_⟩, by simp only; omega, ?_⟩
    · simp only
      rw [curW_step W _ _ hk1 (by omega)]
      unfold wstep; rw [if_neg (by omega)]
      exact hbw2
    · cbv
      repeat' (first | refine And.intro ?_ ?_ | exact trivial | exact Side.mk rfl | exact REq.sl rfl | exact DEq.mk rfl | exact Side.mk (by simp only [ncast]; omega))
  rename_i hk'
  have hke : k = 4 := by omega
  subst hke
  have hj : ((waysL (L.getD p.1 []) (L.getD p.2 [])).getD b []).getD 0 [] ++ ((waysL (L.getD p.1 []) (L.getD p.2 [])).getD b []).getD 1 [] = joinW W (L.getD p.1 []) (L.getD p.2 []) := by rw [waysL_at _ _ hb4, hbw2]; rfl
  have hxe : x = M := by omega
  have hstep : stepL W L = some ((L.set p.1 (joinW W (L.getD p.1 []) (L.getD p.2 []))).eraseIdx p.2) := by
    have hp' := hp
    rw [hxe] at hp'
    unfold stepL best
    rw [hf, hM, hp']
  have hsl := stepL_len hstep
  have hinv := stepL_inv hI hstep
  have hord := order_some hstep
  have hat : ∀ q, q < M → q ≠ p.2 → ((L.set p.1 (joinW W (L.getD p.1 []) (L.getD p.2 []))).eraseIdx p.2).getD (if q ≤ p.2 then q else q - 1) [] = if q = p.1 then joinW W (L.getD p.1 []) (L.getD p.2 []) else L.getD q [] := fun q hq hne => by
    have h1 : (if q ≤ p.2 then q else q - 1) < p.2 ∧ (if q ≤ p.2 then q else q - 1) = q ∨ p.2 ≤ (if q ≤ p.2 then q else q - 1) ∧ (if q ≤ p.2 then q else q - 1) + 1 = q := by split <;> omega
    have h2 : ((L.set p.1 (joinW W (L.getD p.1 []) (L.getD p.2 []))).eraseIdx p.2).getD (if q ≤ p.2 then q else q - 1) [] = (L.set p.1 (joinW W (L.getD p.1 []) (L.getD p.2 []))).getD q [] := by
      rcases h1 with ⟨h1, h2⟩ | ⟨h1, h2⟩
      · rw [List.getD_eq_getElem?_getD, List.getElem?_eraseIdx_of_lt h1, ← List.getD_eq_getElem?_getD, h2]
      · rw [List.getD_eq_getElem?_getD, List.getElem?_eraseIdx_of_ge h1, ← List.getD_eq_getElem?_getD, h2]
    rw [h2]
    by_cases e : q = p.1
    · rw [if_pos e, e]; exact set_getD_eq [] _ (by omega)
    · rw [if_neg e]; exact set_getD_ne [] _ (Ne.symm e)
  generalize (L.set p.1 (joinW W (L.getD p.1 []) (L.getD p.2 []))).eraseIdx p.2 = L2 at *
  -- the ways of the next round
  refine VLoop.inv (ι := Nat) (fun q => ⟨[(1, .d (nears c)), (5, .d (lists fun _ => L)), (7, .d (num fun _ => p.1)), (8, .d (num fun _ => p.2)), (14, .d (.sl 1 (fun x => [lists x]) [] fun _ => waysL (L.getD p.1 []) (L.getD p.2 []))), (15, .d (num fun _ => b)), (17, .own 0), (18, .d (num fun _ => q))], [(0, .sl listSh fun _ => L2.take (if q ≤ p.2 then q else q - 1))]⟩)
    (fun q => q ≤ M) (fun q => M - q) 0 (Nat.zero_le _) ?_ ?_
  · cbv
    repeat' first | refine And.intro ?_ ?_ | exact trivial | exact Side.mk rfl | exact REq.sl rfl | exact DEq.mk rfl | exact Side.mk (by simp)
  intro q hq
  have hat' := hat q
  have hjl : (((waysL (L.getD p.1 []) (L.getD p.2 [])).getD b []).getD 0 []).length + (((waysL (L.getD p.1 []) (L.getD p.2 [])).getD b []).getD 1 []).length ≤ 120 := by
    have := congrArg List.length hj
    rw [List.length_append, (joinW_perm W (L.getD p.1 []) (L.getD p.2 [])).length_eq, List.length_append] at this
    omega
  have hwl : (waysL (L.getD p.1 []) (L.getD p.2 [])).length = 4 := rfl
  have hl2 : ((waysL (L.getD p.1 []) (L.getD p.2 [])).getD b []).length = 2 := (hsd b hb4).1
  have htl : (L2.take (if q ≤ p.2 then q else q - 1)).length ≤ 60 := by have := List.length_take_le' (if q ≤ p.2 then q else q - 1) L2; omega
  have htk : q < M → q ≠ p.2 → L2.take (if q + 1 ≤ p.2 then q + 1 else q + 1 - 1) = L2.take (if q ≤ p.2 then q else q - 1) ++ [L2.getD (if q ≤ p.2 then q else q - 1) []] := fun h1 h2 => by
    have e : (if q + 1 ≤ p.2 then q + 1 else q + 1 - 1) = (if q ≤ p.2 then q else q - 1) + 1 := by split <;> split <;> omega
    rw [e]; exact take_succ' [] (by split <;> omega)
  repeat' first
    | (refine VIf.mk' ?_ ?_ <;> intro _)
    | (refine LenB.mk ?_; intro _)
    | refine And.intro ?_ ?_
    | exact trivial
    | refine Stop.mk ?_
    | exact ShEq.sl
    | refine Same.mk ⟨_, rfl, ?_⟩
    | refine Dec.mk ⟨[_], rfl, ?_⟩
    | refine Same.mk ⟨[_], rfl, ?_⟩
    | ((fail_if_success refine Side.mk ?_); (fail_if_success refine Exists.intro ?_ ?_); (fail_if_success refine VLoop.mk ?_); (fail_if_success refine VCut.mk ?_); (fail_if_success refine REq.sl ?_); (fail_if_success refine Same.mk ?_); (fail_if_success refine DEq.mk ?_); (fail_if_success refine VCall.mk ?_); (fail_if_success refine SReg.go ?_); (fail_if_success refine QCall.mk ?_); (fail_if_success refine Dec.mk ?_); (fail_if_success show False); (fail_if_success show _ = _); cbv)
  all_goals try simp only [ncast, decide_eq_true_eq, decide_eq_false_iff_not, Decidable.not_not, Bool.not_eq_true', Bool.not_eq_false', cond_t, cond_f, toNat_cast] at *
  · exact Side.mk (by rw [hwl]; omega)
  · exact Side.mk (by rw [hl2]; omega)
  · exact Side.mk (by simp only [show Int.toNat 0 = 0 from rfl, show Int.toNat 1 = 1 from rfl, List.length_nil, List.length_append]; omega)
  · exact Side.mk (by rw [hwl]; omega)
  · exact Side.mk (by rw [hl2]; omega)
  · exact Side.mk (by simp only [show Int.toNat 0 = 0 from rfl, show Int.toNat 1 = 1 from rfl, List.length_nil, List.length_append, List.nil_append]; omega)
  · exact Side.mk (by simp only [List.length_cons, List.length_nil]; omega)
  · exact Side.mk (i64 (by omega))
  · rename_i h1 h2
    have hqp : q = p.1 := by omega
    have e : L2.take (if q ≤ p.2 then q else q - 1) ++ [((waysL (L.getD p.1 []) (L.getD p.2 [])).getD b []).getD 0 [] ++ ((waysL (L.getD p.1 []) (L.getD p.2 [])).getD b []).getD 1 []] = L2.take (if q + 1 ≤ p.2 then q + 1 else q + 1 - 1) := by
      rw [htk (by omega) (by omega), hat' (by omega) (by omega), if_pos hqp, hj]
    refine ⟨q + 1, by omega, by omega, ?_⟩
    cbv
    repeat' first | refine And.intro ?_ ?_ | exact trivial | exact Side.mk rfl | exact REq.sl rfl | exact DEq.mk rfl | exact REq.sl e
  · exact Side.mk (by omega)
  · exact Side.mk (by simp only [List.length_cons, List.length_nil]; omega)
  · exact Side.mk (i64 (by omega))
  · rename_i h1 h2 h3
    have e : L2.take (if q ≤ p.2 then q else q - 1) ++ [L.getD q []] = L2.take (if q + 1 ≤ p.2 then q + 1 else q + 1 - 1) := by
      rw [htk (by omega) (by omega), hat' (by omega) (by omega), if_neg (show ¬ q = p.1 by omega)]
    refine ⟨q + 1, by omega, by omega, ?_⟩
    cbv
    repeat' first | refine And.intro ?_ ?_ | exact trivial | exact Side.mk rfl | exact REq.sl rfl | exact DEq.mk rfl | exact REq.sl e
  · exact Side.mk (i64 (by omega))
  · rename_i h1 h2 h3
    have e : L2.take (if q ≤ p.2 then q else q - 1) = L2.take (if q + 1 ≤ p.2 then q + 1 else q + 1 - 1) := by
      rw [if_pos (show q ≤ p.2 by omega), if_neg (show ¬ q + 1 ≤ p.2 by omega), Nat.add_sub_cancel]
    refine ⟨q + 1, by omega, by omega, ?_⟩
    cbv
    repeat' first | refine And.intro ?_ ?_ | exact trivial | exact Side.mk rfl | exact REq.sl rfl | exact DEq.mk rfl | exact REq.sl e
  · have hqM : q = M := by omega
    have e : L2.take (if q ≤ p.2 then q else q - 1) = L2 := List.take_of_length_le (by split <;> omega)
    refine ⟨L2, ⟨hinv, ?_⟩, by omega, ?_⟩
    · rw [← hord, hM]; exact hO
    · cbv
      repeat' first | refine And.intro ?_ ?_ | exact trivial | exact Side.mk rfl | exact REq.sl rfl | exact DEq.mk rfl | exact REq.sl e
end Go.Eng
