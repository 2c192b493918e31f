/- The law FuncorderJoinsTheClosest, called. -/
import Derived.Test.YtmbodncejejceaaBF14
import Derived.Test.YtmbodncejejceaaBF6
set_option linter.all false

namespace Go.Eng
open Go.Proofs
attribute [local irreducible] vc vops gop step fins fin finP cov covEnv covRows

theorem weight_side (c : Th (List Near)) (a b : Th Int) (h : Side fun _ => goodCalls (c ())) : GCall Try.prog 29 [.d (nears c), .d (num a), .d (num b)] (.d (num fun _ => wt (c ()) (a ()) (b ()))) [] := weight_ok c a b h.h

theorem wt_symm (c : List Near) (x y : Int) : wt c x y = wt c y x := by
  unfold wt
  by_cases e : x = y
  · rw [if_pos e, if_pos e.symm]
  · rw [if_neg e, if_neg (fun h => e h.symm)]
    refine sumBy_congr fun z _ => ?_
    unfold wt1
    by_cases p1 : z.1 = x <;> by_cases p2 : z.2.1 = y <;> by_cases p3 : z.1 = y <;> by_cases p4 : z.2.1 = x <;> simp [p1, p2, p3, p4]

/-- The pair x, y is a, b, or weighs less. -/
def lessP (c : List Near) (a b x y : Int) : Prop := ((x = a ∧ y = b) ∨ (x = b ∧ y = a)) ∨ wt c x y < wt c a b
def adj (a b : Int) (l : List Int) (i : Nat) : Prop := (l.getD i 0 = a ∧ l.getD (i + 1) 0 = b) ∨ (l.getD i 0 = b ∧ l.getD (i + 1) 0 = a)

theorem next_adj {a b : Int} {l : List Int} (h : NextTo a b l) : ∃ i, i + 1 < l.length ∧ adj a b l i := by
  obtain ⟨p, s, rfl | rfl⟩ := h
  · exact ⟨p.length, by simp, .inl ⟨by simp [List.getD_eq_getElem?_getD], by simp [List.getD_eq_getElem?_getD, List.getElem?_append_right]⟩⟩
  · exact ⟨p.length, by simp, .inr ⟨by simp [List.getD_eq_getElem?_getD], by simp [List.getD_eq_getElem?_getD, List.getElem?_append_right]⟩⟩

theorem closest_adj {c : List Near} (hg : goodCalls c) {n : Nat} {a b : Int} (ha : 0 ≤ a ∧ a < n) (hb : 0 ≤ b ∧ b < n) (hab : a ≠ b) (hw : wt c a b ≠ 0)
    (h : ∀ x y : Nat, x < n → y < x → lessP c a b x y) : ∃ i, i + 1 < (orderF (wt c) n).length ∧ adj a b (orderF (wt c) n) i := by
  obtain ⟨a, rfl⟩ : ∃ k : Nat, a = k := ⟨a.toNat, by omega⟩
  obtain ⟨b, rfl⟩ : ∃ k : Nat, b = k := ⟨b.toNat, by omega⟩
  have hpos : 0 < wt c a b := by have := (wt_nonneg hg a b).1; omega
  rcases Nat.lt_or_ge a b with hlt | hge
  · refine next_adj (closest (n := n) hlt (by omega) hpos fun x y hxy hy hne => ?_)
    have := h y x hy hxy
    rw [wt_symm c x y]
    rcases this with h1 | h1
    · omega
    · exact h1
  · have hlt : b < a := by omega
    obtain ⟨i, hi, hadj⟩ := next_adj (closest (W := wt c) (n := n) hlt (by omega) (by rw [wt_symm]; exact hpos) fun x y hxy hy hne => by
      have := h y x hy hxy
      rw [wt_symm c x y, wt_symm c b a]
      rcases this with h1 | h1
      · omega
      · exact h1)
    exact ⟨i, hi, hadj.elim .inr .inl⟩

set_option maxHeartbeats 1600000 in
theorem law7_ok (s : Th (List Int)) (c : Th (List Near)) (a b : Th Int) :
    GCall Try.prog 7 [.d (ints s), .d (nears c), .d (num a), .d (num b)] (.d (bol fun _ => true)) [] := by
  refine g7 (tabOK 0 mm) rfl (Nat.le_of_ble_eq_true rfl) rfl ?_
  repeat' first
    | (refine VIf.mk' ?_ ?_ <;> intro _)
    | (refine LenB.mk ?_; intro _)
    | refine And.intro ?_ ?_
    | exact trivial
    | refine Stop.mk ?_
    | exact ShEq.sl
    | refine VCall.mk' (.mk (order_ok _ _)) (.inl rfl) ?_
    | refine VCall.mk' (.mk (paired_ok)) (.inl rfl) ?_
    | refine VCall.mk' (.mk (in_ok _ _ _)) (.inl rfl) ?_
    | refine VCall.mk' (.mk (weight_side _ _ _ ?_)) (.inl rfl) ?_
    | ((fail_if_success refine Side.mk ?_); (fail_if_success refine Exists.intro ?_ ?_); (fail_if_success refine VLoop.mk ?_); (fail_if_success refine VCut.mk ?_); (fail_if_success refine REq.sl ?_); (fail_if_success refine Same.mk ?_); (fail_if_success refine DEq.mk ?_); (fail_if_success refine VCall.mk ?_); (fail_if_success show False); (fail_if_success show _ = _); cbv)
  all_goals try simp only [ncast, decide_eq_true_eq, decide_eq_false_iff_not, Decidable.not_not, Bool.not_eq_true', Bool.not_eq_false', cond_t, cond_f, toNat_cast] at *
  · exact Side.mk trivial
  · exact Side.mk (i64 (by omega))
  · exact Side.mk trivial
  · exact Side.mk (i64 (by omega))
  · exact Side.mk trivial
  · exact Side.mk trivial
  · rename_i h0 _ _ _
    exact Side.mk (funFault_good h0).calls
  · exact Side.mk trivial
  rename_i hl0 h0 ha hb hab hw
  have hg := funFault_good h0
  have hgc := hg.calls
  have hn := hg.n
  have hgs : Side fun _ => goodCalls (c ⟨⟩) := ⟨hgc⟩
  -- every pair
  refine VLoop.inv (ι := Nat) (fun x => ⟨[(1, .d (nears c)), (2, .d (num a)), (3, .d (num b)), (9, .d (ints fun _ => ordR (s ⟨⟩) (c ⟨⟩))), (11, .d (num fun _ => (s ⟨⟩).length)), (12, .d (num fun _ => x))], []⟩)
    (fun x => x ≤ (s ⟨⟩).length ∧ ∀ x' : Nat, x' < x → ∀ y' : Nat, y' < x' → lessP (c ⟨⟩) (a ⟨⟩) (b ⟨⟩) x' y') (fun x => (s ⟨⟩).length - x) 0 ⟨Nat.zero_le _, fun x' h => absurd h (Nat.not_lt_zero _)⟩ ?_ ?_
  · cbv
    repeat' (first | refine And.intro ?_ ?_ | exact trivial | exact Side.mk rfl | exact REq.sl rfl | exact DEq.mk rfl | exact Side.mk (by simp only [ncast]; omega))
  rintro x ⟨hx, hP⟩
  repeat' first
    | (refine VIf.mk' ?_ ?_ <;> intro _)
    | (refine LenB.mk ?_; intro _)
    | refine And.intro ?_ ?_
    | exact trivial
    | refine Stop.mk ?_
    | exact ShEq.sl
    | ((fail_if_success refine Side.mk ?_); (fail_if_success refine Exists.intro ?_ ?_); (fail_if_success refine VLoop.mk ?_); (fail_if_success refine VCut.mk ?_); (fail_if_success refine REq.sl ?_); (fail_if_success refine Same.mk ?_); (fail_if_success refine DEq.mk ?_); (fail_if_success refine VCall.mk ?_); (fail_if_success show False); (fail_if_success show _ = _); cbv)
  all_goals try simp only [ncast, decide_eq_true_eq, decide_eq_false_iff_not, Decidable.not_not, Bool.not_eq_true', Bool.not_eq_false', cond_t, cond_f, toNat_cast] at *
  · rename_i hxn
    refine VLoop.inv (ι := Nat) (fun y => ⟨[(1, .d (nears c)), (2, .d (num a)), (3, .d (num b)), (9, .d (ints fun _ => ordR (s ⟨⟩) (c ⟨⟩))), (11, .d (num fun _ => (s ⟨⟩).length)), (12, .d (num fun _ => x)), (13, .d (num fun _ => y))], []⟩)
      (fun y => y ≤ x ∧ ∀ y' : Nat, y' < y → lessP (c ⟨⟩) (a ⟨⟩) (b ⟨⟩) x y') (fun y => x - y) 0 ⟨Nat.zero_le _, fun y' h => absurd h (Nat.not_lt_zero _)⟩ ?_ ?_
    · cbv
      repeat' (first | refine And.intro ?_ ?_ | exact trivial | exact Side.mk rfl | exact REq.sl rfl | exact DEq.mk rfl | exact Side.mk (by simp only [ncast]; omega))
    rintro y ⟨hy, hPy⟩
    repeat' first
      | (refine VIf.mk' ?_ ?_ <;> intro _)
      | (refine LenB.mk ?_; intro _)
      | refine And.intro ?_ ?_
      | exact trivial
      | refine Stop.mk ?_
      | exact ShEq.sl
      | refine VCall.mk' (.mk (paired_ok)) (.inl rfl) ?_
      | refine VCall.mk' (.mk (weight_side _ _ _ hgs)) (.inl rfl) ?_
      | ((fail_if_success refine Side.mk ?_); (fail_if_success refine Exists.intro ?_ ?_); (fail_if_success refine VLoop.mk ?_); (fail_if_success refine VCut.mk ?_); (fail_if_success refine REq.sl ?_); (fail_if_success refine Same.mk ?_); (fail_if_success refine DEq.mk ?_); (fail_if_success refine VCall.mk ?_); (fail_if_success show False); (fail_if_success show _ = _); cbv)
    all_goals try simp only [ncast, decide_eq_true_eq, decide_eq_false_iff_not, Decidable.not_not, Bool.not_eq_true', Bool.not_eq_false', cond_t, cond_f, toNat_cast] at *
    all_goals first
      | exact Side.mk trivial
      | exact Side.mk (i64 (by omega))
      | (refine ⟨y + 1, ⟨by omega, fun y' hy' => ?_⟩, by omega, ?_⟩
         · by_cases e : y' = y
           · subst e; unfold lessP; omega
           · exact hPy y' (by omega)
         · cbv
           repeat' (first | refine And.intro ?_ ?_ | exact trivial | exact Side.mk rfl | exact REq.sl rfl | exact DEq.mk rfl | exact Side.mk (by simp only [ncast]; omega)))
      | (refine ⟨x + 1, ⟨by omega, fun x' hx' y' hy' => ?_⟩, by omega, ?_⟩
         · by_cases e : x' = x
           · subst e; exact hPy y' (by omega)
           · exact hP x' (by omega) y' hy'
         · cbv
           repeat' (first | refine And.intro ?_ ?_ | exact trivial | exact Side.mk rfl | exact REq.sl rfl | exact DEq.mk rfl | exact Side.mk (by simp only [ncast]; omega)))
  rename_i hxn
  have hadj : ∃ i, i + 1 < (ordR (s ⟨⟩) (c ⟨⟩)).length ∧ adj (a ⟨⟩) (b ⟨⟩) (ordR (s ⟨⟩) (c ⟨⟩)) i := by
    have := closest_adj hgc (n := (s ⟨⟩).length) (a := a ⟨⟩) (b := b ⟨⟩) (by omega) (by omega) hab hw fun x' y' h1 h2 => hP x' (by omega) y' h2
    unfold ordR; rw [if_pos h0]; exact this
  have hlen : (ordR (s ⟨⟩) (c ⟨⟩)).length ≤ 60 := by have := (perm_facts (ordR_perm h0)).1; omega
  generalize ordR (s ⟨⟩) (c ⟨⟩) = l at *
  refine VLoop.inv (ι := Nat) (fun i => ⟨[(2, .d (num a)), (3, .d (num b)), (9, .d (ints fun _ => l)), (14, .d (num fun _ => i))], []⟩)
    (fun i => i ≤ l.length ∧ ∀ k, k < i → ¬ adj (a ⟨⟩) (b ⟨⟩) l k) (fun i => l.length - i) 0 ⟨Nat.zero_le _, fun k h => absurd h (Nat.not_lt_zero _)⟩ ?_ ?_
  · cbv
    repeat' (first | refine And.intro ?_ ?_ | exact trivial | exact Side.mk rfl | exact REq.sl rfl | exact DEq.mk rfl | exact Side.mk (by simp only [ncast]; omega))
  rintro i ⟨hi, hA⟩
  have e1 : ((i : Int) + 1).toNat = i + 1 := by omega
  repeat' first
    | (refine VIf.mk' ?_ ?_ <;> intro _)
    | (refine LenB.mk ?_; intro _)
    | refine And.intro ?_ ?_
    | exact trivial
    | refine Stop.mk ?_
    | exact ShEq.sl
    | refine VCall.mk' (.mk (paired_ok)) (.inl rfl) ?_
    | ((fail_if_success refine Side.mk ?_); (fail_if_success refine Exists.intro ?_ ?_); (fail_if_success refine VLoop.mk ?_); (fail_if_success refine VCut.mk ?_); (fail_if_success refine REq.sl ?_); (fail_if_success refine Same.mk ?_); (fail_if_success refine DEq.mk ?_); (fail_if_success refine VCall.mk ?_); (fail_if_success show False); (fail_if_success show _ = _); cbv)
  all_goals try simp only [ncast, decide_eq_true_eq, decide_eq_false_iff_not, Decidable.not_not, Bool.not_eq_true', Bool.not_eq_false', cond_t, cond_f, toNat_cast] at *
  all_goals first
    | exact Side.mk trivial
    | exact Side.mk (by omega)
    | exact Side.mk (i64 (by omega))
    | (refine ⟨i + 1, ⟨by omega, fun k hk => ?_⟩, by omega, ?_⟩
       · by_cases e : k = i
         · subst e; unfold adj; rw [← e1]; omega
         · exact hA k (by omega)
       · cbv
         repeat' (first | refine And.intro ?_ ?_ | exact trivial | exact Side.mk rfl | exact REq.sl rfl | exact DEq.mk rfl | exact Side.mk (by simp only [ncast]; omega)))
    | (exfalso; obtain ⟨k, hk1, hk2⟩ := hadj; exact hA k (by omega) hk2)
end Go.Eng
