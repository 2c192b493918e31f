/- The contract of funcorder.joined. -/
import Derived.Test.YtmbodncejejceaaBH7
import Derived.Test.YtmbodncejejceaaBF8
import Derived.Test.YtmbodncejejceaaBPC
set_option linter.all false

namespace Go.Eng
open Go.Proofs
attribute [local irreducible] vc vops gop step fins fin finP cov covEnv covRows

def mm : FuncId → List Mode := fun f => match f with
  | 87 => [.m]
  | 56 => [.t]
  | 69 => [.m]
  | _ => []

theorem VCall.frz' {T : Tab} {f : FuncId} {ar : Option (List Arg × List (Nat × Bool) × Bool)} {σ : St} {vs : List AV} {K : St → AV → Prop} (r : Nat) (x : Row) (hr : lkp σ.rows r = some x) (hb : T.base ≤ r)
    (h : VCall T f (mkArgs T (σ.freeze r x) (T.modes f) (vs.map (AV.frz r x.frz))) (σ.freeze r x) (vs.map (AV.frz r x.frz)) K) : VCall T f ar σ vs K := ⟨fun _ => .frz r x hr hb (h.h rfl)⟩

theorem concat_ok' (ls : Th (List (List Int))) (hl : (ls ()).flatten.length ≤ 1000000) : GCall Try.prog 54 [.d (lists ls)] (.d (ints fun _ => (ls ()).flatten)) [] := GCall.frz rfl (concat_ok grow_ok ls hl)

def curW (W : Int → Int → Int) (a b : List Int) (i : Nat) : Way := (((waysW a b).take i).drop 1).foldl (wstep W) (a, b)
theorem waysW_mem {a b : List Int} {x : Way} (hx : x ∈ waysW a b) : (x.1 = a ∨ x.1 = a.reverse) ∧ (x.2 = b ∨ x.2 = b.reverse) := by
  simp only [waysW, List.mem_cons, List.mem_nil_iff, or_false] at hx
  rcases hx with rfl | rfl | rfl | rfl <;> simp
theorem curW_step (W : Int → Int → Int) (a b : List Int) {i : Nat} (h1 : 1 ≤ i) (hi : i < 4) : curW W a b (i + 1) = wstep W (curW W a b i) ((waysW a b).getD i ([], [])) := by
  match i, h1, hi with
  | 1, _, _ => rfl
  | 2, _, _ => rfl
  | 3, _, _ => rfl
theorem wt_nonneg {c : List Near} (h : goodCalls c) (a b : Int) : 0 ≤ wt c a b ∧ wt c a b ≤ 200000000 := by
  unfold wt
  split
  · omega
  · have := wt_bound h a b c.length
    rwa [List.take_length] at this

theorem concat_side (ls : Th (List (List Int))) (h : Side fun _ => (ls ()).flatten.length ≤ 1000000) : GCall Try.prog 54 [.d (lists ls)] (.d (ints fun _ => (ls ()).flatten)) [] := concat_ok' ls h.h
theorem last_mem {l : List Int} (h : l ≠ []) : l.getD (l.length - 1) 0 ∈ l := getD_memI (by have := List.length_pos_iff.2 h; omega)
theorem head_mem {l : List Int} (h : l ≠ []) : l.getD 0 0 ∈ l := getD_memI (List.length_pos_iff.2 h)

theorem joined_ok (a b : Th (List Int)) (c : Th (List Near)) (N : Nat) (hg : goodCalls (c ())) (ha0 : a () ≠ []) (hb0 : b () ≠ []) (hal : (a ()).length ≤ 1000) (hbl : (b ()).length ≤ 1000) (ha : ∀ x ∈ a (), 0 ≤ x ∧ x < N) (hb : ∀ x ∈ b (), 0 ≤ x ∧ x < N) :
    GCall Try.prog 55 [.d (ints a), .d (ints b), .d (lists fun _ => gridL (c ()) N)] (.d (ints fun _ => joinW (wt (c ())) (a ()) (b ()))) [] := by
  have hal' : (a ()).length ≤ 1000000 := by omega
  have hbl' : (b ()).length ≤ 1000000 := by omega
  refine g55 (tabOK 0 mm) rfl (Nat.le_of_ble_eq_true rfl) rfl ?_
  repeat' first
    | (refine VIf.mk' ?_ ?_ <;> intro _)
    | (refine LenB.mk ?_; intro _)
    | refine And.intro ?_ ?_
    | exact trivial
    | refine Stop.mk ?_
    | exact ShEq.sl
    | refine VCall.mk' (.mk (clone_ok a ha0 hal')) (.inl rfl) ?_
    | refine VCall.mk' (.mk (clone_ok b hb0 hbl')) (.inl rfl) ?_
    | refine VCall.mk' (.mk (reverse_ok _)) (.inl rfl) ?_
    | refine Dec.mk ⟨[(a ⟨⟩, b ⟨⟩), (a ⟨⟩, (b ⟨⟩).reverse), ((a ⟨⟩).reverse, b ⟨⟩), ((a ⟨⟩).reverse, (b ⟨⟩).reverse)], rfl, ?_⟩
    | ((fail_if_success refine Side.mk ?_); (fail_if_success refine Exists.intro ?_ ?_); (fail_if_success refine VLoop.mk ?_); (fail_if_success refine VCut.mk ?_); (fail_if_success refine REq.sl ?_); (fail_if_success refine Same.mk ?_); (fail_if_success refine DEq.mk ?_); (fail_if_success refine VCall.mk ?_); (fail_if_success show False); (fail_if_success show _ = _); cbv)
  all_goals try simp only [ncast, decide_eq_true_eq, decide_eq_false_iff_not, Decidable.not_not, Bool.not_eq_true', Bool.not_eq_false', cond_t, cond_f, toNat_cast] at *
  have hWl : (waysW (a ⟨⟩) (b ⟨⟩)).length = 4 := rfl
  refine VLoop.inv (ι := Nat × Int × List Int) (fun p => ⟨[(2, .d (lists fun _ => gridL (c ⟨⟩) N)), (9, .d (ints fun _ => p.2.2)), (10, .d (num fun _ => p.2.1)), (34, .own 0), (35, .d (num fun _ => (waysW (a ⟨⟩) (b ⟨⟩)).length)), (36, .d (num fun _ => p.1))], [(0, .sl waySh fun _ => waysW (a ⟨⟩) (b ⟨⟩))]⟩)
    (fun p => p.1 ≤ 4 ∧ ((p.1 = 0 ∧ p.2.1 = -1 ∧ p.2.2 = []) ∨ (1 ≤ p.1 ∧ p.2.1 = seamW (wt (c ⟨⟩)) (curW (wt (c ⟨⟩)) (a ⟨⟩) (b ⟨⟩) p.1) ∧ p.2.2 = (curW (wt (c ⟨⟩)) (a ⟨⟩) (b ⟨⟩) p.1).1 ++ (curW (wt (c ⟨⟩)) (a ⟨⟩) (b ⟨⟩) p.1).2))) (fun p => 4 - p.1) (0, -1, [])
    ⟨by simp, .inl ⟨rfl, rfl, rfl⟩⟩ ?_ ?_
  · cbv
    repeat' first | refine And.intro ?_ ?_ | exact trivial | exact Side.mk rfl | exact REq.sl rfl | exact DEq.mk rfl | exact Side.mk (by simp only [ncast]; omega)
  rintro ⟨i, bst, out⟩ ⟨hi, hs⟩
  simp only at hi hs
  have hx : i < 4 → ∃ x : Way, (waysW (a ⟨⟩) (b ⟨⟩)).getD i ([], []) = x ∧ (x.1 ≠ [] ∧ x.2 ≠ []) ∧ (∀ y ∈ x.1, 0 ≤ y ∧ y < N) ∧ (∀ y ∈ x.2, 0 ≤ y ∧ y < N) ∧ x.1.length ≤ 1000 ∧ x.2.length ≤ 1000 := fun h => by
    refine ⟨_, rfl, ?_⟩
    have hm := getD_memL ([], []) (show i < (waysW (a ⟨⟩) (b ⟨⟩)).length by omega)
    generalize (waysW (a ⟨⟩) (b ⟨⟩)).getD i ([], []) = x at hm
    obtain ⟨h1, h2⟩ := waysW_mem hm
    refine ⟨⟨?_, ?_⟩, ?_, ?_, ?_, ?_⟩
    · rcases h1 with h | h <;> rw [h]
      · exact ha0
      · simpa using ha0
    · rcases h2 with h | h <;> rw [h]
      · exact hb0
      · simpa using hb0
    · rcases h1 with h | h <;> rw [h]
      · exact ha
      · intro y hy; exact ha y (List.mem_reverse.1 hy)
    · rcases h2 with h | h <;> rw [h]
      · exact hb
      · intro y hy; exact hb y (List.mem_reverse.1 hy)
    · rcases h1 with h | h <;> rw [h] <;> simpa using hal
    · rcases h2 with h | h <;> rw [h] <;> simpa using hbl
  repeat' first
    | (refine VIf.mk' ?_ ?_ <;> intro _)
    | (refine LenB.mk ?_; intro _)
    | refine And.intro ?_ ?_
    | exact trivial
    | refine Stop.mk ?_
    | exact ShEq.sl
    | (refine VCall.frz' 2 _ rfl (Nat.zero_le _) ?_; cbv; refine VCall.mk' (.mk (concat_side (fun _ => [((waysW (a ⟨⟩) (b ⟨⟩)).getD i ([], [])).1, ((waysW (a ⟨⟩) (b ⟨⟩)).getD i ([], [])).2]) ?_)) (.inl rfl) ?_)
    | refine Dec.mk ⟨[((waysW (a ⟨⟩) (b ⟨⟩)).getD i ([], [])).1, ((waysW (a ⟨⟩) (b ⟨⟩)).getD i ([], [])).2], rfl, ?_⟩
    | ((fail_if_success refine Side.mk ?_); (fail_if_success refine Exists.intro ?_ ?_); (fail_if_success refine VLoop.mk ?_); (fail_if_success refine VCut.mk ?_); (fail_if_success refine REq.sl ?_); (fail_if_success refine Same.mk ?_); (fail_if_success refine DEq.mk ?_); (fail_if_success refine VCall.mk ?_); (fail_if_success show False); (fail_if_success show _ = _); cbv)
  all_goals try simp only [ncast, decide_eq_true_eq, decide_eq_false_iff_not, Decidable.not_not, Bool.not_eq_true', Bool.not_eq_false', cond_t, cond_f, toNat_cast] at *
  · exact Side.mk (by omega)
  rotate_right
  · rename_i h
    have hi4 : i = 4 := by omega
    subst hi4
    rcases hs with ⟨h0, _⟩ | ⟨_, _, ho⟩
    · omega
    · refine DEq.mk ?_
      rw [ho]
      rfl
  all_goals (
    obtain ⟨x, hxe, ⟨hx1, hx2⟩, hx3, hx4, hx5, hx6⟩ := hx (by omega)
    have hl1 := List.length_pos_iff.2 hx1
    have hl2 := List.length_pos_iff.2 hx2
    have hm1 := hx3 _ (last_mem hx1)
    have hm2 := hx4 _ (head_mem hx2)
    have e1 : ((x.1.length : Int) - 1).toNat = x.1.length - 1 := by omega
    have hseam : ((gridL (c ⟨⟩) N).getD (x.1.getD (x.1.length - 1) 0).toNat []).getD (x.2.getD 0 0).toNat 0 = seamW (wt (c ⟨⟩)) x := by
      rw [gridL_at (by omega) (by omega)]
      unfold seamW
      congr 1 <;> omega
    have hwn := wt_nonneg hg (x.1.getD (x.1.length - 1) 0) (x.2.getD 0 0)
    try simp only [hxe, e1, Int.toNat_zero, hseam, gridL_len])
  · exact Side.mk (i64 (by omega))
  · exact Side.mk (by omega)
  · exact Side.mk (by omega)
  · exact Side.mk (by omega)
  · refine Side.mk ?_
    rw [gridL_getD (by omega)]
    simp only [List.length_map, List.length_range]
    omega
  · refine Side.mk ?_
    simp only [List.flatten_cons, List.flatten_nil, List.length_append, List.length_nil]
    omega
  · exact Side.mk (i64 (by omega))
  · rename_i h
    simp only [hxe, e1, Int.toNat_zero, hseam] at h
    refine ⟨(i + 1, seamW (wt (c ⟨⟩)) x, x.1 ++ x.2), ⟨by simp only; omega, .inr ⟨by simp only; omega, ?_⟩⟩, by simp only; omega, ?_⟩
    · have e : curW (wt (c ⟨⟩)) (a ⟨⟩) (b ⟨⟩) (i + 1) = x := by
        rcases hs with ⟨rfl, _⟩ | ⟨h1, hb2, _⟩
        · rw [← hxe]; rfl
        · rw [curW_step _ _ _ h1 (by omega), hxe]
          unfold wstep
          rw [if_pos (by omega)]
      exact ⟨(congrArg (seamW (wt (c ⟨⟩))) e).symm, (congrArg (fun w : Way => w.1 ++ w.2) e).symm⟩
    · cbv
      repeat' first | refine And.intro ?_ ?_ | exact trivial | exact Side.mk rfl | exact REq.sl rfl | exact DEq.mk rfl | exact DEq.mk (by simp only [List.flatten_cons, List.flatten_nil, List.append_nil])
  · exact Side.mk (i64 (by omega))
  · rename_i h
    simp only [hxe, e1, Int.toNat_zero, hseam] at h
    refine ⟨(i + 1, bst, out), ⟨by simp only; omega, .inr ⟨by simp only; omega, ?_⟩⟩, by simp only; omega, ?_⟩
    · have e : curW (wt (c ⟨⟩)) (a ⟨⟩) (b ⟨⟩) (i + 1) = curW (wt (c ⟨⟩)) (a ⟨⟩) (b ⟨⟩) i ∧ 1 ≤ i := by
        rcases hs with ⟨rfl, hb2, _⟩ | ⟨h1, hb2, _⟩
        · unfold seamW at h; omega
        · refine ⟨?_, h1⟩
          rw [curW_step _ _ _ h1 (by omega), hxe]
          unfold wstep
          rw [if_neg (by omega)]
      rcases hs with ⟨h0, _⟩ | ⟨h1, hb2, ho⟩
      · omega
      · simp only [e.1]
        exact ⟨hb2, ho⟩
    · cbv
      repeat' first | refine And.intro ?_ ?_ | exact trivial | exact Side.mk rfl | exact REq.sl rfl | exact DEq.mk rfl | exact Side.mk (by simp only [ncast]; omega)
end Go.Eng
