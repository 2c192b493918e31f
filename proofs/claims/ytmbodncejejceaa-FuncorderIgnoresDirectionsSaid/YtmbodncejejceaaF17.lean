/- The law FuncorderIgnoresDirections, called. -/
import Derived.Test.YtmbodncejejceaaF14
set_option linter.all false
namespace Go.Eng
open Go.Proofs
attribute [local irreducible] vc vops gop step fins fin finP cov covEnv covRows

theorem turnC_len (c : List Near) : (turnC c).length = c.length := by simp [turnC]
theorem turnC_getD {c : List Near} {i : Nat} (h : i < c.length) : (turnC c).getD i (0, 0, 0) = ((c.getD (c.length - 1 - i) (0, 0, 0)).2.1, (c.getD (c.length - 1 - i) (0, 0, 0)).1, (c.getD (c.length - 1 - i) (0, 0, 0)).2.2) := by
  rw [getD_lt (by rw [turnC_len]; exact h), getD_lt (show c.length - 1 - i < c.length by omega)]
  simp [turnC]
theorem turn_good {s : List Int} {c : List Near} (h : goodF s c) : goodF s (turnC c) :=
  ⟨h.n, by rw [turnC_len]; exact h.m, h.sz, fun x hx => by
    unfold turnC at hx
    rw [List.mem_reverse, List.mem_map] at hx
    obtain ⟨y, hy, rfl⟩ := hx
    have := h.ca y hy
    exact ⟨this.2.1, this.1, this.2.2⟩⟩
theorem turn_order {s : List Int} {c : List Near} (h : goodF s c) : ordR s (turnC c) = ordR s c := by
  unfold ordR
  rw [if_pos (by rw [(turn_good h).fault]), if_pos (by rw [h.fault]), wt_turn']
theorem turn_cost (s : List Int) (c : List Near) (o : List Int) : costOf s (turnC c) o = costOf s c o := by
  unfold costOf turnC
  rw [sumBy_perm (List.reverse_perm _), sumBy_map]
  refine sumBy_congr fun x _ => ?_
  unfold cost1 absI
  simp only
  congr 1
  omega
theorem costF_good {s : List Int} {c : List Near} {o : List Int} (h : goodF s c) (hp : permOf o s.length = true) : costF s c o = (0, 0) := by
  unfold costF
  rw [h.fault, if_pos rfl, hp]; rfl
theorem costR_good {s : List Int} {c : List Near} {o : List Int} (h : goodF s c) (hp : permOf o s.length = true) : costR s c o = costOf s c o := by
  unfold costR
  rw [costF_good h hp]; rfl

theorem law6_ok (s : Th (List Int)) (c : Th (List Near)) :
    GCall Try.prog 6 [.d (ints s), .d (nears c)] (.d (bol fun _ => true)) [] := by
  refine g6 (tabOK 0 mm) rfl (Nat.le_of_ble_eq_true rfl) rfl ?_
  repeat' first
    | (refine VIf.mk' ?_ ?_ <;> intro _)
    | (refine LenB.mk ?_; intro _)
    | refine And.intro ?_ ?_
    | exact trivial
    | refine Stop.mk ?_
    | exact ShEq.sl
    | refine VCall.mk' (.mk (order_ok _ _)) (.inl rfl) ?_
    | refine VCall.mk' (.mk (paired_ok)) (.inl rfl) ?_
    | ((fail_if_success refine Side.mk ?_); (fail_if_success refine Exists.intro ?_ ?_); (fail_if_success refine VLoop.mk ?_); (fail_if_success refine VCut.mk ?_); (fail_if_success refine REq.sl ?_); (fail_if_success refine Same.mk ?_); (fail_if_success refine DEq.mk ?_); (fail_if_success refine VCall.mk ?_); (fail_if_success show False); (fail_if_success show _ = _); cbv)
  all_goals try simp only [ncast, decide_eq_true_eq, decide_eq_false_iff_not, Decidable.not_not, Bool.not_eq_true', Bool.not_eq_false', cond_t, cond_f, toNat_cast] at *
  · exact Side.mk trivial
  · exact Side.mk (i64 (by omega))
  rename_i h1 h0
  have hg := funFault_good h0
  have hm := hg.m
  have hgT := turn_good hg
  have hT0 := hgT.fault
  refine VLoop.inv (ι := Nat) (fun i => ⟨[(0, .d (ints s)), (1, .d (nears c)), (5, .d (ints fun _ => ordR (s ⟨⟩) (c ⟨⟩))), (7, .own 1), (8, .d (num fun _ => (c ⟨⟩).length - 1 - (i : Int)))], [(1, .sl nearSh fun _ => (turnC (c ⟨⟩)).take i), (0, .box [num fun _ => (funFault (s ⟨⟩) (c ⟨⟩)).1, num fun _ => (funFault (s ⟨⟩) (c ⟨⟩)).2])]⟩)
    (fun i => i ≤ (c ⟨⟩).length) (fun i => (c ⟨⟩).length - i) 0 (Nat.zero_le _) ?_ ?_
  · cbv
    repeat' first | refine And.intro ?_ ?_ | exact trivial | exact Side.mk rfl | exact REq.sl rfl | exact DEq.mk rfl | exact Side.mk (by simp only [ncast]; omega)
  intro i hi
  repeat' first
    | (refine VIf.mk' ?_ ?_ <;> intro _)
    | (refine LenB.mk ?_; intro _)
    | refine And.intro ?_ ?_
    | exact trivial
    | refine Stop.mk ?_
    | exact ShEq.sl
    | refine Same.mk ⟨[_], rfl, ?_⟩
    | ((fail_if_success refine Side.mk ?_); (fail_if_success refine Exists.intro ?_ ?_); (fail_if_success refine VLoop.mk ?_); (fail_if_success refine VCut.mk ?_); (fail_if_success refine REq.sl ?_); (fail_if_success refine Same.mk ?_); (fail_if_success refine DEq.mk ?_); (fail_if_success refine VCall.mk ?_); (fail_if_success show False); (fail_if_success show _ = _); cbv)
  all_goals try simp only [ncast, decide_eq_true_eq, decide_eq_false_iff_not, Decidable.not_not, Bool.not_eq_true', Bool.not_eq_false', cond_t, cond_f, toNat_cast] at *
  · exact Side.mk (by omega)
  · exact Side.mk (by omega)
  · exact Side.mk (by omega)
  · refine Side.mk ?_
    have := List.length_take_le' i (turnC (c ⟨⟩))
    rw [turnC_len] at this
    simp only [List.length_cons, List.length_nil]
    omega
  · exact Side.mk (i64 (by omega))
  · have e1 : (((c ⟨⟩).length : Int) - 1 - (i : Int)).toNat = (c ⟨⟩).length - 1 - i := by omega
    refine ⟨i + 1, by omega, by omega, ?_⟩
    have e2 := take_succ' (0, 0, 0) (l := turnC (c ⟨⟩)) (i := i) (by rw [turnC_len]; omega)
    rw [turnC_getD (by omega), ← e1] at e2
    cbv
    repeat' first | refine And.intro ?_ ?_ | exact trivial | exact Side.mk rfl | exact REq.sl e2.symm | exact DEq.mk rfl | exact Side.mk (by simp only [ncast]; omega)
  have hie : i = (c ⟨⟩).length := by omega
  have htk : (turnC (c ⟨⟩)).take i = turnC (c ⟨⟩) := List.take_of_length_le (by rw [turnC_len]; omega)
  have hperm := ordR_perm h0
  have hol : (ordR (s ⟨⟩) (c ⟨⟩)).length * 8 ≤ 140737488355328 := by
    have := (perm_facts hperm).1
    have := hg.n
    omega
  have eO := turn_order hg
  have f1 := costF_good hg hperm
  have f2 := costF_good hgT hperm
  have r1 := costR_good hg hperm
  have r2 := (costR_good hgT hperm).trans (turn_cost _ _ _)
  rw [show (fun _ : Unit => (turnC (c ⟨⟩)).take i) = fun _ => turnC (c ⟨⟩) from funext fun _ => htk]
  refine VCall.frz' 1 _ rfl (Nat.zero_le _) ?_
  cbv
  refine VCall.mk' (.mk (order_ok s (fun _ => turnC (c ⟨⟩)))) (.inl rfl) ?_
  repeat' first
    | (refine VIf.mk' ?_ ?_ <;> intro _)
    | (refine LenB.mk ?_; intro _)
    | refine And.intro ?_ ?_
    | exact trivial
    | refine Stop.mk ?_
    | exact ShEq.sl
    | refine VCall.mk' (.mk (cost_ok s c (fun _ => ordR (s ⟨⟩) (c ⟨⟩)) hol)) (.inl rfl) ?_
    | refine VCall.mk' (.mk (cost_ok s (fun _ => turnC (c ⟨⟩)) (fun _ => ordR (s ⟨⟩) (c ⟨⟩)) hol)) (.inl rfl) ?_
    | refine VCall.mk' (.mk (same_ok _ _)) (.inl rfl) ?_
    | refine VCall.mk' (.mk (paired_ok)) (.inl rfl) ?_
    | ((fail_if_success refine Side.mk ?_); (fail_if_success refine Exists.intro ?_ ?_); (fail_if_success refine VLoop.mk ?_); (fail_if_success refine VCut.mk ?_); (fail_if_success refine REq.sl ?_); (fail_if_success refine Same.mk ?_); (fail_if_success refine DEq.mk ?_); (fail_if_success refine VCall.mk ?_); (fail_if_success show False); (fail_if_success show _ = _); cbv)
  all_goals try simp only [ncast, decide_eq_true_eq, decide_eq_false_iff_not, Decidable.not_not, Bool.not_eq_true', Bool.not_eq_false', cond_t, cond_f, toNat_cast] at *
  · exact Side.mk trivial
  · rename_i h; exact absurd (r1.trans r2.symm) h
  · rename_i h; exact absurd eO.symm h
  · rename_i h; exact absurd (by rw [f2]) h
  · rename_i h; exact absurd (by rw [f1]) h
  · rename_i h; exact absurd (by rw [hT0]) h
end Go.Eng
