/- Contracts of the edges of control. -/
import Derived.Test.YtmbodncejejceaaCG2
set_option linter.all false

namespace Go.Eng
open Go.Proofs
attribute [local irreducible] vc vops gop step fins fin finP cov covEnv covRows softs qop hop

structure EdPre (g : List Bk) (e : List Int) : Prop where
  gg : GoodG g
  ee : GoodE g.length e
theorem EdPre.len (g : List Bk) (e : List Int) (h : EdPre g e) (k j : Nat) : (entE (e.take k)).length ≤ 100 ∧ (g.getD k (0, 0, 0, [])).2.2.2.length ≤ 300 ∧ (entE e).length + (bE 0 (g.take k)).length + (blkP k (((g.getD k (0, 0, 0, [])).2.2.2).take j)).length ≤ 900 := by
  have h1 := inc_len h.ee
  have h2 := h.gg.n
  have h3 := h.gg.tot
  have h4 := totE_take g k
  have h5 := bE_len (g.take k) 0
  have h6 : (g.getD k (0, 0, 0, [])).2.2.2.length ≤ 300 := by
    by_cases hk : k < g.length
    · have := len_of_mem (getD_memL ((0, 0, 0, []) : Bk) hk); omega
    · rw [List.getD_eq_getElem?_getD, List.getElem?_eq_none (by omega)]; simp
  have h7 := blkP_len k (((g.getD k (0, 0, 0, [])).2.2.2).take j)
  simp only [entE, List.length_append, List.length_map, List.length_take] at *
  omega
theorem entE_take {e : List Int} {k : Nat} (hk : k < e.length) : entE (e.take (k + 1)) = entE (e.take k) ++ [(-1, e.getD k 0)] := by
  have : e.take (k + 1) = e.take k ++ [e.getD k 0] := by rw [getD_eq hk, List.take_append_getElem hk]
  rw [this]; simp [entE]

theorem redges_ok (g : Th (List Bk)) (e : Th (List Int)) (h : Side fun _ => EdPre (g ⟨⟩) (e ⟨⟩)) : GCall Try.prog 33 [.d (blocks g), .d (ints e)] (.row (.sl pairSh fun _ => edgesL (g ⟨⟩) (e ⟨⟩))) [] := by
  have hl := h.h.len
  have hn : (g ⟨⟩).length ≤ 100 := h.h.gg.n
  have hel : (e ⟨⟩).length ≤ 100 := by have := inc_len h.h.ee; omega
  clear h
  refine g33 (tabOK 0 ms) rfl (Nat.le_of_ble_eq_true rfl) rfl ?_
  repeat' first
    | (refine VIf.mk' ?_ ?_ <;> intro _)
    | (refine LenB.mk ?_; intro _)
    | refine And.intro ?_ ?_
    | exact trivial
    | refine Stop.mk ?_
    | exact ShEq.sl
    | ((fail_if_success refine Side.mk ?_); (fail_if_success refine Exists.intro ?_ ?_); (fail_if_success refine VLoop.mk ?_); (fail_if_success refine VCut.mk ?_); (fail_if_success refine REq.sl ?_); (fail_if_success refine Same.mk ?_); (fail_if_success refine DEq.mk ?_); (fail_if_success refine VCall.mk ?_); (fail_if_success refine SReg.go ?_); (fail_if_success refine QCall.mk ?_); (fail_if_success refine Dec.mk ?_); (fail_if_success show False); (fail_if_success show _ = _); cbv)
  refine VLoop.inv (ι := Nat) (fun i => ⟨[(0, .d (blocks g)), (1, .d (ints e)), (5, .own 0), (6, .d (num fun _ => i))], [(0, .sl pairSh fun _ => entE ((e ⟨⟩).take i))]⟩)
    (fun i => i ≤ (e ⟨⟩).length) (fun i => (e ⟨⟩).length - i) 0 (Nat.zero_le _) ?_ ?_
  · cbv
    repeat' first | refine And.intro ?_ ?_ | exact trivial | exact Side.mk rfl | exact REq.sl rfl | exact DEq.mk rfl
  intro i hi
  have hl1 := (hl i 0).1
  repeat' first
    | (refine VIf.mk' ?_ ?_ <;> intro _)
    | (refine LenB.mk ?_; intro _)
    | refine And.intro ?_ ?_
    | exact trivial
    | refine Stop.mk ?_
    | exact ShEq.sl
    | refine Dec.mk ⟨[(-1, (e ⟨⟩).getD i 0)], rfl, ?_⟩
    | refine Same.mk ⟨[(-1, (e ⟨⟩).getD i 0)], rfl, ?_⟩
    | ((fail_if_success refine Side.mk ?_); (fail_if_success refine Exists.intro ?_ ?_); (fail_if_success refine VLoop.mk ?_); (fail_if_success refine VCut.mk ?_); (fail_if_success refine REq.sl ?_); (fail_if_success refine Same.mk ?_); (fail_if_success refine DEq.mk ?_); (fail_if_success refine VCall.mk ?_); (fail_if_success refine SReg.go ?_); (fail_if_success refine QCall.mk ?_); (fail_if_success refine Dec.mk ?_); (fail_if_success show False); (fail_if_success show _ = _); cbv)
  all_goals try simp only [ncast, decide_eq_true_eq, decide_eq_false_iff_not, Decidable.not_not, Bool.not_eq_true', Bool.not_eq_false', cond_t, cond_f, toNat_cast] at *
  all_goals try (first | exact Side.mk (i64 (by (try simp only [ncast] at *); omega)) | exact Side.mk (u64 (by (try simp only [ncast] at *); omega)) | exact Side.mk (by (try simp only [ncast] at *); refine ⟨?_, ?_, u64 ?_⟩ <;> first | trivial | omega) | exact Side.mk (by (try simp only [ncast] at *); (try simp only [List.length_set, List.length_cons, List.length_nil, List.length_append]); omega))
  · rename_i hlt
    have e1 := (entE_take (e := e ⟨⟩) (k := i) (by omega)).symm
    refine ⟨i + 1, by omega, by omega, ?_⟩
    cbv
    repeat' first | refine And.intro ?_ ?_ | exact trivial | exact Side.mk rfl | exact REq.sl rfl | exact DEq.mk rfl | exact REq.sl e1
  rename_i hge
  replace hge : i = (e ⟨⟩).length := by (try simp only [ncast, decide_eq_false_iff_not] at hge); omega
  have e0 : entE ((e ⟨⟩).take i) = entE (e ⟨⟩) ++ bE 0 ((g ⟨⟩).take 0) := by rw [hge, List.take_length]; simp [bE]
  -- the blocks
  refine VLoop.inv (ι := Nat) (fun k => ⟨[(0, .d (blocks g)), (5, .own 0), (7, .d (num fun _ => k))], [(0, .sl pairSh fun _ => entE (e ⟨⟩) ++ bE 0 ((g ⟨⟩).take k))]⟩)
    (fun k => k ≤ (g ⟨⟩).length) (fun k => (g ⟨⟩).length - k) 0 (Nat.zero_le _) ?_ ?_
  · cbv
    repeat' first | refine And.intro ?_ ?_ | exact trivial | exact Side.mk rfl | exact REq.sl rfl | exact DEq.mk rfl | exact REq.sl e0
  clear e0 hge hl1 hi i
  intro k hk
  have hl2 := hl 0 k
  repeat' first
    | (refine VIf.mk' ?_ ?_ <;> intro _)
    | (refine LenB.mk ?_; intro _)
    | refine And.intro ?_ ?_
    | exact trivial
    | refine Stop.mk ?_
    | exact ShEq.sl
    | ((fail_if_success refine Side.mk ?_); (fail_if_success refine Exists.intro ?_ ?_); (fail_if_success refine VLoop.mk ?_); (fail_if_success refine VCut.mk ?_); (fail_if_success refine REq.sl ?_); (fail_if_success refine Same.mk ?_); (fail_if_success refine DEq.mk ?_); (fail_if_success refine VCall.mk ?_); (fail_if_success refine SReg.go ?_); (fail_if_success refine QCall.mk ?_); (fail_if_success refine Dec.mk ?_); (fail_if_success show False); (fail_if_success show _ = _); cbv)
  all_goals try simp only [ncast, decide_eq_true_eq, decide_eq_false_iff_not, Decidable.not_not, Bool.not_eq_true', Bool.not_eq_false', cond_t, cond_f, toNat_cast] at *
  all_goals try (first | exact Side.mk (i64 (by (try simp only [ncast] at *); omega)) | exact Side.mk (u64 (by (try simp only [ncast] at *); omega)) | exact Side.mk (by (try simp only [ncast] at *); refine ⟨?_, ?_, u64 ?_⟩ <;> first | trivial | omega) | exact Side.mk (by (try simp only [ncast] at *); (try simp only [List.length_set, List.length_cons, List.length_nil, List.length_append]); omega))
  · rename_i hkl
    replace hkl : k < (g ⟨⟩).length := by (try simp only [ncast, decide_eq_true_eq] at hkl); omega
    refine VLoop.inv (ι := Nat) (fun j => ⟨[(0, .d (blocks g)), (5, .own 0), (7, .d (num fun _ => k)), (8, .d (bol fun _ => !(blkP k (((g ⟨⟩).getD k (0, 0, 0, [])).2.2.2.take j)).isEmpty)), (9, .d (num fun _ => j))], [(0, .sl pairSh fun _ => (entE (e ⟨⟩) ++ bE 0 ((g ⟨⟩).take k)) ++ blkP k (((g ⟨⟩).getD k (0, 0, 0, [])).2.2.2.take j))]⟩)
      (fun j => j ≤ ((g ⟨⟩).getD k (0, 0, 0, [])).2.2.2.length) (fun j => ((g ⟨⟩).getD k (0, 0, 0, [])).2.2.2.length - j) 0 (Nat.zero_le _) ?_ ?_
    · have e0 : entE (e ⟨⟩) ++ bE 0 ((g ⟨⟩).take k) = (entE (e ⟨⟩) ++ bE 0 ((g ⟨⟩).take k)) ++ blkP k (((g ⟨⟩).getD k (0, 0, 0, [])).2.2.2.take 0) := by simp [blkP]
      cbv
      repeat' first | refine And.intro ?_ ?_ | exact trivial | exact Side.mk rfl | exact REq.sl rfl | exact DEq.mk rfl | exact REq.sl e0
    intro j hj
    have hlk := hl k j
    have hstep := blkP_take k (l := ((g ⟨⟩).getD k (0, 0, 0, [])).2.2.2) (k := j)
    repeat' first
      | (refine VIf.mk' ?_ ?_ <;> intro _)
      | (refine LenB.mk ?_; intro _)
      | refine And.intro ?_ ?_
      | exact trivial
      | refine Stop.mk ?_
      | exact ShEq.sl
      | refine Dec.mk ⟨[((k : Int), (((g ⟨⟩).getD k (0, 0, 0, [])).2.2.2.getD j (0, 0)).2)], rfl, ?_⟩
      | refine Same.mk ⟨[((k : Int), (((g ⟨⟩).getD k (0, 0, 0, [])).2.2.2.getD j (0, 0)).2)], rfl, ?_⟩
      | refine Same.mk ⟨[((k : Int), -1)], rfl, ?_⟩
      | ((fail_if_success refine Side.mk ?_); (fail_if_success refine Exists.intro ?_ ?_); (fail_if_success refine VLoop.mk ?_); (fail_if_success refine VCut.mk ?_); (fail_if_success refine REq.sl ?_); (fail_if_success refine Same.mk ?_); (fail_if_success refine DEq.mk ?_); (fail_if_success refine VCall.mk ?_); (fail_if_success refine SReg.go ?_); (fail_if_success refine QCall.mk ?_); (fail_if_success refine Dec.mk ?_); (fail_if_success show False); (fail_if_success show _ = _); cbv)
    all_goals try simp only [ncast, decide_eq_true_eq, decide_eq_false_iff_not, Decidable.not_not, Bool.not_eq_true', Bool.not_eq_false', cond_t, cond_f, toNat_cast] at *
    all_goals try (first | exact Side.mk (i64 (by (try simp only [ncast] at *); omega)) | exact Side.mk (u64 (by (try simp only [ncast] at *); omega)) | exact Side.mk (by (try simp only [ncast] at *); refine ⟨?_, ?_, u64 ?_⟩ <;> first | trivial | omega) | exact Side.mk (by (try simp only [ncast] at *); (try simp only [List.length_set, List.length_cons, List.length_nil, List.length_append]); omega))
    · rename_i hjl hk3
      have hnc : notCall (((g ⟨⟩).getD k (0, 0, 0, [])).2.2.2.getD j (0, 0)) = true := by simpa [notCall] using hk3
      have e1 := hstep (by omega)
      rw [if_pos hnc] at e1
      have e2 : (entE (e ⟨⟩) ++ bE 0 ((g ⟨⟩).take k)) ++ blkP k (((g ⟨⟩).getD k (0, 0, 0, [])).2.2.2.take j) ++ [((k : Int), (((g ⟨⟩).getD k (0, 0, 0, [])).2.2.2.getD j (0, 0)).2)] = (entE (e ⟨⟩) ++ bE 0 ((g ⟨⟩).take k)) ++ blkP k (((g ⟨⟩).getD k (0, 0, 0, [])).2.2.2.take (j + 1)) := by rw [e1]; simp only [List.append_assoc]
      have e3 : true = !(blkP k (((g ⟨⟩).getD k (0, 0, 0, [])).2.2.2.take (j + 1))).isEmpty := by rw [e1]; simp
      refine ⟨j + 1, by omega, by omega, ?_⟩
      cbv
      repeat' first | refine And.intro ?_ ?_ | exact trivial | exact Side.mk rfl | exact REq.sl rfl | exact DEq.mk rfl | exact REq.sl e2 | exact Side.mk e3
    · rename_i hjl hk3
      have hnc : ¬ notCall (((g ⟨⟩).getD k (0, 0, 0, [])).2.2.2.getD j (0, 0)) = true := by simpa [notCall] using hk3
      have e1 := hstep (by omega)
      rw [if_neg hnc] at e1
      have e2 : (entE (e ⟨⟩) ++ bE 0 ((g ⟨⟩).take k)) ++ blkP k (((g ⟨⟩).getD k (0, 0, 0, [])).2.2.2.take j) = (entE (e ⟨⟩) ++ bE 0 ((g ⟨⟩).take k)) ++ blkP k (((g ⟨⟩).getD k (0, 0, 0, [])).2.2.2.take (j + 1)) := by rw [e1]
      have e3 : (!(blkP k (((g ⟨⟩).getD k (0, 0, 0, [])).2.2.2.take j)).isEmpty) = !(blkP k (((g ⟨⟩).getD k (0, 0, 0, [])).2.2.2.take (j + 1))).isEmpty := by rw [e1]
      refine ⟨j + 1, by omega, by omega, ?_⟩
      cbv
      repeat' first | refine And.intro ?_ ?_ | exact trivial | exact Side.mk rfl | exact REq.sl rfl | exact DEq.mk rfl | exact REq.sl e2 | exact Side.mk e3
    · rename_i hjl hem
      have e1 := blkP_full k ((g ⟨⟩).getD k (0, 0, 0, [])).2.2.2 (k := j) (by omega)
      rw [e1] at hem
      have e2 : (entE (e ⟨⟩) ++ bE 0 ((g ⟨⟩).take k)) ++ blkP k (((g ⟨⟩).getD k (0, 0, 0, [])).2.2.2.take j) ++ [((k : Int), -1)] = entE (e ⟨⟩) ++ bE 0 ((g ⟨⟩).take (k + 1)) := by
        rw [bE_take hkl, e1, List.append_assoc, List.append_assoc]
        unfold blkE
        rw [if_pos (by simpa using hem), List.isEmpty_iff.1 hem]; rfl
      refine ⟨k + 1, by omega, by omega, ?_⟩
      cbv
      repeat' first | refine And.intro ?_ ?_ | exact trivial | exact Side.mk rfl | exact REq.sl rfl | exact DEq.mk rfl | exact REq.sl e2
    · rename_i hjl hem
      have e1 := blkP_full k ((g ⟨⟩).getD k (0, 0, 0, [])).2.2.2 (k := j) (by omega)
      rw [e1] at hem
      have e2 : (entE (e ⟨⟩) ++ bE 0 ((g ⟨⟩).take k)) ++ blkP k (((g ⟨⟩).getD k (0, 0, 0, [])).2.2.2.take j) = entE (e ⟨⟩) ++ bE 0 ((g ⟨⟩).take (k + 1)) := by
        rw [bE_take hkl, e1, List.append_assoc]
        unfold blkE
        rw [if_neg (by intro h; rw [h] at hem; simp at hem)]
      refine ⟨k + 1, by omega, by omega, ?_⟩
      cbv
      repeat' first | refine And.intro ?_ ?_ | exact trivial | exact Side.mk rfl | exact REq.sl rfl | exact DEq.mk rfl | exact REq.sl e2
  · rename_i hge
    exact REq.sl (by rw [List.take_of_length_le (by omega)]; rfl)
theorem pedges_ok (g : Th (List Bk)) (e : Th (List Int)) (h : Side fun _ => EdPre (g ⟨⟩) (e ⟨⟩)) : GCall Try.prog 63 [.d (blocks g), .d (ints e)] (.row (.sl pairSh fun _ => edgesL (g ⟨⟩) (e ⟨⟩))) [] := by
  have hl := h.h.len
  have hn : (g ⟨⟩).length ≤ 100 := h.h.gg.n
  have hel : (e ⟨⟩).length ≤ 100 := by have := inc_len h.h.ee; omega
  clear h
  refine g63 (tabOK 0 ms) rfl (Nat.le_of_ble_eq_true rfl) rfl ?_
  repeat' first
    | (refine VIf.mk' ?_ ?_ <;> intro _)
    | (refine LenB.mk ?_; intro _)
    | refine And.intro ?_ ?_
    | exact trivial
    | refine Stop.mk ?_
    | exact ShEq.sl
    | ((fail_if_success refine Side.mk ?_); (fail_if_success refine Exists.intro ?_ ?_); (fail_if_success refine VLoop.mk ?_); (fail_if_success refine VCut.mk ?_); (fail_if_success refine REq.sl ?_); (fail_if_success refine Same.mk ?_); (fail_if_success refine DEq.mk ?_); (fail_if_success refine VCall.mk ?_); (fail_if_success refine SReg.go ?_); (fail_if_success refine QCall.mk ?_); (fail_if_success refine Dec.mk ?_); (fail_if_success show False); (fail_if_success show _ = _); cbv)
  refine VLoop.inv (ι := Nat) (fun i => ⟨[(0, .d (blocks g)), (5, .own 0), (13, .d (ints e)), (14, .d (num fun _ => (e ⟨⟩).length)), (15, .d (num fun _ => i))], [(0, .sl pairSh fun _ => entE ((e ⟨⟩).take i))]⟩)
    (fun i => i ≤ (e ⟨⟩).length) (fun i => (e ⟨⟩).length - i) 0 (Nat.zero_le _) ?_ ?_
  · cbv
    repeat' first | refine And.intro ?_ ?_ | exact trivial | exact Side.mk rfl | exact REq.sl rfl | exact DEq.mk rfl
  intro i hi
  have hl1 := (hl i 0).1
  repeat' first
    | (refine VIf.mk' ?_ ?_ <;> intro _)
    | (refine LenB.mk ?_; intro _)
    | refine And.intro ?_ ?_
    | exact trivial
    | refine Stop.mk ?_
    | exact ShEq.sl
    | refine Dec.mk ⟨[(-1, (e ⟨⟩).getD i 0)], rfl, ?_⟩
    | refine Same.mk ⟨[(-1, (e ⟨⟩).getD i 0)], rfl, ?_⟩
    | ((fail_if_success refine Side.mk ?_); (fail_if_success refine Exists.intro ?_ ?_); (fail_if_success refine VLoop.mk ?_); (fail_if_success refine VCut.mk ?_); (fail_if_success refine REq.sl ?_); (fail_if_success refine Same.mk ?_); (fail_if_success refine DEq.mk ?_); (fail_if_success refine VCall.mk ?_); (fail_if_success refine SReg.go ?_); (fail_if_success refine QCall.mk ?_); (fail_if_success refine Dec.mk ?_); (fail_if_success show False); (fail_if_success show _ = _); cbv)
  all_goals try simp only [ncast, decide_eq_true_eq, decide_eq_false_iff_not, Decidable.not_not, Bool.not_eq_true', Bool.not_eq_false', cond_t, cond_f, toNat_cast] at *
  all_goals try (first | exact Side.mk (i64 (by (try simp only [ncast] at *); omega)) | exact Side.mk (u64 (by (try simp only [ncast] at *); omega)) | exact Side.mk (by (try simp only [ncast] at *); refine ⟨?_, ?_, u64 ?_⟩ <;> first | trivial | omega) | exact Side.mk (by (try simp only [ncast] at *); (try simp only [List.length_set, List.length_cons, List.length_nil, List.length_append]); omega))
  · rename_i hlt
    have e1 := (entE_take (e := e ⟨⟩) (k := i) (by omega)).symm
    refine ⟨i + 1, by omega, by omega, ?_⟩
    cbv
    repeat' first | refine And.intro ?_ ?_ | exact trivial | exact Side.mk rfl | exact REq.sl rfl | exact DEq.mk rfl | exact REq.sl e1
  rename_i hge
  replace hge : i = (e ⟨⟩).length := by (try simp only [ncast, decide_eq_false_iff_not] at hge); omega
  have e0 : entE ((e ⟨⟩).take i) = entE (e ⟨⟩) ++ bE 0 ((g ⟨⟩).take 0) := by rw [hge, List.take_length]; simp [bE]
  -- the blocks
  refine VLoop.inv (ι := Nat) (fun k => ⟨[(5, .own 0), (25, .d (blocks g)), (26, .d (num fun _ => (g ⟨⟩).length)), (27, .d (num fun _ => k))], [(0, .sl pairSh fun _ => entE (e ⟨⟩) ++ bE 0 ((g ⟨⟩).take k))]⟩)
    (fun k => k ≤ (g ⟨⟩).length) (fun k => (g ⟨⟩).length - k) 0 (Nat.zero_le _) ?_ ?_
  · cbv
    repeat' first | refine And.intro ?_ ?_ | exact trivial | exact Side.mk rfl | exact REq.sl rfl | exact DEq.mk rfl | exact REq.sl e0
  clear e0 hge hl1 hi i
  intro k hk
  have hl2 := hl 0 k
  repeat' first
    | (refine VIf.mk' ?_ ?_ <;> intro _)
    | (refine LenB.mk ?_; intro _)
    | refine And.intro ?_ ?_
    | exact trivial
    | refine Stop.mk ?_
    | exact ShEq.sl
    | ((fail_if_success refine Side.mk ?_); (fail_if_success refine Exists.intro ?_ ?_); (fail_if_success refine VLoop.mk ?_); (fail_if_success refine VCut.mk ?_); (fail_if_success refine REq.sl ?_); (fail_if_success refine Same.mk ?_); (fail_if_success refine DEq.mk ?_); (fail_if_success refine VCall.mk ?_); (fail_if_success refine SReg.go ?_); (fail_if_success refine QCall.mk ?_); (fail_if_success refine Dec.mk ?_); (fail_if_success show False); (fail_if_success show _ = _); cbv)
  all_goals try simp only [ncast, decide_eq_true_eq, decide_eq_false_iff_not, Decidable.not_not, Bool.not_eq_true', Bool.not_eq_false', cond_t, cond_f, toNat_cast] at *
  all_goals try (first | exact Side.mk (i64 (by (try simp only [ncast] at *); omega)) | exact Side.mk (u64 (by (try simp only [ncast] at *); omega)) | exact Side.mk (by (try simp only [ncast] at *); refine ⟨?_, ?_, u64 ?_⟩ <;> first | trivial | omega) | exact Side.mk (by (try simp only [ncast] at *); (try simp only [List.length_set, List.length_cons, List.length_nil, List.length_append]); omega))
  · rename_i hkl
    replace hkl : k < (g ⟨⟩).length := by (try simp only [ncast, decide_eq_true_eq] at hkl); omega
    refine VLoop.inv (ι := Nat) (fun j => ⟨[(5, .own 0), (8, .d (num fun _ => k)), (10, .d (num fun _ => (entE (e ⟨⟩) ++ bE 0 ((g ⟨⟩).take k)).length)), (25, .d (blocks g)), (26, .d (num fun _ => (g ⟨⟩).length)), (27, .d (num fun _ => k)), (35, .d (pairs fun _ => ((g ⟨⟩).getD k (0, 0, 0, [])).2.2.2)), (36, .d (num fun _ => ((g ⟨⟩).getD k (0, 0, 0, [])).2.2.2.length)), (37, .d (num fun _ => j))], [(0, .sl pairSh fun _ => (entE (e ⟨⟩) ++ bE 0 ((g ⟨⟩).take k)) ++ blkP k (((g ⟨⟩).getD k (0, 0, 0, [])).2.2.2.take j))]⟩)
      (fun j => j ≤ ((g ⟨⟩).getD k (0, 0, 0, [])).2.2.2.length) (fun j => ((g ⟨⟩).getD k (0, 0, 0, [])).2.2.2.length - j) 0 (Nat.zero_le _) ?_ ?_
    · have e0 : entE (e ⟨⟩) ++ bE 0 ((g ⟨⟩).take k) = (entE (e ⟨⟩) ++ bE 0 ((g ⟨⟩).take k)) ++ blkP k (((g ⟨⟩).getD k (0, 0, 0, [])).2.2.2.take 0) := by simp [blkP]
      cbv
      repeat' first | refine And.intro ?_ ?_ | exact trivial | exact Side.mk rfl | exact REq.sl rfl | exact DEq.mk rfl | exact REq.sl e0
    intro j hj
    have hlk := hl k j
    have hstep := blkP_take k (l := ((g ⟨⟩).getD k (0, 0, 0, [])).2.2.2) (k := j)
    repeat' first
      | (refine VIf.mk' ?_ ?_ <;> intro _)
      | (refine LenB.mk ?_; intro _)
      | refine And.intro ?_ ?_
      | exact trivial
      | refine Stop.mk ?_
      | exact ShEq.sl
      | refine Dec.mk ⟨[((k : Int), (((g ⟨⟩).getD k (0, 0, 0, [])).2.2.2.getD j (0, 0)).2)], rfl, ?_⟩
      | refine Same.mk ⟨[((k : Int), (((g ⟨⟩).getD k (0, 0, 0, [])).2.2.2.getD j (0, 0)).2)], rfl, ?_⟩
      | refine Same.mk ⟨[((k : Int), -1)], rfl, ?_⟩
      | ((fail_if_success refine Side.mk ?_); (fail_if_success refine Exists.intro ?_ ?_); (fail_if_success refine VLoop.mk ?_); (fail_if_success refine VCut.mk ?_); (fail_if_success refine REq.sl ?_); (fail_if_success refine Same.mk ?_); (fail_if_success refine DEq.mk ?_); (fail_if_success refine VCall.mk ?_); (fail_if_success refine SReg.go ?_); (fail_if_success refine QCall.mk ?_); (fail_if_success refine Dec.mk ?_); (fail_if_success show False); (fail_if_success show _ = _); cbv)
    all_goals try simp only [ncast, decide_eq_true_eq, decide_eq_false_iff_not, Decidable.not_not, Bool.not_eq_true', Bool.not_eq_false', cond_t, cond_f, toNat_cast] at *
    all_goals try (first | exact Side.mk (i64 (by (try simp only [ncast] at *); omega)) | exact Side.mk (u64 (by (try simp only [ncast] at *); omega)) | exact Side.mk (by (try simp only [ncast] at *); refine ⟨?_, ?_, u64 ?_⟩ <;> first | trivial | omega) | exact Side.mk (by (try simp only [ncast] at *); (try simp only [List.length_set, List.length_cons, List.length_nil, List.length_append]); omega))
    · rename_i hjl hk3
      have hnc : notCall (((g ⟨⟩).getD k (0, 0, 0, [])).2.2.2.getD j (0, 0)) = true := by simpa [notCall] using hk3
      have e1 := hstep (by omega)
      rw [if_pos hnc] at e1
      have e2 : (entE (e ⟨⟩) ++ bE 0 ((g ⟨⟩).take k)) ++ blkP k (((g ⟨⟩).getD k (0, 0, 0, [])).2.2.2.take j) ++ [((k : Int), (((g ⟨⟩).getD k (0, 0, 0, [])).2.2.2.getD j (0, 0)).2)] = (entE (e ⟨⟩) ++ bE 0 ((g ⟨⟩).take k)) ++ blkP k (((g ⟨⟩).getD k (0, 0, 0, [])).2.2.2.take (j + 1)) := by rw [e1]; simp only [List.append_assoc]
      have e3 : true = !(blkP k (((g ⟨⟩).getD k (0, 0, 0, [])).2.2.2.take (j + 1))).isEmpty := by rw [e1]; simp
      refine ⟨j + 1, by omega, by omega, ?_⟩
      cbv
      repeat' first | refine And.intro ?_ ?_ | exact trivial | exact Side.mk rfl | exact REq.sl rfl | exact DEq.mk rfl | exact REq.sl e2 | exact Side.mk e3
    · rename_i hjl hk3
      have hnc : ¬ notCall (((g ⟨⟩).getD k (0, 0, 0, [])).2.2.2.getD j (0, 0)) = true := by simpa [notCall] using hk3
      have e1 := hstep (by omega)
      rw [if_neg hnc] at e1
      have e2 : (entE (e ⟨⟩) ++ bE 0 ((g ⟨⟩).take k)) ++ blkP k (((g ⟨⟩).getD k (0, 0, 0, [])).2.2.2.take j) = (entE (e ⟨⟩) ++ bE 0 ((g ⟨⟩).take k)) ++ blkP k (((g ⟨⟩).getD k (0, 0, 0, [])).2.2.2.take (j + 1)) := by rw [e1]
      have e3 : (!(blkP k (((g ⟨⟩).getD k (0, 0, 0, [])).2.2.2.take j)).isEmpty) = !(blkP k (((g ⟨⟩).getD k (0, 0, 0, [])).2.2.2.take (j + 1))).isEmpty := by rw [e1]
      refine ⟨j + 1, by omega, by omega, ?_⟩
      cbv
      repeat' first | refine And.intro ?_ ?_ | exact trivial | exact Side.mk rfl | exact REq.sl rfl | exact DEq.mk rfl | exact REq.sl e2 | exact Side.mk e3
    · rename_i hjl hem
      have e1 := blkP_full k ((g ⟨⟩).getD k (0, 0, 0, [])).2.2.2 (k := j) (by omega)
      rw [e1, List.length_append] at hem
      have hem2 : (blkP k ((g ⟨⟩).getD k (0, 0, 0, [])).2.2.2).length = 0 := by omega
      have e2 : (entE (e ⟨⟩) ++ bE 0 ((g ⟨⟩).take k)) ++ blkP k (((g ⟨⟩).getD k (0, 0, 0, [])).2.2.2.take j) ++ [((k : Int), -1)] = entE (e ⟨⟩) ++ bE 0 ((g ⟨⟩).take (k + 1)) := by
        rw [bE_take hkl, e1, List.append_assoc, List.append_assoc]
        unfold blkE
        rw [if_pos (List.length_eq_zero_iff.1 hem2), List.length_eq_zero_iff.1 hem2]; rfl
      refine ⟨k + 1, by omega, by omega, ?_⟩
      cbv
      repeat' first | refine And.intro ?_ ?_ | exact trivial | exact Side.mk rfl | exact REq.sl rfl | exact DEq.mk rfl | exact REq.sl e2
    · rename_i hjl hem
      have e1 := blkP_full k ((g ⟨⟩).getD k (0, 0, 0, [])).2.2.2 (k := j) (by omega)
      rw [e1, List.length_append] at hem
      have hem2 : (blkP k ((g ⟨⟩).getD k (0, 0, 0, [])).2.2.2).length ≠ 0 := by omega
      have e2 : (entE (e ⟨⟩) ++ bE 0 ((g ⟨⟩).take k)) ++ blkP k (((g ⟨⟩).getD k (0, 0, 0, [])).2.2.2.take j) = entE (e ⟨⟩) ++ bE 0 ((g ⟨⟩).take (k + 1)) := by
        rw [bE_take hkl, e1, List.append_assoc]
        unfold blkE
        rw [if_neg (by intro h; rw [h] at hem2; simp at hem2)]
      refine ⟨k + 1, by omega, by omega, ?_⟩
      cbv
      repeat' first | refine And.intro ?_ ?_ | exact trivial | exact Side.mk rfl | exact REq.sl rfl | exact DEq.mk rfl | exact REq.sl e2
  · rename_i hge
    exact REq.sl (by rw [List.take_of_length_le (by omega)]; rfl)
end Go.Eng
