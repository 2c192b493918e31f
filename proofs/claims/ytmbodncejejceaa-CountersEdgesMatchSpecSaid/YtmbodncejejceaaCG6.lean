/- Contracts of the reference's Insert and Placed. -/
import Derived.Test.YtmbodncejejceaaCG5
import Derived.Test.YtmbodncejejceaaCFRZ
import Derived.Test.YtmbodncejejceaaCPlA
set_option linter.all false

namespace Go.Eng
open Go.Proofs
attribute [local irreducible] vc vops gop step fins fin finP cov covEnv covRows softs qop hop

theorem insert_ok (l : Th (List Int)) (n : Th Int) (h : Side fun _ => (l ⟨⟩).length ≤ 1000000) : GCall Try.prog 72 [.d (ints l), .d (num n)] (.row (.sl intSh fun _ => insL (l ⟨⟩) (n ⟨⟩))) [] := by
  have hl := h.h
  clear h
  refine g72 (tabOK 0 ms) rfl (Nat.le_of_ble_eq_true rfl) rfl ?_
  repeat' first
    | (refine VIf.mk' ?_ ?_ <;> intro _)
    | (refine LenB.mk ?_; intro _)
    | refine And.intro ?_ ?_
    | exact trivial
    | refine Stop.mk ?_
    | exact ShEq.sl
    | ((fail_if_success refine Side.mk ?_); (fail_if_success refine Exists.intro ?_ ?_); (fail_if_success refine VLoop.mk ?_); (fail_if_success refine VCut.mk ?_); (fail_if_success refine REq.sl ?_); (fail_if_success refine Same.mk ?_); (fail_if_success refine DEq.mk ?_); (fail_if_success refine VCall.mk ?_); (fail_if_success refine SReg.go ?_); (fail_if_success refine QCall.mk ?_); (fail_if_success refine Dec.mk ?_); (fail_if_success show False); (fail_if_success show _ = _); cbv)
  refine VLoop.inv (ι := Nat × Bool × List Int) (fun p => ⟨[(0, .d (ints l)), (1, .d (num n)), (5, .own 0), (6, .d (bol fun _ => p.2.1)), (7, .d (num fun _ => p.1))], [(0, .sl intSh fun _ => p.2.2)]⟩)
    (fun p => p.1 ≤ (l ⟨⟩).length ∧ p.2.2 ++ insGo (n ⟨⟩) p.2.1 ((l ⟨⟩).drop p.1) = insL (l ⟨⟩) (n ⟨⟩) ∧ p.2.2.length ≤ 2 * p.1) (fun p => (l ⟨⟩).length - p.1) (0, false, []) ⟨Nat.zero_le _, rfl, Nat.le_refl _⟩ ?_ ?_
  · cbv
    repeat' first | refine And.intro ?_ ?_ | exact trivial | exact Side.mk rfl | exact REq.sl rfl | exact DEq.mk rfl
  rintro ⟨i, dn, out⟩ ⟨hi, he, hol⟩
  simp only at hi he hol
  have hst : i < (l ⟨⟩).length → (l ⟨⟩).drop i = (l ⟨⟩).getD i 0 :: (l ⟨⟩).drop (i + 1) := fun h => drop_getD' 0 h
  repeat' first
    | (refine VIf.mk' ?_ ?_ <;> intro _)
    | (refine LenB.mk ?_; intro _)
    | refine And.intro ?_ ?_
    | exact trivial
    | refine Stop.mk ?_
    | exact ShEq.sl
    | refine Dec.mk ⟨[_], rfl, ?_⟩
    | refine Same.mk ⟨[_], rfl, ?_⟩
    | ((fail_if_success refine Side.mk ?_); (fail_if_success refine Exists.intro ?_ ?_); (fail_if_success refine VLoop.mk ?_); (fail_if_success refine VCut.mk ?_); (fail_if_success refine REq.sl ?_); (fail_if_success refine Same.mk ?_); (fail_if_success refine DEq.mk ?_); (fail_if_success refine VCall.mk ?_); (fail_if_success refine SReg.go ?_); (fail_if_success refine QCall.mk ?_); (fail_if_success refine Dec.mk ?_); (fail_if_success show False); (fail_if_success show _ = _); cbv)
  all_goals try simp only [ncast, decide_eq_true_eq, decide_eq_false_iff_not, Decidable.not_not, Bool.not_eq_true', Bool.not_eq_false', cond_t, cond_f, toNat_cast] at *
  all_goals try (first | exact Side.mk (i64 (by (try simp only [ncast] at *); omega)) | exact Side.mk (u64 (by (try simp only [ncast] at *); omega)) | exact Side.mk (by (try simp only [ncast] at *); refine ⟨?_, ?_, u64 ?_⟩ <;> first | trivial | omega) | exact Side.mk (by (try simp only [ncast] at *); (try simp only [List.length_set, List.length_cons, List.length_nil, List.length_append]); omega))
  · rename_i hd h1 h2
    refine ⟨(i + 1, true, out ++ [n ⟨⟩] ++ [(l ⟨⟩).getD i 0]), ⟨by simp only; omega, ?_, by simp only [List.length_append, List.length_cons, List.length_nil]; omega⟩, by simp only; omega, ?_⟩
    · rw [← he, hst (by omega)]
      simp only
      generalize (l ⟨⟩).getD i 0 = x at *
      simp [insGo, hd, h1, h2]
    · cbv
      repeat' (first | refine And.intro ?_ ?_ | exact trivial | exact Side.mk rfl | exact REq.sl rfl | exact DEq.mk rfl | exact Side.mk (by (try simp only [ncast] at *); omega))
  · rename_i hd h1 h2
    refine ⟨(i + 1, true, out ++ [n ⟨⟩]), ⟨by simp only; omega, ?_, by simp only [List.length_append, List.length_cons, List.length_nil]; omega⟩, by simp only; omega, ?_⟩
    · rw [← he, hst (by omega)]
      simp only
      generalize (l ⟨⟩).getD i 0 = x at *
      simp [insGo, hd, h1, h2]
    · cbv
      repeat' (first | refine And.intro ?_ ?_ | exact trivial | exact Side.mk rfl | exact REq.sl rfl | exact DEq.mk rfl | exact Side.mk (by (try simp only [ncast] at *); omega))
  · rename_i hd h1 h2
    refine ⟨(i + 1, dn, out ++ [(l ⟨⟩).getD i 0]), ⟨by simp only; omega, ?_, by simp only [List.length_append, List.length_cons, List.length_nil]; omega⟩, by simp only; omega, ?_⟩
    · rw [← he, hst (by omega)]
      simp only
      generalize (l ⟨⟩).getD i 0 = x at *
      simp [insGo, hd, h1, h2]
    · cbv
      repeat' (first | refine And.intro ?_ ?_ | exact trivial | exact Side.mk rfl | exact REq.sl rfl | exact DEq.mk rfl | exact Side.mk (by (try simp only [ncast] at *); omega))
  · rename_i hd h1 h2
    exact absurd (Int.le_of_eq h2.symm) h1
  · rename_i hd h2
    refine ⟨(i + 1, dn, out ++ [(l ⟨⟩).getD i 0]), ⟨by simp only; omega, ?_, by simp only [List.length_append, List.length_cons, List.length_nil]; omega⟩, by simp only; omega, ?_⟩
    · rw [← he, hst (by omega)]
      simp only
      generalize (l ⟨⟩).getD i 0 = x at *
      simp [insGo, hd, h2]
    · cbv
      repeat' (first | refine And.intro ?_ ?_ | exact trivial | exact Side.mk rfl | exact REq.sl rfl | exact DEq.mk rfl | exact Side.mk (by (try simp only [ncast] at *); omega))
  · rename_i hd h2
    refine ⟨(i + 1, dn, out), ⟨by simp only; omega, ?_, by simp only; omega⟩, by simp only; omega, ?_⟩
    · rw [← he, hst (by omega)]
      simp only
      generalize (l ⟨⟩).getD i 0 = x at *
      simp [insGo, hd, h2]
    · cbv
      repeat' (first | refine And.intro ?_ ?_ | exact trivial | exact Side.mk rfl | exact REq.sl rfl | exact DEq.mk rfl | exact Side.mk (by (try simp only [ncast] at *); omega))
  · rename_i hge hd
    refine REq.sl ?_
    rw [← he, List.drop_of_length_le (by omega), hd]; rfl
  · rename_i hge hd
    refine REq.sl ?_
    rw [← he, List.drop_of_length_le (by omega), hd]; simp [insGo]

theorem insert_d (l : Th (List Int)) (n : Th Int) (h : Side fun _ => (l ⟨⟩).length ≤ 1000000) : GCall Try.prog 72 [.d (ints l), .d (num n)] (.d (ints fun _ => insL (l ⟨⟩) (n ⟨⟩))) [] := GCall.frz rfl (insert_ok l n h)

structure PlPre (l : List Pr) (w : List Int) : Prop where
  ll : l.length ≤ 1000
  lw : w.length = l.length
  rng : ∀ x ∈ l, -1 ≤ x.1 ∧ -1 ≤ x.2
theorem placed_ok (l : Th (List Pr)) (w : Th (List Int)) (h : Side fun _ => PlPre (l ⟨⟩) (w ⟨⟩)) : GCall Try.prog 35 [.d (pairs l), .d (ints w)] (.d (ints fun _ => placedL (l ⟨⟩) (w ⟨⟩))) [] := by
  obtain ⟨hll, hlw, hr⟩ := h.h
  clear h
  refine g35 (tabOK 0 ms) rfl (Nat.le_of_ble_eq_true rfl) rfl ?_
  repeat' first
    | (refine VIf.mk' ?_ ?_ <;> intro _)
    | (refine LenB.mk ?_; intro _)
    | refine And.intro ?_ ?_
    | exact trivial
    | refine Stop.mk ?_
    | exact ShEq.sl
    | ((fail_if_success refine Side.mk ?_); (fail_if_success refine Exists.intro ?_ ?_); (fail_if_success refine VLoop.mk ?_); (fail_if_success refine VCut.mk ?_); (fail_if_success refine REq.sl ?_); (fail_if_success refine Same.mk ?_); (fail_if_success refine DEq.mk ?_); (fail_if_success refine VCall.mk ?_); (fail_if_success refine SReg.go ?_); (fail_if_success refine QCall.mk ?_); (fail_if_success refine Dec.mk ?_); (fail_if_success show False); (fail_if_success show _ = _); cbv)
  all_goals try exact Side.mk (by simp only [ncast]; omega)
  have hz : (List.replicate (((l ⟨⟩).length : Int)).toNat false) = List.replicate (l ⟨⟩).length false := by rw [Int.toNat_natCast]
  refine VLoop.inv (ι := Nat) (fun n => ⟨[(0, .d (pairs l)), (1, .d (ints w)), (5, .own 0), (6, .own 1), (7, .d (ints fun _ => srtI (kru (l ⟨⟩) ((ordW (w ⟨⟩) (l ⟨⟩).length).take n)).2)), (8, .d (num fun _ => n))], [(0, .sl boolSh fun _ => useL (l ⟨⟩) (w ⟨⟩) n), (1, .sl boolSh fun _ => doneL (w ⟨⟩) (l ⟨⟩).length n)]⟩)
    (fun n => n ≤ (l ⟨⟩).length) (fun n => (l ⟨⟩).length - n) 0 (Nat.zero_le _) ?_ ?_
  · have e1 := useL_zero (l ⟨⟩) (w ⟨⟩)
    have e2 := doneL_zero (w ⟨⟩) (l ⟨⟩).length
    rw [← hz] at e1 e2
    cbv
    repeat' first | refine And.intro ?_ ?_ | exact trivial | exact Side.mk rfl | exact REq.sl rfl | exact DEq.mk rfl | exact REq.sl e1.symm | exact REq.sl e2.symm | exact Side.mk (by simp [kru, srtI])
  intro n hn
  have hul : (useL (l ⟨⟩) (w ⟨⟩) n).length = (l ⟨⟩).length := (useL_len _ _ _).symm
  have hdl : (doneL (w ⟨⟩) (l ⟨⟩).length n).length = (l ⟨⟩).length := by simp [doneL]
  repeat' first
    | (refine VIf.mk' ?_ ?_ <;> intro _)
    | (refine LenB.mk ?_; intro _)
    | refine And.intro ?_ ?_
    | exact trivial
    | refine Stop.mk ?_
    | exact ShEq.sl
    | ((fail_if_success refine Side.mk ?_); (fail_if_success refine Exists.intro ?_ ?_); (fail_if_success refine VLoop.mk ?_); (fail_if_success refine VCut.mk ?_); (fail_if_success refine REq.sl ?_); (fail_if_success refine Same.mk ?_); (fail_if_success refine DEq.mk ?_); (fail_if_success refine VCall.mk ?_); (fail_if_success refine SReg.go ?_); (fail_if_success refine QCall.mk ?_); (fail_if_success refine Dec.mk ?_); (fail_if_success show False); (fail_if_success show _ = _); cbv)
  all_goals try simp only [ncast, decide_eq_true_eq, decide_eq_false_iff_not, Decidable.not_not, Bool.not_eq_true', Bool.not_eq_false', cond_t, cond_f, toNat_cast] at *
  all_goals try (first | exact Side.mk (i64 (by (try simp only [ncast] at *); omega)) | exact Side.mk (u64 (by (try simp only [ncast] at *); omega)) | exact Side.mk (by (try simp only [ncast] at *); refine ⟨?_, ?_, u64 ?_⟩ <;> first | trivial | omega) | exact Side.mk (by (try simp only [ncast] at *); (try simp only [List.length_set, List.length_cons, List.length_nil, List.length_append]); omega))
  · rename_i hnl
    replace hnl : n < (l ⟨⟩).length := by (try simp only [ncast, decide_eq_true_eq] at hnl); omega
    clear hz
    have hset := doneL_set (w := w ⟨⟩) hnl
    have hord := bst_ord (w := w ⟨⟩) hnl (dn := fun j => (doneL (w ⟨⟩) (l ⟨⟩).length n).getD j false) fun j hj => by
      show (doneL (w ⟨⟩) (l ⟨⟩).length n).getD j false = true ↔ _
      rw [doneL, mapR_getD hj]; simp
    obtain ⟨hx0, hxn⟩ := ordW_at (w := w ⟨⟩) hnl
    have hkeep := useL_keep (l := l ⟨⟩) (w := w ⟨⟩) hnl
    have huset := useL_set (l := l ⟨⟩) (w := w ⟨⟩) hnl
    have hrt := useL_rt (l ⟨⟩) (w ⟨⟩) n
    have hnd2 : ((kru (l ⟨⟩) ((ordW (w ⟨⟩) (l ⟨⟩).length).take (n + 1))).2).Nodup := ((ordW_nodup (w ⟨⟩) (l ⟨⟩).length).sublist (List.take_sublist _ _)).sublist (kru_sub _ _)
    have hnl2 : (srtI (kru (l ⟨⟩) ((ordW (w ⟨⟩) (l ⟨⟩).length).take n)).2).length ≤ 1000 := by
      rw [(srtI_perm _).length_eq]
      have := (kru_sub (l ⟨⟩) ((ordW (w ⟨⟩) (l ⟨⟩).length).take n)).length_le
      simp only [List.length_take] at this
      omega
    generalize hxe : (ordW (w ⟨⟩) (l ⟨⟩).length).getD n 0 = x at *
    generalize hdn : (fun j => (doneL (w ⟨⟩) (l ⟨⟩).length n).getD j false) = dn at *
    refine VLoop.inv (ι := Nat) (fun i => ⟨[(0, .d (pairs l)), (1, .d (ints w)), (5, .own 0), (6, .own 1), (7, .d (ints fun _ => srtI (kru (l ⟨⟩) ((ordW (w ⟨⟩) (l ⟨⟩).length).take n)).2)), (8, .d (num fun _ => n)), (9, .d (num fun _ => bst (w ⟨⟩) dn i)), (10, .d (num fun _ => i))], [(0, .sl boolSh fun _ => useL (l ⟨⟩) (w ⟨⟩) n), (1, .sl boolSh fun _ => doneL (w ⟨⟩) (l ⟨⟩).length n)]⟩)
      (fun i => i ≤ (l ⟨⟩).length) (fun i => (l ⟨⟩).length - i) 0 (Nat.zero_le _) ?_ ?_
    · cbv
      repeat' (first | refine And.intro ?_ ?_ | exact trivial | exact Side.mk rfl | exact REq.sl rfl | exact DEq.mk rfl | exact Side.mk (by (try simp only [ncast] at *); omega))
    intro i hi
    have hbr := bst_rng (w ⟨⟩) dn i
    have hdi : dn i = (doneL (w ⟨⟩) (l ⟨⟩).length n).getD i false := by rw [← hdn]
    have hb1 := bst_yes (w := w ⟨⟩) (dn := dn) (i := i)
    have hb2 := bst_no (w := w ⟨⟩) (dn := dn) (i := i)
    rw [hdi] at hb1 hb2
    repeat' first
      | (refine VIf.mk' ?_ ?_ <;> intro _)
      | (refine LenB.mk ?_; intro _)
      | refine And.intro ?_ ?_
      | exact trivial
      | refine Stop.mk ?_
      | exact ShEq.sl
      | ((fail_if_success refine Side.mk ?_); (fail_if_success refine Exists.intro ?_ ?_); (fail_if_success refine VLoop.mk ?_); (fail_if_success refine VCut.mk ?_); (fail_if_success refine REq.sl ?_); (fail_if_success refine Same.mk ?_); (fail_if_success refine DEq.mk ?_); (fail_if_success refine VCall.mk ?_); (fail_if_success refine SReg.go ?_); (fail_if_success refine QCall.mk ?_); (fail_if_success refine Dec.mk ?_); (fail_if_success show False); (fail_if_success show _ = _); cbv)
    all_goals try simp only [ncast, decide_eq_true_eq, decide_eq_false_iff_not, Decidable.not_not, Bool.not_eq_true', Bool.not_eq_false', cond_t, cond_f, toNat_cast] at *
    all_goals try (first | exact Side.mk (i64 (by (try simp only [ncast] at *); omega)) | exact Side.mk (u64 (by (try simp only [ncast] at *); omega)) | exact Side.mk (by (try simp only [ncast] at *); refine ⟨?_, ?_, u64 ?_⟩ <;> first | trivial | omega) | exact Side.mk (by (try simp only [ncast] at *); (try simp only [List.length_set, List.length_cons, List.length_nil, List.length_append, hul, hdl]); omega))
    · rename_i h1 h2 h3
      have e := hb1 h2 (.inl h3)
      refine ⟨i + 1, by omega, by omega, ?_⟩
      cbv
      repeat' first | refine And.intro ?_ ?_ | exact trivial | exact Side.mk rfl | exact REq.sl rfl | exact DEq.mk rfl | exact Side.mk e.symm
    · rename_i h1 h2 h3 h4
      have e := hb1 h2 (.inr h4)
      refine ⟨i + 1, by omega, by omega, ?_⟩
      cbv
      repeat' first | refine And.intro ?_ ?_ | exact trivial | exact Side.mk rfl | exact REq.sl rfl | exact DEq.mk rfl | exact Side.mk e.symm
    · rename_i h1 h2 h3 h4
      have e := hb2 (.inr ⟨by omega, by omega⟩)
      refine ⟨i + 1, by omega, by omega, ?_⟩
      cbv
      repeat' first | refine And.intro ?_ ?_ | exact trivial | exact Side.mk rfl | exact REq.sl rfl | exact DEq.mk rfl | exact Side.mk e.symm
    · rename_i h1 h2
      have e := hb2 (.inl h2)
      refine ⟨i + 1, by omega, by omega, ?_⟩
      cbv
      repeat' first | refine And.intro ?_ ?_ | exact trivial | exact Side.mk rfl | exact REq.sl rfl | exact DEq.mk rfl | exact Side.mk e.symm
    all_goals
      rename_i hge
      have hie : i = (l ⟨⟩).length := by (try simp only [ncast, decide_eq_false_iff_not] at hge); omega
      clear hge hb1 hb2 hbr hdi hi
      subst hie
    all_goals try exact Side.mk (by rw [hord]; (try simp only [hul, hdl]); omega)
    have hxl : x.toNat < (l ⟨⟩).length := by omega
    have hrx := hr _ (getD_memL (0, 0) hxl)
    refine VCall.mk' (.mk (conn_ok _ _ _ _ ?_)) (.inr ⟨rfl, fun _ h => (List.not_mem_nil h).elim⟩) ?_
    · exact Side.mk ⟨by omega, hul.symm, hr, by rw [hord]; exact hrx.1, by rw [hord]; exact hrx.2⟩
    have hins : ∀ h : rtOf (kru (l ⟨⟩) ((ordW (w ⟨⟩) (l ⟨⟩).length).take n)).1 (sh ((l ⟨⟩).getD x.toNat (0, 0))).1 = rtOf (kru (l ⟨⟩) ((ordW (w ⟨⟩) (l ⟨⟩).length).take n)).1 (sh ((l ⟨⟩).getD x.toNat (0, 0))).2, insL (srtI (kru (l ⟨⟩) ((ordW (w ⟨⟩) (l ⟨⟩).length).take n)).2) x = srtI (kru (l ⟨⟩) ((ordW (w ⟨⟩) (l ⟨⟩).length).take (n + 1))).2 := fun h => by
      rw [(hkeep h).2] at hnd2 ⊢
      exact insL_srt hnd2
    repeat' first
      | (refine VIf.mk' ?_ ?_ <;> intro _)
      | (refine LenB.mk ?_; intro _)
      | refine And.intro ?_ ?_
      | exact trivial
      | refine Stop.mk ?_
      | exact ShEq.sl
      | refine VCall.mk' (.mk (insert_d _ _ ?_)) (.inl rfl) ?_
      | ((fail_if_success refine Side.mk ?_); (fail_if_success refine Exists.intro ?_ ?_); (fail_if_success refine VLoop.mk ?_); (fail_if_success refine VCut.mk ?_); (fail_if_success refine REq.sl ?_); (fail_if_success refine Same.mk ?_); (fail_if_success refine DEq.mk ?_); (fail_if_success refine VCall.mk ?_); (fail_if_success refine SReg.go ?_); (fail_if_success refine QCall.mk ?_); (fail_if_success refine Dec.mk ?_); (fail_if_success show False); (fail_if_success show _ = _); cbv)
    all_goals try simp only [ncast, decide_eq_true_eq, decide_eq_false_iff_not, Decidable.not_not, Bool.not_eq_true', Bool.not_eq_false', cond_t, cond_f, toNat_cast] at *
    all_goals try (first | exact Side.mk (i64 (by (try simp only [ncast] at *); omega)) | exact Side.mk (u64 (by (try simp only [ncast] at *); omega)) | exact Side.mk (by (try simp only [ncast] at *); refine ⟨?_, ?_, u64 ?_⟩ <;> first | trivial | omega) | exact Side.mk (by (try simp only [ncast] at *); (try simp only [List.length_set, List.length_cons, List.length_nil, List.length_append]); omega))
    · rename_i hc
      rw [hord] at hc
      have hc2 := (hrt _ _).1 hc
      have e1 : useL (l ⟨⟩) (w ⟨⟩) n = useL (l ⟨⟩) (w ⟨⟩) (n + 1) := (hkeep hc2).1
      have e2 : (doneL (w ⟨⟩) (l ⟨⟩).length n).set (bst (w ⟨⟩) dn (l ⟨⟩).length).toNat true = doneL (w ⟨⟩) (l ⟨⟩).length (n + 1) := by rw [hord]; exact hset
      have e3 : insL (srtI (kru (l ⟨⟩) ((ordW (w ⟨⟩) (l ⟨⟩).length).take n)).2) (bst (w ⟨⟩) dn (l ⟨⟩).length) = srtI (kru (l ⟨⟩) ((ordW (w ⟨⟩) (l ⟨⟩).length).take (n + 1))).2 := by rw [hord]; exact hins hc2
      refine ⟨n + 1, by omega, by omega, ?_⟩
      cbv
      repeat' first | refine And.intro ?_ ?_ | exact trivial | exact Side.mk rfl | exact REq.sl rfl | exact DEq.mk rfl | exact REq.sl e1 | exact REq.sl e2 | exact DEq.mk (congrArg ints (funext fun _ => e3))
    · rename_i hc
      rw [hord] at hc
      have hc2 : ¬ _ := fun h => hc ((hrt _ _).2 h)
      have e1 : (useL (l ⟨⟩) (w ⟨⟩) n).set (bst (w ⟨⟩) dn (l ⟨⟩).length).toNat true = useL (l ⟨⟩) (w ⟨⟩) (n + 1) := by rw [hord]; exact (huset hc2).1
      have e2 : (doneL (w ⟨⟩) (l ⟨⟩).length n).set (bst (w ⟨⟩) dn (l ⟨⟩).length).toNat true = doneL (w ⟨⟩) (l ⟨⟩).length (n + 1) := by rw [hord]; exact hset
      have e3 : srtI (kru (l ⟨⟩) ((ordW (w ⟨⟩) (l ⟨⟩).length).take n)).2 = srtI (kru (l ⟨⟩) ((ordW (w ⟨⟩) (l ⟨⟩).length).take (n + 1))).2 := by rw [(huset hc2).2]
      refine ⟨n + 1, by omega, by omega, ?_⟩
      cbv
      repeat' first | refine And.intro ?_ ?_ | exact trivial | exact Side.mk rfl | exact REq.sl rfl | exact DEq.mk rfl | exact REq.sl e1 | exact REq.sl e2 | exact DEq.mk (congrArg ints (funext fun _ => e3))
  · rename_i hge
    refine DEq.mk ?_
    unfold placedL
    rw [List.take_of_length_le (by rw [ordW_length]; omega)]
end Go.Eng
