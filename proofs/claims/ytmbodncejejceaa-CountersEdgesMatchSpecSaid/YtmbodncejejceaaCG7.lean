/- The contract of Place. -/
import Derived.Test.YtmbodncejejceaaCG4
import Derived.Test.YtmbodncejejceaaCG6
import Derived.Test.YtmbodncejejceaaCS4
import Derived.Test.YtmbodncejejceaaCH2
import Derived.Test.YtmbodncejejceaaCCG7
set_option linter.all false

namespace Go.Eng
open Go.Proofs
attribute [local irreducible] vc vops gop step fins fin finP cov covEnv covRows softs qop hop

def fillR (N k : Nat) : List Int := (List.range N).map fun (i : Nat) => if i < k then (i : Int) else 0
theorem fillR_len (N k : Nat) : (fillR N k).length = N := by simp [fillR]
theorem fillR_set {N k : Nat} (hk : k < N) : (fillR N k).set k (k : Int) = fillR N (k + 1) := ext_getD (d := 0) (by simp [fillR]) fun p hp => by
  have hp' : p < N := by simpa [fillR] using hp
  rw [getD_set]
  simp only [fillR, List.getD_eq_getElem?_getD, List.getElem?_map, List.getElem?_range hp', Option.map_some, Option.getD_some]
  by_cases e : k = p
  · rw [if_pos ⟨e, by simpa using hk⟩, if_pos (by omega), e]
  · rw [if_neg (fun h => e h.1)]
    by_cases e2 : p < k
    · rw [if_pos e2, if_pos (by omega)]
    · rw [if_neg e2, if_neg (by omega)]
theorem fillR_zero (N : Nat) : List.replicate N (0 : Int) = fillR N 0 := by
  refine ext_getD (d := 0) (by simp [fillR]) fun p hp => ?_
  have hp' : p < N := by simpa [fillR] using hp
  simp [fillR, List.getD_eq_getElem?_getD, hp']
theorem fillR_full (N : Nat) : fillR N N = idxL N := by
  unfold fillR idxL
  refine List.map_congr_left fun i hi => ?_
  have := List.mem_range.1 hi
  rw [if_pos (by omega)]

def placeF (g : List Bk) (e w : List Int) : Int × Int := if (entF g e).1 = 0 then wtF w (edgesL g e).length else entF g e
def placeL (g : List Bk) (e w : List Int) : List Int := if (placeF g e w).1 = 0 then placedL (edgesL g e) w else []

theorem cmp66 (w : Th (List Int)) (hw : ∀ z ∈ w ⟨⟩, 0 ≤ z ∧ z ≤ 1000000) : Cmp66 (fun x y : Int => (0 ≤ x ∧ x < (w ⟨⟩).length) ∧ 0 ≤ y ∧ y < (w ⟨⟩).length) (fun x y : Int => (w ⟨⟩).getD y.toNat 0 - (w ⟨⟩).getD x.toNat 0) w := fun x y h => less_ok w x y ⟨h.h.1, h.h.2, hw⟩
theorem cmpF66 (w : List Int) : CmpF (fun x y : Int => (0 ≤ x ∧ x < w.length) ∧ 0 ≤ y ∧ y < w.length) (fun x y : Int => w.getD y.toNat 0 - w.getD x.toNat 0) (wkey w) := ⟨fun x y _ => by simp only [wkey]; omega⟩
theorem pw_idx {w : List Int} {N : Nat} (h : w.length = N) : Pw (fun x y => (0 ≤ x ∧ x < (w.length : Int)) ∧ 0 ≤ y ∧ y < (w.length : Int)) (idxL N) := by
  unfold Pw
  rw [List.pairwise_iff_getElem]
  intro i j hi hj _
  have h1 := mem_idxL.1 (List.getElem_mem hi)
  have h2 := mem_idxL.1 (List.getElem_mem hj)
  omega

set_option maxHeartbeats 1000000 in
theorem place_ok' (g : Th (List Bk)) (e w : Th (List Int)) (h : Side fun _ => GB (g ⟨⟩) ∧ LB (e ⟨⟩) ∧ LB (w ⟨⟩)) :
    GCall Try.prog 30 [.d (blocks g), .d (ints e), .d (ints w)] (.tup [.d (ints fun _ => placeL (g ⟨⟩) (e ⟨⟩) (w ⟨⟩)), .d (fault (fun _ => (placeF (g ⟨⟩) (e ⟨⟩) (w ⟨⟩)).1) fun _ => (placeF (g ⟨⟩) (e ⟨⟩) (w ⟨⟩)).2)]) [] := by
  have hge : Side fun _ => GB (g ⟨⟩) ∧ LB (e ⟨⟩) := ⟨⟨h.h.1, h.h.2.1⟩⟩
  have hwl : LB (w ⟨⟩) := h.h.2.2
  clear h
  refine g30 (tabOK 0 ms) rfl (Nat.le_of_ble_eq_true rfl) rfl ?_
  repeat' first
    | (refine VIf.mk' ?_ ?_ <;> intro _)
    | (refine LenB.mk ?_; intro _)
    | refine And.intro ?_ ?_
    | exact trivial
    | refine Stop.mk ?_
    | exact ShEq.sl
    | refine VCall.mk' (.mk (check_ok' _ _ hge)) (.inl rfl) ?_
    | ((fail_if_success refine Side.mk ?_); (fail_if_success refine Exists.intro ?_ ?_); (fail_if_success refine VLoop.mk ?_); (fail_if_success refine VCut.mk ?_); (fail_if_success refine REq.sl ?_); (fail_if_success refine Same.mk ?_); (fail_if_success refine DEq.mk ?_); (fail_if_success refine VCall.mk ?_); (fail_if_success refine SReg.go ?_); (fail_if_success refine QCall.mk ?_); (fail_if_success refine Dec.mk ?_); (fail_if_success show False); (fail_if_success show _ = _); cbv)
  all_goals try simp only [ncast, decide_eq_true_eq, decide_eq_false_iff_not, Decidable.not_not, Bool.not_eq_true', Bool.not_eq_false', cond_t, cond_f, toNat_cast] at *
  · rename_i h1
    have := flt_ne h1 fun h => (entF_good h).1
    exact Side.mk (by unfold placeL placeF; rw [if_neg this, if_neg this])
  · rename_i h1
    have := flt_ne h1 fun h => (entF_good h).1
    exact Side.mk (by unfold placeF; rw [if_neg this])
  · rename_i h1
    have := flt_ne h1 fun h => (entF_good h).1
    exact Side.mk (by unfold placeF; rw [if_neg this])
  rename_i h1
  have h0 : (entF (g ⟨⟩) (e ⟨⟩)).1 = 0 := flt_eq (by simpa using h1)
  clear h1
  obtain ⟨_, hG, hE⟩ := entF_good h0
  have hlen := edgesL_len hG hE
  have hrng := fun x hx => edgesL_rng (x := x) hG hE hx
  have hgn := hG.n
  refine VCall.mk' (.mk (pedges_ok _ _ ⟨⟨hG, hE⟩⟩)) (.inl rfl) ?_
  generalize hL : edgesL (g ⟨⟩) (e ⟨⟩) = L at *
  have hpf : placeF (g ⟨⟩) (e ⟨⟩) (w ⟨⟩) = wtF (w ⟨⟩) L.length := by unfold placeF; rw [if_pos h0, hL]
  repeat' first
    | (refine VIf.mk' ?_ ?_ <;> intro _)
    | (refine LenB.mk ?_; intro _)
    | refine And.intro ?_ ?_
    | exact trivial
    | refine Stop.mk ?_
    | exact ShEq.sl
    | refine VCall.mk' (.mk (wfault_ok _ _ L.length ?_)) (.inl rfl) ?_
    | ((fail_if_success refine Side.mk ?_); (fail_if_success refine Exists.intro ?_ ?_); (fail_if_success refine VLoop.mk ?_); (fail_if_success refine VCut.mk ?_); (fail_if_success refine REq.sl ?_); (fail_if_success refine Same.mk ?_); (fail_if_success refine DEq.mk ?_); (fail_if_success refine VCall.mk ?_); (fail_if_success refine SReg.go ?_); (fail_if_success refine QCall.mk ?_); (fail_if_success refine Dec.mk ?_); (fail_if_success show False); (fail_if_success show _ = _); cbv)
  all_goals try simp only [ncast, decide_eq_true_eq, decide_eq_false_iff_not, Decidable.not_not, Bool.not_eq_true', Bool.not_eq_false', cond_t, cond_f, toNat_cast] at *
  · exact Side.mk ⟨by omega, by simp, hwl⟩
  · rename_i h1
    have := flt_ne h1 fun h => (wtF_good h).1
    exact Side.mk (by unfold placeL; rw [hpf, if_neg this])
  · exact Side.mk (by rw [hpf])
  · exact Side.mk (by rw [hpf])
  · exact Side.mk (by (try simp only [ncast]); omega)
  rename_i h1 _
  have h2 : (wtF (w ⟨⟩) L.length).1 = 0 := flt_eq h1
  clear h1
  obtain ⟨_, hwL, hw⟩ := wtF_good h2
  have hpl : placeL (g ⟨⟩) (e ⟨⟩) (w ⟨⟩) = placedL L (w ⟨⟩) := by unfold placeL; rw [hpf, if_pos h2, hL]
  have e0 : List.replicate L.length (0 : Int) = fillR L.length 0 := fillR_zero _
  have e1 : ((List.replicate L.length (0 : Int)).length : Int) = (L.length : Int) := by simp
  refine VLoop.inv (ι := Nat) (fun k => ⟨[(0, .d (blocks g)), (5, .bptr 0 0), (7, .bptr 1 0), (9, .own 3), (11, .own 5), (39, .d (num fun _ => L.length)), (40, .d (num fun _ => k))], [(0, .box [ints w]), (1, .box [num fun _ => 0, num fun _ => 0]), (3, .sl pairSh fun _ => L), (5, .sl intSh fun _ => fillR L.length k)]⟩)
    (fun k => k ≤ L.length) (fun k => L.length - k) 0 (Nat.zero_le _) ?_ ?_
  · cbv
    repeat' first | refine And.intro ?_ ?_ | exact trivial | exact Side.mk rfl | exact REq.sl rfl | exact DEq.mk rfl | exact REq.sl e0 | exact Side.mk e1
  intro k hk
  have hfl := fillR_len L.length k
  repeat' first
    | (refine VIf.mk' ?_ ?_ <;> intro _)
    | (refine LenB.mk ?_; intro _)
    | refine And.intro ?_ ?_
    | exact trivial
    | refine Stop.mk ?_
    | exact ShEq.sl
    | ((fail_if_success refine Side.mk ?_); (fail_if_success refine Exists.intro ?_ ?_); (fail_if_success refine VLoop.mk ?_); (fail_if_success refine VCut.mk ?_); (fail_if_success refine REq.sl ?_); (fail_if_success refine Same.mk ?_); (fail_if_success refine DEq.mk ?_); (fail_if_success refine VCall.mk ?_); (fail_if_success refine SReg.go ?_); (fail_if_success refine QCall.mk ?_); (fail_if_success refine Dec.mk ?_); (fail_if_success show False); (fail_if_success show _ = _); cbv)
  all_goals try simp only [ncast, decide_eq_true_eq, decide_eq_false_iff_not, Decidable.not_not, Bool.not_eq_true', Bool.not_eq_false', cond_t, cond_f, toNat_cast] at *
  all_goals try (first | exact Side.mk (i64 (by (try simp only [ncast] at *); omega)) | exact Side.mk (u64 (by (try simp only [ncast] at *); omega)) | exact Side.mk (by (try simp only [ncast] at *); refine ⟨?_, ?_, u64 ?_⟩ <;> first | trivial | omega) | exact Side.mk (by (try simp only [ncast] at *); (try simp only [List.length_set, List.length_cons, List.length_nil, List.length_append, hfl]); omega))
  · rename_i hlt
    have e3 := fillR_set (N := L.length) (k := k) (by omega)
    refine ⟨k + 1, by omega, by omega, ?_⟩
    cbv
    repeat' first | refine And.intro ?_ ?_ | exact trivial | exact Side.mk rfl | exact REq.sl rfl | exact DEq.mk rfl | exact REq.sl e3
  rename_i hge
  obtain rfl : k = L.length := by (try simp only [ncast, decide_eq_false_iff_not] at hge); omega
  clear hge e0 e1
  have hord : sortK (wkey (w ⟨⟩)) (fillR L.length L.length) = ordW (w ⟨⟩) L.length := by rw [fillR_full]; rfl
  refine VCall.mk' (.mk (sortStable_ok w (cmp66 w hw) (cmpF66 _) _ ?_)) (.inr ⟨trivial, fun x hx => by rw [List.mem_singleton.1 hx]; exact fun _ => rfl⟩) ?_
  · exact Side.mk ⟨by omega, by rw [fillR_full]; exact pw_idx hwL⟩
  repeat' first
    | (refine VIf.mk' ?_ ?_ <;> intro _)
    | (refine LenB.mk ?_; intro _)
    | refine And.intro ?_ ?_
    | exact trivial
    | refine Stop.mk ?_
    | exact ShEq.sl
    | refine VCall.mk' (.mk (newForest_ok _ (g ⟨⟩).length ?_)) (.inl rfl) ?_
    | ((fail_if_success refine Side.mk ?_); (fail_if_success refine Exists.intro ?_ ?_); (fail_if_success refine VLoop.mk ?_); (fail_if_success refine VCut.mk ?_); (fail_if_success refine REq.sl ?_); (fail_if_success refine Same.mk ?_); (fail_if_success refine DEq.mk ?_); (fail_if_success refine VCall.mk ?_); (fail_if_success refine SReg.go ?_); (fail_if_success refine QCall.mk ?_); (fail_if_success refine Dec.mk ?_); (fail_if_success show False); (fail_if_success show _ = _); cbv)
  · exact Side.mk ⟨by (try simp only [ncast]); omega, by (try simp only [ncast]); omega, by omega⟩
  have hol := ordW_length (w ⟨⟩) L.length
  have hat := fun k hk => ordW_at (w := w ⟨⟩) (n := L.length) (k := k) hk
  have e2 : ((sortK (wkey (w ⟨⟩)) (fillR L.length L.length)).length : Int) = (L.length : Int) := by rw [hord, hol]
  have e3 : (kru L ((ordW (w ⟨⟩) L.length).take 0)).2 = [] := by simp [kru]
  have hplL : placedL L (w ⟨⟩) = srtI (kru L (ordW (w ⟨⟩) L.length)).2 := rfl
  have hkl : ∀ k, (kru L ((ordW (w ⟨⟩) L.length).take k)).2.length ≤ 500 := fun k => by
    have := (kru_sub L ((ordW (w ⟨⟩) L.length).take k)).length_le
    simp only [List.length_take] at this
    omega
  have hkt := fun k hk => kru_take L (o := ordW (w ⟨⟩) L.length) (k := k) hk
  rw [hol] at hkt
  refine VLoop.inv (ι := Nat × List Int) (fun p => ⟨[(7, .bptr 1 0), (9, .own 3), (13, .own 6), (14, .own 7), (54, .own 5), (55, .d (num fun _ => L.length)), (56, .d (num fun _ => p.1))], [(1, .box [num fun _ => 0, num fun _ => 0]), (3, .sl pairSh fun _ => L), (5, .sl intSh fun _ => ordW (w ⟨⟩) L.length), (6, .sl intSh fun _ => p.2), (7, .sl intSh fun _ => (kru L ((ordW (w ⟨⟩) L.length).take p.1)).2)]⟩)
    (fun p => p.1 ≤ L.length ∧ p.2.length = (g ⟨⟩).length + 1 ∧ ∃ dp, Forest p.2 (rtOf (kru L ((ordW (w ⟨⟩) L.length).take p.1)).1) dp) (fun p => L.length - p.1) (0, forest0 (g ⟨⟩).length) ⟨Nat.zero_le _, by simp [forest0], _, Forest.start ((g ⟨⟩).length + 1)⟩ ?_ ?_
  · cbv
    repeat' first | refine And.intro ?_ ?_ | exact trivial | exact Side.mk rfl | exact REq.sl rfl | exact DEq.mk rfl | exact REq.sl hord | exact Side.mk e2 | exact Side.mk e3
  rintro ⟨k, f⟩ ⟨hk, hf, dp, hF⟩
  simp only at hk hf hF
  have hkl1 := hkl k
  repeat' first
    | (refine VIf.mk' ?_ ?_ <;> intro _)
    | (refine LenB.mk ?_; intro _)
    | refine And.intro ?_ ?_
    | exact trivial
    | refine Stop.mk ?_
    | exact ShEq.sl
    | ((fail_if_success refine Side.mk ?_); (fail_if_success refine Exists.intro ?_ ?_); (fail_if_success refine VLoop.mk ?_); (fail_if_success refine VCut.mk ?_); (fail_if_success refine REq.sl ?_); (fail_if_success refine Same.mk ?_); (fail_if_success refine DEq.mk ?_); (fail_if_success refine VCall.mk ?_); (fail_if_success refine SReg.go ?_); (fail_if_success refine QCall.mk ?_); (fail_if_success refine Dec.mk ?_); (fail_if_success show False); (fail_if_success show _ = _); cbv)
  all_goals try simp only [ncast, decide_eq_true_eq, decide_eq_false_iff_not, Decidable.not_not, Bool.not_eq_true', Bool.not_eq_false', cond_t, cond_f, toNat_cast] at *
  all_goals try (first | exact Side.mk (i64 (by (try simp only [ncast] at *); omega)) | exact Side.mk (u64 (by (try simp only [ncast] at *); omega)) | exact Side.mk (by (try simp only [ncast] at *); refine ⟨?_, ?_, u64 ?_⟩ <;> first | trivial | omega) | exact Side.mk (by (try simp only [ncast] at *); (try simp only [List.length_set, List.length_cons, List.length_nil, List.length_append, hol]); omega))
  · rename_i hlt
    replace hlt : k < L.length := by omega
    have := hat k hlt
    exact Side.mk (by omega)
  · rename_i hlt
    replace hlt : k < L.length := by (try simp only [ncast, decide_eq_true_eq] at hlt); omega
    obtain ⟨hx0, hxn⟩ := hat k hlt
    have hxm := hrng _ (getD_memL (0, 0) (show ((ordW (w ⟨⟩) L.length).getD k 0).toNat < L.length by omega))
    have hstep := hkt k hlt
    obtain ⟨F', dp', u1, u2, u3⟩ := unite_ok (fun _ => f) (fun _ => (L.getD ((ordW (w ⟨⟩) L.length).getD k 0).toNat (0, 0)).1) (fun _ => (L.getD ((ordW (w ⟨⟩) L.length).getD k 0).toNat (0, 0)).2) _ _ _ dp hF ⟨by omega, rfl⟩ ⟨by omega, rfl⟩ (by omega) (by omega) (by omega)
    refine VCall.mk' (.mk u3) (.inl rfl) ?_
    have hsn : sh (L.getD ((ordW (w ⟨⟩) L.length).getD k 0).toNat (0, 0)) = (((L.getD ((ordW (w ⟨⟩) L.length).getD k 0).toNat (0, 0)).1 + 1).toNat, ((L.getD ((ordW (w ⟨⟩) L.length).getD k 0).toNat (0, 0)).2 + 1).toNat) := rfl
    have hks : kstep L (kru L ((ordW (w ⟨⟩) L.length).take k)) ((ordW (w ⟨⟩) L.length).getD k 0) = kru L ((ordW (w ⟨⟩) L.length).take (k + 1)) := hstep.symm
    unfold kstep at hks
    rw [hsn] at hks
    simp only at hks u2
    repeat' first
      | (refine VIf.mk' ?_ ?_ <;> intro _)
      | (refine LenB.mk ?_; intro _)
      | refine And.intro ?_ ?_
      | exact trivial
      | refine Stop.mk ?_
      | exact ShEq.sl
      | refine Dec.mk ⟨[_], rfl, ?_⟩
      | refine Same.mk ⟨[_], rfl, ?_⟩
      | ((fail_if_success refine Side.mk ?_); (fail_if_success refine Exists.intro ?_ ?_); (fail_if_success refine VLoop.mk ?_); (fail_if_success refine VCut.mk ?_); (fail_if_success refine REq.sl ?_); (fail_if_success refine Same.mk ?_); (fail_if_success refine DEq.mk ?_); (fail_if_success refine VCall.mk ?_); (fail_if_success refine SReg.go ?_); (fail_if_success refine QCall.mk ?_); (fail_if_success refine Dec.mk ?_); (fail_if_success show False); (fail_if_success show _ = _); cbv)
    all_goals try simp only [ncast, decide_eq_true_eq, decide_eq_false_iff_not, Decidable.not_not, Bool.not_eq_true', Bool.not_eq_false', cond_t, cond_f, toNat_cast] at *
    all_goals try (first | exact Side.mk (i64 (by (try simp only [ncast] at *); omega)) | exact Side.mk (u64 (by (try simp only [ncast] at *); omega)) | exact Side.mk (by (try simp only [ncast] at *); refine ⟨?_, ?_, u64 ?_⟩ <;> first | trivial | omega) | exact Side.mk (by (try simp only [ncast] at *); (try simp only [List.length_set, List.length_cons, List.length_nil, List.length_append]); omega))
    · rename_i hc
      rw [if_pos hc] at hks
      rw [mrg_same hc] at u2
      have e1 : (kru L ((ordW (w ⟨⟩) L.length).take k)).2 ++ [(ordW (w ⟨⟩) L.length).getD k 0] = (kru L ((ordW (w ⟨⟩) L.length).take (k + 1))).2 := by rw [← hks]
      refine ⟨(k + 1, F'), ⟨by simp only; omega, by simp only; omega, dp', by simp only; rw [← hks]; exact u2⟩, by simp only; omega, ?_⟩
      cbv
      repeat' first | refine And.intro ?_ ?_ | exact trivial | exact Side.mk rfl | exact REq.sl rfl | exact DEq.mk rfl | exact REq.sl e1
    · rename_i hc
      rw [if_neg hc] at hks
      have e1 : (kru L ((ordW (w ⟨⟩) L.length).take k)).2 = (kru L ((ordW (w ⟨⟩) L.length).take (k + 1))).2 := by rw [← hks]
      refine ⟨(k + 1, F'), ⟨by simp only; omega, by simp only; omega, dp', by simp only; rw [← hks, rtOf_snoc]; exact u2⟩, by simp only; omega, ?_⟩
      cbv
      repeat' first | refine And.intro ?_ ?_ | exact trivial | exact Side.mk rfl | exact REq.sl rfl | exact DEq.mk rfl | exact REq.sl e1
  · rename_i hge
    obtain rfl : k = L.length := by (try simp only [ncast, decide_eq_false_iff_not] at hge); omega
    refine VCall.mk' (.mk (sort_ok _ ?_)) (.inl rfl) ?_
    · show (kru L ((ordW (w ⟨⟩) L.length).take L.length)).2.length < _
      omega
    have e1 : (kru L ((ordW (w ⟨⟩) L.length).take L.length)).2.mergeSort (fun x y => decide (x ≤ y)) = placeL (g ⟨⟩) (e ⟨⟩) (w ⟨⟩) := by
      rw [hpl, List.take_of_length_le (by omega)]; rfl
    repeat' first
      | (refine VIf.mk' ?_ ?_ <;> intro _)
      | (refine LenB.mk ?_; intro _)
      | refine And.intro ?_ ?_
      | exact trivial
      | refine Stop.mk ?_
      | exact ShEq.sl
      | ((fail_if_success refine Side.mk ?_); (fail_if_success refine Exists.intro ?_ ?_); (fail_if_success refine VLoop.mk ?_); (fail_if_success refine VCut.mk ?_); (fail_if_success refine REq.sl ?_); (fail_if_success refine Same.mk ?_); (fail_if_success refine DEq.mk ?_); (fail_if_success refine VCall.mk ?_); (fail_if_success refine SReg.go ?_); (fail_if_success refine QCall.mk ?_); (fail_if_success refine Dec.mk ?_); (fail_if_success show False); (fail_if_success show _ = _); cbv)
    · exact DEq.mk (congrArg ints (funext fun _ => e1))
    · exact Side.mk (by rw [hpf, (wtF_good h2).1])
    · exact Side.mk (by rw [hpf, (wtF_good h2).1])
end Go.Eng
