/- The contract of SortStableFunc. -/
import Derived.Test.YtmbodncejejceaaCS3
set_option linter.all false

namespace Go.Eng
open Go.Proofs
attribute [local irreducible] vc vops gop step fins fin finP cov covEnv covRows softs qop hop

set_option maxHeartbeats 2000000 in
theorem stable_ok (w : Th (List Int)) {P : Int → Int → Prop} {F : Int → Int → Int} {key : Int → Int} (hc : Cmp66 P F w) (hF : CmpF P F key) (xs : Th (List Int)) (n : Th Int) (N : Nat) (h : Side fun _ => 0 ≤ n ⟨⟩ ∧ (n ⟨⟩).toNat = N ∧ (xs ⟨⟩).length = N ∧ N ≤ 1000000 ∧ Pw P (xs ⟨⟩)) :
    GCall Try.prog 91 [.row (.sl intSh xs), .d (num n), .d (.fn 66 [.box [ints w]])] (.tup []) [.sl intSh fun _ => sortK key (xs ⟨⟩)] := by
  obtain ⟨hn0, hn, hl, h4, hP⟩ := h.h
  clear h
  refine g91 (tabOK 1 ms) rfl (Nat.le_of_ble_eq_true rfl) rfl ?_
  repeat' first
    | (refine VIf.mk' ?_ ?_ <;> intro _)
    | (refine LenB.mk ?_; intro _)
    | refine And.intro ?_ ?_
    | exact trivial
    | refine Stop.mk ?_
    | exact ShEq.sl
    | ((fail_if_success refine Side.mk ?_); (fail_if_success refine Exists.intro ?_ ?_); (fail_if_success refine VLoop.mk ?_); (fail_if_success refine VCut.mk ?_); (fail_if_success refine REq.sl ?_); (fail_if_success refine Same.mk ?_); (fail_if_success refine DEq.mk ?_); (fail_if_success refine VCall.mk ?_); (fail_if_success refine SReg.go ?_); (fail_if_success refine QCall.mk ?_); (fail_if_success refine Dec.mk ?_); (fail_if_success show False); (fail_if_success show _ = _); cbv)
  refine VLoop.inv (ι := Nat × List Int) (fun p => ⟨[(0, .own 0), (1, .d (num n)), (2, .d (.fn 66 [.box [ints w]])), (6, .d (num fun _ => 20)), (7, .d (num fun _ => (p.1 * 20 : Nat))), (8, .d (num fun _ => (p.1 * 20 + 20 : Nat)))], [(0, .sl intSh fun _ => p.2)]⟩)
    (fun p => Blks key 0 (xs ⟨⟩) p.2 N 20 p.1 ∧ p.1 * 20 ≤ N) (fun p => N - p.1 * 20) (0, xs ⟨⟩) ⟨Blks.zero _ _ _ rfl (SP.refl _), by simp only; omega⟩ ?_ ?_
  · cbv
    repeat' first | refine And.intro ?_ ?_ | exact trivial | exact Side.mk rfl | exact REq.sl rfl | exact DEq.mk rfl | exact Side.mk (by (try simp only [ncast] at *); omega)
  rintro ⟨t, ys⟩ ⟨hB, ht⟩
  simp only at hB ht
  have hyl := hB.len
  repeat' first
    | (refine VIf.mk' ?_ ?_ <;> intro _)
    | (refine LenB.mk ?_; intro _)
    | refine And.intro ?_ ?_
    | exact trivial
    | refine Stop.mk ?_
    | exact ShEq.sl
    | ((fail_if_success refine Side.mk ?_); (fail_if_success refine Exists.intro ?_ ?_); (fail_if_success refine VLoop.mk ?_); (fail_if_success refine VCut.mk ?_); (fail_if_success refine REq.sl ?_); (fail_if_success refine Same.mk ?_); (fail_if_success refine DEq.mk ?_); (fail_if_success refine VCall.mk ?_); (fail_if_success refine SReg.go ?_); (fail_if_success refine QCall.mk ?_); (fail_if_success refine Dec.mk ?_); (fail_if_success show False); (fail_if_success show _ = _); cbv)
  · rename_i hle
    replace hle : t * 20 + 20 ≤ N := by simp only [ncast, decide_eq_true_eq] at hle; omega
    refine VCall.mk' (.mk (ins_ok w _ _ _ (t * 20) (t * 20 + 20) hc hF ?_)) (.inl rfl) ?_
    · exact Side.mk ⟨rfl, rfl, by omega, by simp only; omega, by simp only; omega, hP.perm hB.sp.perm⟩
    repeat' first
      | (refine VIf.mk' ?_ ?_ <;> intro _)
      | (refine LenB.mk ?_; intro _)
      | refine And.intro ?_ ?_
      | exact trivial
      | refine Stop.mk ?_
      | exact ShEq.sl
      | ((fail_if_success refine Side.mk ?_); (fail_if_success refine Exists.intro ?_ ?_); (fail_if_success refine VLoop.mk ?_); (fail_if_success refine VCut.mk ?_); (fail_if_success refine REq.sl ?_); (fail_if_success refine Same.mk ?_); (fail_if_success refine DEq.mk ?_); (fail_if_success refine VCall.mk ?_); (fail_if_success refine SReg.go ?_); (fail_if_success refine QCall.mk ?_); (fail_if_success refine Dec.mk ?_); (fail_if_success show False); (fail_if_success show _ = _); cbv)
    all_goals try (first | exact Side.mk (i64 (by (try simp only [ncast] at *); omega)) | exact Side.mk (u64 (by (try simp only [ncast] at *); omega)) | exact Side.mk (by (try simp only [ncast] at *); refine ⟨?_, ?_, u64 ?_⟩ <;> first | trivial | omega) | exact Side.mk (by (try simp only [ncast] at *); (try simp only [List.length_set, List.length_cons, List.length_nil, List.length_append]); omega))
    refine ⟨(t + 1, ssort key (t * 20) (t * 20 + 20) ys), ⟨hB.step (by omega), by simp only; omega⟩, by simp only; omega, ?_⟩
    cbv
    repeat' first | refine And.intro ?_ ?_ | exact trivial | exact Side.mk rfl | exact REq.sl rfl | exact DEq.mk rfl | exact Side.mk (by (try simp only [ncast] at *); omega)
  rename_i hgt
  replace hgt : N < t * 20 + 20 := by simp only [ncast, decide_eq_false_iff_not] at hgt; omega
  refine VCall.mk' (.mk (ins_ok w _ _ _ (t * 20) N hc hF ?_)) (.inl rfl) ?_
  · exact Side.mk ⟨rfl, by omega, by omega, by simp only; omega, by simp only; omega, hP.perm hB.sp.perm⟩
  repeat' first
    | (refine VIf.mk' ?_ ?_ <;> intro _)
    | (refine LenB.mk ?_; intro _)
    | refine And.intro ?_ ?_
    | exact trivial
    | refine Stop.mk ?_
    | exact ShEq.sl
    | ((fail_if_success refine Side.mk ?_); (fail_if_success refine Exists.intro ?_ ?_); (fail_if_success refine VLoop.mk ?_); (fail_if_success refine VCut.mk ?_); (fail_if_success refine REq.sl ?_); (fail_if_success refine Same.mk ?_); (fail_if_success refine DEq.mk ?_); (fail_if_success refine VCall.mk ?_); (fail_if_success refine SReg.go ?_); (fail_if_success refine QCall.mk ?_); (fail_if_success refine Dec.mk ?_); (fail_if_success show False); (fail_if_success show _ = _); cbv)
  obtain ⟨z1, z2, z3⟩ := hB.last (by omega) ht hgt
  generalize ssort key (t * 20) N ys = zs at *
  clear hB ht hyl hgt
  -- the rounds
  refine VLoop.inv (ι := Nat × List Int) (fun p => ⟨[(0, .own 0), (1, .d (num n)), (2, .d (.fn 66 [.box [ints w]])), (6, .d (num fun _ => p.1))], [(0, .sl intSh fun _ => p.2)]⟩)
    (fun p => 0 < p.1 ∧ p.2.length = N ∧ SP key (xs ⟨⟩) p.2 ∧ AllB key 0 p.2 N p.1 0) (fun p => N - p.1) (20, zs) ⟨by simp only; omega, by simp only; omega, z2, z3⟩ ?_ ?_
  · cbv
    repeat' first | refine And.intro ?_ ?_ | exact trivial | exact Side.mk rfl | exact REq.sl rfl | exact DEq.mk rfl | exact Side.mk (by (try simp only [ncast] at *); omega)
  rintro ⟨c, ys⟩ ⟨hc0, hyl, hys, hyb⟩
  simp only at hc0 hyl hys hyb
  clear z1 z2 z3
  repeat' first
    | (refine VIf.mk' ?_ ?_ <;> intro _)
    | (refine LenB.mk ?_; intro _)
    | refine And.intro ?_ ?_
    | exact trivial
    | refine Stop.mk ?_
    | exact ShEq.sl
    | ((fail_if_success refine Side.mk ?_); (fail_if_success refine Exists.intro ?_ ?_); (fail_if_success refine VLoop.mk ?_); (fail_if_success refine VCut.mk ?_); (fail_if_success refine REq.sl ?_); (fail_if_success refine Same.mk ?_); (fail_if_success refine DEq.mk ?_); (fail_if_success refine VCall.mk ?_); (fail_if_success refine SReg.go ?_); (fail_if_success refine QCall.mk ?_); (fail_if_success refine Dec.mk ?_); (fail_if_success show False); (fail_if_success show _ = _); cbv)
  all_goals try simp only [ncast, decide_eq_true_eq, decide_eq_false_iff_not, Decidable.not_not, Bool.not_eq_true', Bool.not_eq_false', cond_t, cond_f, toNat_cast] at *
  all_goals try (first | exact Side.mk (i64 (by (try simp only [ncast] at *); omega)) | exact Side.mk (u64 (by (try simp only [ncast] at *); omega)) | exact Side.mk (by (try simp only [ncast] at *); refine ⟨?_, ?_, u64 ?_⟩ <;> first | trivial | omega) | exact Side.mk (by (try simp only [ncast] at *); (try simp only [List.length_set, List.length_cons, List.length_nil, List.length_append]); omega))
  · rename_i hlt
    replace hlt : c < N := by omega
    refine VLoop.inv (ι := Nat × Nat × List Int) (fun p => ⟨[(0, .own 0), (1, .d (num n)), (2, .d (.fn 66 [.box [ints w]])), (6, .d (num fun _ => c)), (7, .d (num fun _ => p.2.1)), (8, .d (num fun _ => (p.2.1 + 2 * c : Nat)))], [(0, .sl intSh fun _ => p.2.2)]⟩)
      (fun p => p.2.1 = p.1 * (2 * c) ∧ p.2.1 ≤ N ∧ Blks key 0 (xs ⟨⟩) p.2.2 N (2 * c) p.1 ∧ AllB key 0 p.2.2 N c p.2.1) (fun p => N - p.2.1) (0, 0, ys) ⟨by simp, Nat.zero_le _, Blks.zero _ _ _ (by simp only; omega) hys, hyb⟩ ?_ ?_
    · cbv
      repeat' first | refine And.intro ?_ ?_ | exact trivial | exact Side.mk rfl | exact REq.sl rfl | exact DEq.mk rfl | exact Side.mk (by (try simp only [ncast] at *); omega)
    rintro ⟨t, A, zs⟩ ⟨hA, hAN, hB, hR⟩
    simp only at hA hAN hB hR
    have hzl := hB.len
    have hzP : Pw P zs := hP.perm hB.sp.perm
    have hR' := hR
    rw [hA] at hR'
    have hL1 := hR'.left
    have hL2 := hR'.right
    have hstep := hB.step
    have hlast := hB.last
    have hskip := hB.skip hR'
    rw [← hA] at hL1 hL2 hstep hlast hskip
    repeat' first
      | (refine VIf.mk' ?_ ?_ <;> intro _)
      | (refine LenB.mk ?_; intro _)
      | refine And.intro ?_ ?_
      | exact trivial
      | refine Stop.mk ?_
      | exact ShEq.sl
      | ((fail_if_success refine Side.mk ?_); (fail_if_success refine Exists.intro ?_ ?_); (fail_if_success refine VLoop.mk ?_); (fail_if_success refine VCut.mk ?_); (fail_if_success refine REq.sl ?_); (fail_if_success refine Same.mk ?_); (fail_if_success refine DEq.mk ?_); (fail_if_success refine VCall.mk ?_); (fail_if_success refine SReg.go ?_); (fail_if_success refine QCall.mk ?_); (fail_if_success refine Dec.mk ?_); (fail_if_success show False); (fail_if_success show _ = _); cbv)
    all_goals try (first | exact Side.mk (i64 (by (try simp only [ncast] at *); omega)) | exact Side.mk (u64 (by (try simp only [ncast] at *); omega)) | exact Side.mk (by (try simp only [ncast] at *); refine ⟨?_, ?_, u64 ?_⟩ <;> first | trivial | omega) | exact Side.mk (by (try simp only [ncast] at *); (try simp only [List.length_set, List.length_cons, List.length_nil, List.length_append]); omega))
    · rename_i hle
      replace hle : A + 2 * c ≤ N := by simp only [ncast, decide_eq_true_eq] at hle; omega
      rw [Nat.min_eq_left (by omega)] at hL1 hL2
      refine VCall.mk' (.mk (sym_ok w hc hF 1000000 _ _ _ _ A (A + c) (A + 2 * c) ?_)) (.inl rfl) ?_
      · exact Side.mk (by simp only [ncast]; exact ⟨by omega, by omega, by omega, by omega, by omega, by omega, by omega, by omega, hzP, hL1, hL2⟩)
      repeat' first
        | (refine VIf.mk' ?_ ?_ <;> intro _)
        | (refine LenB.mk ?_; intro _)
        | refine And.intro ?_ ?_
        | exact trivial
        | refine Stop.mk ?_
        | exact ShEq.sl
        | ((fail_if_success refine Side.mk ?_); (fail_if_success refine Exists.intro ?_ ?_); (fail_if_success refine VLoop.mk ?_); (fail_if_success refine VCut.mk ?_); (fail_if_success refine REq.sl ?_); (fail_if_success refine Same.mk ?_); (fail_if_success refine DEq.mk ?_); (fail_if_success refine VCall.mk ?_); (fail_if_success refine SReg.go ?_); (fail_if_success refine QCall.mk ?_); (fail_if_success refine Dec.mk ?_); (fail_if_success show False); (fail_if_success show _ = _); cbv)
      all_goals try (first | exact Side.mk (i64 (by (try simp only [ncast] at *); omega)) | exact Side.mk (u64 (by (try simp only [ncast] at *); omega)) | exact Side.mk (by (try simp only [ncast] at *); refine ⟨?_, ?_, u64 ?_⟩ <;> first | trivial | omega) | exact Side.mk (by (try simp only [ncast] at *); (try simp only [List.length_set, List.length_cons, List.length_nil, List.length_append]); omega))
      refine ⟨(t + 1, A + 2 * c, ssort key A (A + 2 * c) zs), ⟨by simp only; rw [hA, Nat.add_mul, Nat.one_mul], by simp only; omega, hstep (by omega), hR.out (by omega) (by omega) (by omega)⟩, by simp only; omega, ?_⟩
      cbv
      repeat' first | refine And.intro ?_ ?_ | exact trivial | exact Side.mk rfl | exact REq.sl rfl | exact DEq.mk rfl | exact Side.mk (by (try simp only [ncast] at *); omega)
    · rename_i hgt hm
      replace hgt : N < A + 2 * c := by simp only [ncast, decide_eq_false_iff_not] at hgt; omega
      replace hm : A + c < N := by simp only [ncast, decide_eq_true_eq] at hm; omega
      rw [Nat.min_eq_left (by omega)] at hL1
      rw [Nat.min_eq_right (by omega)] at hL2
      refine VCall.mk' (.mk (sym_ok w hc hF 1000000 _ _ _ _ A (A + c) N ?_)) (.inl rfl) ?_
      · exact Side.mk (by simp only [ncast]; exact ⟨by omega, by omega, by omega, by omega, by omega, by omega, by omega, by omega, hzP, hL1, hL2⟩)
      repeat' first
        | (refine VIf.mk' ?_ ?_ <;> intro _)
        | (refine LenB.mk ?_; intro _)
        | refine And.intro ?_ ?_
        | exact trivial
        | refine Stop.mk ?_
        | exact ShEq.sl
        | ((fail_if_success refine Side.mk ?_); (fail_if_success refine Exists.intro ?_ ?_); (fail_if_success refine VLoop.mk ?_); (fail_if_success refine VCut.mk ?_); (fail_if_success refine REq.sl ?_); (fail_if_success refine Same.mk ?_); (fail_if_success refine DEq.mk ?_); (fail_if_success refine VCall.mk ?_); (fail_if_success refine SReg.go ?_); (fail_if_success refine QCall.mk ?_); (fail_if_success refine Dec.mk ?_); (fail_if_success show False); (fail_if_success show _ = _); cbv)
      all_goals try (first | exact Side.mk (i64 (by (try simp only [ncast] at *); omega)) | exact Side.mk (u64 (by (try simp only [ncast] at *); omega)) | exact Side.mk (by (try simp only [ncast] at *); refine ⟨?_, ?_, u64 ?_⟩ <;> first | trivial | omega) | exact Side.mk (by (try simp only [ncast] at *); (try simp only [List.length_set, List.length_cons, List.length_nil, List.length_append]); omega))
      obtain ⟨y1, y2, y3⟩ := hlast (by omega) hAN hgt
      refine ⟨(2 * c, ssort key A N zs), ⟨by simp only; omega, by simp only; omega, y2, y3⟩, by simp only; omega, ?_⟩
      cbv
      repeat' first | refine And.intro ?_ ?_ | exact trivial | exact Side.mk rfl | exact REq.sl rfl | exact DEq.mk rfl | exact Side.mk (by (try simp only [ncast] at *); omega)
    · rename_i hgt hm
      replace hgt : N < A + 2 * c := by simp only [ncast, decide_eq_false_iff_not] at hgt; omega
      replace hm : N ≤ A + c := by simp only [ncast, decide_eq_false_iff_not] at hm; omega
      refine ⟨(2 * c, zs), ⟨by simp only; omega, by simp only; omega, hB.sp, hskip hm⟩, by simp only; omega, ?_⟩
      cbv
      repeat' first | refine And.intro ?_ ?_ | exact trivial | exact Side.mk rfl | exact REq.sl rfl | exact DEq.mk rfl | exact Side.mk (by (try simp only [ncast] at *); omega)
  · rename_i hge
    exact REq.sl (hyb.done (by omega) hyl hys)

theorem sortStable_ok (w : Th (List Int)) {P : Int → Int → Prop} {F : Int → Int → Int} {key : Int → Int} (hc : Cmp66 P F w) (hF : CmpF P F key) (xs : Th (List Int)) (h : Side fun _ => (xs ⟨⟩).length ≤ 1000000 ∧ Pw P (xs ⟨⟩)) :
    GCall Try.prog 65 [.row (.sl intSh xs), .d (.fn 66 [.box [ints w]])] (.tup []) [.sl intSh fun _ => sortK key (xs ⟨⟩)] := by
  obtain ⟨h4, hP⟩ := h.h
  clear h
  refine g65 (tabOK 1 ms) rfl (Nat.le_of_ble_eq_true rfl) rfl ?_
  repeat' first
    | (refine VIf.mk' ?_ ?_ <;> intro _)
    | (refine LenB.mk ?_; intro _)
    | refine And.intro ?_ ?_
    | exact trivial
    | refine Stop.mk ?_
    | exact ShEq.sl
    | ((fail_if_success refine Side.mk ?_); (fail_if_success refine Exists.intro ?_ ?_); (fail_if_success refine VLoop.mk ?_); (fail_if_success refine VCut.mk ?_); (fail_if_success refine REq.sl ?_); (fail_if_success refine Same.mk ?_); (fail_if_success refine DEq.mk ?_); (fail_if_success refine VCall.mk ?_); (fail_if_success refine SReg.go ?_); (fail_if_success refine QCall.mk ?_); (fail_if_success refine Dec.mk ?_); (fail_if_success show False); (fail_if_success show _ = _); cbv)
  refine VCall.mk' (.mk (stable_ok w hc hF _ _ (xs ⟨⟩).length ?_)) (.inl rfl) ?_
  · exact Side.mk ⟨by (try simp only [ncast]); omega, by (try simp only [ncast]); omega, rfl, h4, hP⟩
  repeat' first
    | (refine VIf.mk' ?_ ?_ <;> intro _)
    | (refine LenB.mk ?_; intro _)
    | refine And.intro ?_ ?_
    | exact trivial
    | refine Stop.mk ?_
    | exact ShEq.sl
    | ((fail_if_success refine Side.mk ?_); (fail_if_success refine Exists.intro ?_ ?_); (fail_if_success refine VLoop.mk ?_); (fail_if_success refine VCut.mk ?_); (fail_if_success refine REq.sl ?_); (fail_if_success refine Same.mk ?_); (fail_if_success refine DEq.mk ?_); (fail_if_success refine VCall.mk ?_); (fail_if_success refine SReg.go ?_); (fail_if_success refine QCall.mk ?_); (fail_if_success refine Dec.mk ?_); (fail_if_success show False); (fail_if_success show _ = _); cbv)
  exact REq.sl rfl
end Go.Eng
