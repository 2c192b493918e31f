/- Contracts of the stable sort's parts: the merge. -/
import Derived.Test.YtmbodncejejceaaCS2
set_option linter.all false

namespace Go.Eng
open Go.Proofs
attribute [local irreducible] vc vops gop step fins fin finP cov covEnv covRows softs qop hop

structure SymPre (P : Int → Int → Prop) (key : Int → Int) (xs : List Int) (a m b : Int) (A M B k : Nat) : Prop where
  a0 : 0 ≤ a ∧ a.toNat = A
  m0 : 0 ≤ m ∧ m.toNat = M
  b0 : 0 ≤ b ∧ b.toNat = B
  am : A < M
  mb : M < B
  bl : B ≤ xs.length
  ll : xs.length ≤ 1000000
  k0 : B - A ≤ k
  pw : Pw P xs
  s1 : Srt key 0 xs A M
  s2 : Srt key 0 xs M B

set_option maxHeartbeats 2000000 in
theorem sym_ok (w : Th (List Int)) {P : Int → Int → Prop} {F : Int → Int → Int} {key : Int → Int} (hc : Cmp66 P F w) (hF : CmpF P F key) : ∀ (k : Nat) (xs : Th (List Int)) (a m b : Th Int) (A M B : Nat), (Side fun _ => SymPre P key (xs ⟨⟩) (a ⟨⟩) (m ⟨⟩) (b ⟨⟩) A M B k) →
    GCall Try.prog 105 [.row (.sl intSh xs), .d (num a), .d (num m), .d (num b), .d (.fn 66 [.box [ints w]])] (.tup []) [.sl intSh fun _ => ssort key A B (xs ⟨⟩)] := by
  intro k
  induction k with
  | zero => intro xs a m b A M B h; obtain ⟨_, _, _, h1, h2, _, _, h3, _, _, _⟩ := h.h; omega
  | succ k ih =>
  intro xs a m b A M B h
  obtain ⟨ha, hm, hb, h1, h2, h3, h4, h5, hP, hs1, hs2⟩ := h.h
  clear h
  have hat : ∀ p q, p < (xs ⟨⟩).length → q < (xs ⟨⟩).length → p ≠ q → P ((xs ⟨⟩).getD p 0) ((xs ⟨⟩).getD q 0) := fun p q hp hq hne => hP.at hp hq hne
  refine g105 (tabOK 1 ms) rfl (Nat.le_of_ble_eq_true rfl) rfl ?_
  repeat' first
    | (refine VIf.mk' ?_ ?_ <;> intro _)
    | (refine LenB.mk ?_; intro _)
    | refine And.intro ?_ ?_
    | exact trivial
    | refine Stop.mk ?_
    | exact ShEq.sl
    | ((fail_if_success refine Side.mk ?_); (fail_if_success refine Exists.intro ?_ ?_); (fail_if_success refine VLoop.mk ?_); (fail_if_success refine VCut.mk ?_); (fail_if_success refine REq.sl ?_); (fail_if_success refine Same.mk ?_); (fail_if_success refine DEq.mk ?_); (fail_if_success refine VCall.mk ?_); (fail_if_success refine SReg.go ?_); (fail_if_success refine QCall.mk ?_); (fail_if_success refine Dec.mk ?_); (fail_if_success show False); (fail_if_success show _ = _); cbv)
  all_goals try (first | exact Side.mk (i64 (by (try simp only [ncast] at *); omega)) | exact Side.mk (u64 (by (try simp only [ncast] at *); omega)) | exact Side.mk (by (try simp only [ncast] at *); refine ⟨?_, ?_, u64 ?_⟩ <;> first | trivial | omega) | exact Side.mk (by (try simp only [ncast] at *); (try simp only [List.length_set, List.length_cons, List.length_nil, List.length_append]); omega))
  · -- one element on the left
    rename_i hM
    simp only [ncast, decide_eq_true_eq] at hM
    obtain rfl : M = A + 1 := by omega
    clear hM
    refine VLoop.inv (ι := Nat × Nat) (fun p => ⟨[(0, .own 0), (1, .d (num a)), (4, .d (.fn 66 [.box [ints w]])), (10, .d (num fun _ => p.1)), (11, .d (num fun _ => p.2))], [(0, .sl intSh xs)]⟩)
      (fun p => BinA key 0 (xs ⟨⟩) A (A + 1) B p.1 p.2) (fun p => p.2 - p.1) (A + 1, B) (BinA.start (by omega)) ?_ ?_
    · cbv
      repeat' first | refine And.intro ?_ ?_ | exact trivial | exact Side.mk rfl | exact REq.sl rfl | exact DEq.mk rfl | exact Side.mk (by (try simp only [ncast] at *); omega)
    rintro ⟨i, j⟩ hB
    simp only at hB
    have hi := hB.mi
    have hij := hB.ij
    have hj := hB.jb
    repeat' first
      | (refine VIf.mk' ?_ ?_ <;> intro _)
      | (refine LenB.mk ?_; intro _)
      | refine And.intro ?_ ?_
      | exact trivial
      | refine Stop.mk ?_
      | exact ShEq.sl
      | refine VCall.mk' (.mk (hc _ _ ?_)) (.inl rfl) ?_
      | ((fail_if_success refine Side.mk ?_); (fail_if_success refine Exists.intro ?_ ?_); (fail_if_success refine VLoop.mk ?_); (fail_if_success refine VCut.mk ?_); (fail_if_success refine REq.sl ?_); (fail_if_success refine Same.mk ?_); (fail_if_success refine DEq.mk ?_); (fail_if_success refine VCall.mk ?_); (fail_if_success refine SReg.go ?_); (fail_if_success refine QCall.mk ?_); (fail_if_success refine Dec.mk ?_); (fail_if_success show False); (fail_if_success show _ = _); cbv)
    all_goals try simp only [ncast, decide_eq_true_eq, decide_eq_false_iff_not, Decidable.not_not, Bool.not_eq_true', Bool.not_eq_false', cond_t, cond_f, toNat_cast] at *
    all_goals try (first | exact Side.mk (i64 (by (try simp only [ncast] at *); omega)) | exact Side.mk (u64 (by (try simp only [ncast] at *); omega)) | exact Side.mk (by (try simp only [ncast] at *); refine ⟨?_, ?_, u64 ?_⟩ <;> first | trivial | omega) | exact Side.mk (by (try simp only [ncast] at *); (try simp only [List.length_set, List.length_cons, List.length_nil, List.length_append]); omega))
    · rename_i hlt
      have e1 : (((i : Int) + j) / 2).toNat = (i + j) / 2 := by omega
      refine Side.mk ?_
      rw [e1, ha.2]
      exact hat _ _ (by omega) (by omega) (by omega)
    · rename_i hlt hk
      have e1 : (((i : Int) + j) / 2).toNat = (i + j) / 2 := by omega
      rw [e1, ha.2] at hk
      have hk := (hF.neg _ _ (hat ((i + j) / 2) A (by omega) (by omega) (by omega))).1 hk
      refine ⟨((i + j) / 2 + 1, j), hB.up (h := (i + j) / 2) hs2 (by omega) (by omega) hk, by simp only; omega, ?_⟩
      cbv
      repeat' (first | refine And.intro ?_ ?_ | exact trivial | exact Side.mk rfl | exact REq.sl rfl | exact DEq.mk rfl | exact Side.mk (by (try simp only [ncast] at *); omega))
    · rename_i hlt hk
      have e1 : (((i : Int) + j) / 2).toNat = (i + j) / 2 := by omega
      rw [e1, ha.2] at hk
      have hk2 := hF.neg _ _ (hat ((i + j) / 2) A (by omega) (by omega) (by omega))
      refine ⟨(i, (i + j) / 2), hB.down (h := (i + j) / 2) hs2 (by omega) (by omega) (by omega), by simp only; omega, ?_⟩
      cbv
      repeat' (first | refine And.intro ?_ ?_ | exact trivial | exact Side.mk rfl | exact REq.sl rfl | exact DEq.mk rfl | exact Side.mk (by (try simp only [ncast] at *); omega))
    · rename_i hge
      obtain rfl : i = j := by omega
      clear hge
      refine VLoop.inv (ι := Nat × List Int) (fun p => ⟨[(0, .own 0), (10, .d (num fun _ => i)), (13, .d (num fun _ => p.1))], [(0, .sl intSh fun _ => p.2)]⟩)
        (fun p => A ≤ p.1 ∧ p.1 < i ∧ Up key 0 (xs ⟨⟩) p.2 A p.1) (fun p => i - p.1) (A, xs ⟨⟩) ⟨Nat.le_refl _, by simp only; omega, Up.start _ _⟩ ?_ ?_
      · cbv
        repeat' first | refine And.intro ?_ ?_ | exact trivial | exact Side.mk rfl | exact REq.sl rfl | exact DEq.mk rfl | exact Side.mk (by (try simp only [ncast] at *); omega)
      rintro ⟨q, ys⟩ ⟨hq1, hq2, hU⟩
      simp only at hq1 hq2 hU
      have hyl := hU.len
      repeat' first
        | (refine VIf.mk' ?_ ?_ <;> intro _)
        | (refine LenB.mk ?_; intro _)
        | refine And.intro ?_ ?_
        | exact trivial
        | refine Stop.mk ?_
        | exact ShEq.sl
        | ((fail_if_success refine Side.mk ?_); (fail_if_success refine Exists.intro ?_ ?_); (fail_if_success refine VLoop.mk ?_); (fail_if_success refine VCut.mk ?_); (fail_if_success refine REq.sl ?_); (fail_if_success refine Same.mk ?_); (fail_if_success refine DEq.mk ?_); (fail_if_success refine VCall.mk ?_); (fail_if_success refine SReg.go ?_); (fail_if_success refine QCall.mk ?_); (fail_if_success refine Dec.mk ?_); (fail_if_success show False); (fail_if_success show _ = _); cbv)
      all_goals try simp only [ncast, decide_eq_true_eq, decide_eq_false_iff_not, Decidable.not_not, Bool.not_eq_true', Bool.not_eq_false', cond_t, cond_f, toNat_cast] at *
      all_goals try (first | exact Side.mk (i64 (by (try simp only [ncast] at *); omega)) | exact Side.mk (u64 (by (try simp only [ncast] at *); omega)) | exact Side.mk (by (try simp only [ncast] at *); refine ⟨?_, ?_, u64 ?_⟩ <;> first | trivial | omega) | exact Side.mk (by (try simp only [ncast] at *); (try simp only [List.length_set, List.length_cons, List.length_nil, List.length_append]); omega))
      · rename_i hlt
        have e1 : ((q : Int) + 1).toNat = q + 1 := by omega
        have e : (ys.set q (ys.getD ((q : Int) + 1).toNat 0)).set ((q : Int) + 1).toNat (ys.getD q 0) = swp 0 ys q (q + 1) := by rw [e1]; rfl
        refine ⟨(q + 1, swp 0 ys q (q + 1)), ⟨by simp only; omega, by simp only; omega, hU.step (by omega) (by omega) (hB.low (q + 1) (by omega) (by omega))⟩, by simp only; omega, ?_⟩
        cbv
        repeat' first | refine And.intro ?_ ?_ | exact trivial | exact Side.mk rfl | exact REq.sl rfl | exact DEq.mk rfl | exact REq.sl e | exact Side.mk (by (try simp only [ncast] at *); omega)
      · rename_i hge
        exact REq.sl (hB.done hs2 h3 hU (by omega))
  · -- one element on the right
    rename_i hM1 hM
    simp only [ncast, decide_eq_true_eq] at hM
    obtain rfl : B = M + 1 := by omega
    clear hM hM1
    refine VLoop.inv (ι := Nat × Nat) (fun p => ⟨[(0, .own 0), (2, .d (num m)), (4, .d (.fn 66 [.box [ints w]])), (14, .d (num fun _ => p.1)), (15, .d (num fun _ => p.2))], [(0, .sl intSh xs)]⟩)
      (fun p => BinB key 0 (xs ⟨⟩) A M p.1 p.2) (fun p => p.2 - p.1) (A, M) (BinB.start (by omega)) ?_ ?_
    · cbv
      repeat' first | refine And.intro ?_ ?_ | exact trivial | exact Side.mk rfl | exact REq.sl rfl | exact DEq.mk rfl | exact Side.mk (by (try simp only [ncast] at *); omega)
    rintro ⟨i, j⟩ hB
    simp only at hB
    have hi := hB.ai
    have hij := hB.ij
    have hj := hB.jm
    repeat' first
      | (refine VIf.mk' ?_ ?_ <;> intro _)
      | (refine LenB.mk ?_; intro _)
      | refine And.intro ?_ ?_
      | exact trivial
      | refine Stop.mk ?_
      | exact ShEq.sl
      | refine VCall.mk' (.mk (hc _ _ ?_)) (.inl rfl) ?_
      | ((fail_if_success refine Side.mk ?_); (fail_if_success refine Exists.intro ?_ ?_); (fail_if_success refine VLoop.mk ?_); (fail_if_success refine VCut.mk ?_); (fail_if_success refine REq.sl ?_); (fail_if_success refine Same.mk ?_); (fail_if_success refine DEq.mk ?_); (fail_if_success refine VCall.mk ?_); (fail_if_success refine SReg.go ?_); (fail_if_success refine QCall.mk ?_); (fail_if_success refine Dec.mk ?_); (fail_if_success show False); (fail_if_success show _ = _); cbv)
    all_goals try simp only [ncast, decide_eq_true_eq, decide_eq_false_iff_not, Decidable.not_not, Bool.not_eq_true', Bool.not_eq_false', cond_t, cond_f, toNat_cast] at *
    all_goals try (first | exact Side.mk (i64 (by (try simp only [ncast] at *); omega)) | exact Side.mk (u64 (by (try simp only [ncast] at *); omega)) | exact Side.mk (by (try simp only [ncast] at *); refine ⟨?_, ?_, u64 ?_⟩ <;> first | trivial | omega) | exact Side.mk (by (try simp only [ncast] at *); (try simp only [List.length_set, List.length_cons, List.length_nil, List.length_append]); omega))
    · rename_i hlt
      have e1 : (((i : Int) + j) / 2).toNat = (i + j) / 2 := by omega
      refine Side.mk ?_
      rw [e1, hm.2]
      exact hat _ _ (by omega) (by omega) (by omega)
    · rename_i hlt hk
      have e1 : (((i : Int) + j) / 2).toNat = (i + j) / 2 := by omega
      rw [e1, hm.2] at hk
      have hk2 := hF.neg _ _ (hat M ((i + j) / 2) (by omega) (by omega) (by omega))
      refine ⟨((i + j) / 2 + 1, j), hB.up (h := (i + j) / 2) hs1 (by omega) (by omega) (by omega), by simp only; omega, ?_⟩
      cbv
      repeat' (first | refine And.intro ?_ ?_ | exact trivial | exact Side.mk rfl | exact REq.sl rfl | exact DEq.mk rfl | exact Side.mk (by (try simp only [ncast] at *); omega))
    · rename_i hlt hk
      have e1 : (((i : Int) + j) / 2).toNat = (i + j) / 2 := by omega
      rw [e1, hm.2] at hk
      have hk2 := hF.neg _ _ (hat M ((i + j) / 2) (by omega) (by omega) (by omega))
      refine ⟨(i, (i + j) / 2), hB.down (h := (i + j) / 2) hs1 (by omega) (by omega) (by omega), by simp only; omega, ?_⟩
      cbv
      repeat' (first | refine And.intro ?_ ?_ | exact trivial | exact Side.mk rfl | exact REq.sl rfl | exact DEq.mk rfl | exact Side.mk (by (try simp only [ncast] at *); omega))
    · rename_i hge
      obtain rfl : i = j := by omega
      clear hge
      refine VLoop.inv (ι := Nat × List Int) (fun p => ⟨[(0, .own 0), (14, .d (num fun _ => i)), (17, .d (num fun _ => p.1))], [(0, .sl intSh fun _ => p.2)]⟩)
        (fun p => i ≤ p.1 ∧ p.1 ≤ M ∧ Dn key 0 (xs ⟨⟩) p.2 M p.1) (fun p => p.1) (M, xs ⟨⟩) ⟨hj, Nat.le_refl _, Dn.start _ _⟩ ?_ ?_
      · cbv
        repeat' first | refine And.intro ?_ ?_ | exact trivial | exact Side.mk rfl | exact REq.sl rfl | exact DEq.mk rfl | exact Side.mk (by (try simp only [ncast] at *); omega)
      rintro ⟨q, ys⟩ ⟨hq1, hq2, hU⟩
      simp only at hq1 hq2 hU
      have hyl := hU.len
      repeat' first
        | (refine VIf.mk' ?_ ?_ <;> intro _)
        | (refine LenB.mk ?_; intro _)
        | refine And.intro ?_ ?_
        | exact trivial
        | refine Stop.mk ?_
        | exact ShEq.sl
        | ((fail_if_success refine Side.mk ?_); (fail_if_success refine Exists.intro ?_ ?_); (fail_if_success refine VLoop.mk ?_); (fail_if_success refine VCut.mk ?_); (fail_if_success refine REq.sl ?_); (fail_if_success refine Same.mk ?_); (fail_if_success refine DEq.mk ?_); (fail_if_success refine VCall.mk ?_); (fail_if_success refine SReg.go ?_); (fail_if_success refine QCall.mk ?_); (fail_if_success refine Dec.mk ?_); (fail_if_success show False); (fail_if_success show _ = _); cbv)
      all_goals try simp only [ncast, decide_eq_true_eq, decide_eq_false_iff_not, Decidable.not_not, Bool.not_eq_true', Bool.not_eq_false', cond_t, cond_f, toNat_cast] at *
      all_goals try (first | exact Side.mk (i64 (by (try simp only [ncast] at *); omega)) | exact Side.mk (u64 (by (try simp only [ncast] at *); omega)) | exact Side.mk (by (try simp only [ncast] at *); refine ⟨?_, ?_, u64 ?_⟩ <;> first | trivial | omega) | exact Side.mk (by (try simp only [ncast] at *); (try simp only [List.length_set, List.length_cons, List.length_nil, List.length_append]); omega))
      · rename_i hlt
        obtain ⟨q, rfl⟩ : ∃ q', q = q' + 1 := ⟨q - 1, by omega⟩
        have e1 : (((q + 1 : Nat) : Int) - 1).toNat = q := by omega
        have e : (ys.set (q + 1) (ys.getD (((q + 1 : Nat) : Int) - 1).toNat 0)).set (((q + 1 : Nat) : Int) - 1).toNat (ys.getD (q + 1) 0) = swp 0 ys (q + 1) q := by rw [e1]; rfl
        refine ⟨(q, swp 0 ys (q + 1) q), ⟨by simp only; omega, by simp only; omega, hU.step (by omega) (by omega) (hB.high q (by omega) (by omega))⟩, by simp only; omega, ?_⟩
        cbv
        repeat' first | refine And.intro ?_ ?_ | exact trivial | exact Side.mk rfl | exact REq.sl rfl | exact DEq.mk rfl | exact REq.sl e | exact Side.mk (by (try simp only [ncast] at *); omega)
      · rename_i hge
        obtain rfl : q = i := by omega
        exact REq.sl (hB.done hs1 h3 hU)
  -- the search
  rename_i hM1 hM2
  have h1' : A + 1 < M := by simp only [ncast, decide_eq_false_iff_not] at hM1; omega
  have h2' : M + 1 < B := by simp only [ncast, decide_eq_false_iff_not] at hM2; omega
  clear hM1 hM2
  generalize hmid : (A + B) / 2 = mid
  refine VCut.inv (ι := Nat × Nat) (fun p => ⟨[(0, .own 0), (1, .d (num a)), (2, .d (num m)), (3, .d (num b)), (4, .d (.fn 66 [.box [ints w]])), (18, .d (num fun _ => mid)), (19, .d (num fun _ => (mid + M : Nat))), (20, .d (num fun _ => p.1)), (21, .d (num fun _ => p.2))], [(0, .sl intSh xs)]⟩)
    (fun p => Mids A M B mid p.1 p.2) ?_ ?_
  · repeat' first
      | (refine VIf.mk' ?_ ?_ <;> intro _)
      | (refine LenB.mk ?_; intro _)
      | refine And.intro ?_ ?_
      | exact trivial
      | refine Stop.mk ?_
      | exact ShEq.sl
      | ((fail_if_success refine Side.mk ?_); (fail_if_success refine Exists.intro ?_ ?_); (fail_if_success refine VLoop.mk ?_); (fail_if_success refine VCut.mk ?_); (fail_if_success refine REq.sl ?_); (fail_if_success refine Same.mk ?_); (fail_if_success refine DEq.mk ?_); (fail_if_success refine VCall.mk ?_); (fail_if_success refine SReg.go ?_); (fail_if_success refine QCall.mk ?_); (fail_if_success refine Dec.mk ?_); (fail_if_success show False); (fail_if_success show _ = _); cbv)
    all_goals try simp only [ncast, decide_eq_true_eq, decide_eq_false_iff_not, Decidable.not_not, Bool.not_eq_true', Bool.not_eq_false', cond_t, cond_f, toNat_cast] at *
    all_goals try (first | exact Side.mk (i64 (by (try simp only [ncast] at *); omega)) | exact Side.mk (u64 (by (try simp only [ncast] at *); omega)) | exact Side.mk (by (try simp only [ncast] at *); refine ⟨?_, ?_, u64 ?_⟩ <;> first | trivial | omega) | exact Side.mk (by (try simp only [ncast] at *); (try simp only [List.length_set, List.length_cons, List.length_nil, List.length_append]); omega))
    · rename_i hlt
      refine ⟨(mid + M - B, mid), ⟨by omega, by omega, by omega, .inl ⟨by omega, rfl, rfl⟩⟩, ?_⟩
      cbv
      repeat' first | refine And.intro ?_ ?_ | exact trivial | exact Side.mk rfl | exact REq.sl rfl | exact DEq.mk rfl | exact Side.mk (by (try simp only [ncast] at *); omega)
    · rename_i hge
      refine ⟨(A, M), ⟨by omega, by omega, by omega, .inr ⟨by omega, rfl, rfl⟩⟩, ?_⟩
      cbv
      repeat' first | refine And.intro ?_ ?_ | exact trivial | exact Side.mk rfl | exact REq.sl rfl | exact DEq.mk rfl | exact Side.mk (by (try simp only [ncast] at *); omega)
  rintro ⟨s0, r0⟩ hMid
  simp only at hMid
  obtain ⟨l1, l2, l3, l4, l5⟩ := hMid.le
  have hmidB : A < mid ∧ mid < B := by omega
  repeat' first
    | (refine VIf.mk' ?_ ?_ <;> intro _)
    | (refine LenB.mk ?_; intro _)
    | refine And.intro ?_ ?_
    | exact trivial
    | refine Stop.mk ?_
    | exact ShEq.sl
    | ((fail_if_success refine Side.mk ?_); (fail_if_success refine Exists.intro ?_ ?_); (fail_if_success refine VLoop.mk ?_); (fail_if_success refine VCut.mk ?_); (fail_if_success refine REq.sl ?_); (fail_if_success refine Same.mk ?_); (fail_if_success refine DEq.mk ?_); (fail_if_success refine VCall.mk ?_); (fail_if_success refine SReg.go ?_); (fail_if_success refine QCall.mk ?_); (fail_if_success refine Dec.mk ?_); (fail_if_success show False); (fail_if_success show _ = _); cbv)
  · exact Side.mk (i64 (by (try simp only [ncast] at *); omega))
  refine VLoop.inv (ι := Nat × Nat) (fun p => ⟨[(0, .own 0), (1, .d (num a)), (2, .d (num m)), (3, .d (num b)), (4, .d (.fn 66 [.box [ints w]])), (18, .d (num fun _ => mid)), (19, .d (num fun _ => (mid + M : Nat))), (20, .d (num fun _ => p.1)), (21, .d (num fun _ => p.2)), (22, .d (num fun _ => (mid + M - 1 : Nat)))], [(0, .sl intSh xs)]⟩)
    (fun p => BinM key 0 (xs ⟨⟩) A M B mid s0 r0 p.1 p.2) (fun p => p.2 - p.1) (s0, r0) (BinM.start hMid) ?_ ?_
  · cbv
    repeat' first | refine And.intro ?_ ?_ | exact trivial | exact Side.mk rfl | exact REq.sl rfl | exact DEq.mk rfl | exact Side.mk (by (try simp only [ncast] at *); omega)
  rintro ⟨s, r⟩ hS
  simp only at hS
  have k1 := hS.as
  have k2 := hS.sr
  have k3 := hS.rr
  repeat' first
    | (refine VIf.mk' ?_ ?_ <;> intro _)
    | (refine LenB.mk ?_; intro _)
    | refine And.intro ?_ ?_
    | exact trivial
    | refine Stop.mk ?_
    | exact ShEq.sl
    | refine VCall.mk' (.mk (hc _ _ ?_)) (.inl rfl) ?_
    | ((fail_if_success refine Side.mk ?_); (fail_if_success refine Exists.intro ?_ ?_); (fail_if_success refine VLoop.mk ?_); (fail_if_success refine VCut.mk ?_); (fail_if_success refine REq.sl ?_); (fail_if_success refine Same.mk ?_); (fail_if_success refine DEq.mk ?_); (fail_if_success refine VCall.mk ?_); (fail_if_success refine SReg.go ?_); (fail_if_success refine QCall.mk ?_); (fail_if_success refine Dec.mk ?_); (fail_if_success show False); (fail_if_success show _ = _); cbv)
  all_goals try simp only [ncast, decide_eq_true_eq, decide_eq_false_iff_not, Decidable.not_not, Bool.not_eq_true', Bool.not_eq_false', cond_t, cond_f, toNat_cast] at *
  all_goals try (first | exact Side.mk (i64 (by (try simp only [ncast] at *); omega)) | exact Side.mk (u64 (by (try simp only [ncast] at *); omega)) | exact Side.mk (by (try simp only [ncast] at *); refine ⟨?_, ?_, u64 ?_⟩ <;> first | trivial | omega) | exact Side.mk (by (try simp only [ncast] at *); (try simp only [List.length_set, List.length_cons, List.length_nil, List.length_append]); omega))
  · rename_i hlt
    have e1 : (((s : Int) + r) / 2).toNat = (s + r) / 2 := by omega
    have e2 : (((mid + M - 1 : Nat) : Int) - ((s : Int) + r) / 2).toNat = mid + M - 1 - (s + r) / 2 := by omega
    refine Side.mk ?_
    rw [e1, e2]
    exact hat _ _ (by omega) (by omega) (by omega)
  · rename_i hlt hk
    have e1 : (((s : Int) + r) / 2).toNat = (s + r) / 2 := by omega
    have e2 : (((mid + M - 1 : Nat) : Int) - ((s : Int) + r) / 2).toNat = mid + M - 1 - (s + r) / 2 := by omega
    rw [e1, e2] at hk
    have hk2 := hF.neg _ _ (hat (mid + M - 1 - (s + r) / 2) ((s + r) / 2) (by omega) (by omega) (by omega))
    refine ⟨((s + r) / 2 + 1, r), hS.up (c := (s + r) / 2) hMid hs1 hs2 (by omega) (by omega) (by omega), by simp only; omega, ?_⟩
    cbv
    repeat' (first | refine And.intro ?_ ?_ | exact trivial | exact Side.mk rfl | exact REq.sl rfl | exact DEq.mk rfl | exact Side.mk (by (try simp only [ncast] at *); omega))
  · rename_i hlt hk
    have e1 : (((s : Int) + r) / 2).toNat = (s + r) / 2 := by omega
    have e2 : (((mid + M - 1 : Nat) : Int) - ((s : Int) + r) / 2).toNat = mid + M - 1 - (s + r) / 2 := by omega
    rw [e1, e2] at hk
    have hk2 := hF.neg _ _ (hat (mid + M - 1 - (s + r) / 2) ((s + r) / 2) (by omega) (by omega) (by omega))
    refine ⟨(s, (s + r) / 2), hS.down (c := (s + r) / 2) hMid hs1 hs2 (by omega) (by omega) (by omega), by simp only; omega, ?_⟩
    cbv
    repeat' (first | refine And.intro ?_ ?_ | exact trivial | exact Side.mk rfl | exact REq.sl rfl | exact DEq.mk rfl | exact Side.mk (by (try simp only [ncast] at *); omega))
  rename_i hge
  obtain rfl : s = r := by omega
  clear hge
  have hH := hS.halves hMid hs1 hs2 h3
  have heq : mid + M - s = s + (mid + M - s - M) + (M - s) := by have := hH.mid; have := hH.me; have := hH.sm; omega
  have hd := hH.done
  have hl1 := hH.left1
  have hl2 := hH.left2
  have hr1 := hH.right1
  have hr2 := hH.right2
  have hrl : (rot (xs ⟨⟩) s M (mid + M - s)).length = (xs ⟨⟩).length := rot_length hH.sm hH.me (by have := hH.eb; omega)
  have hrs : SP key (xs ⟨⟩) (rot (xs ⟨⟩) s M (mid + M - s)) := rot_SP (d := 0) hH.sm hH.me (by have := hH.eb; omega) fun i j q1 q2 q3 q4 => hH.high i q1 q2 j q3 q4
  have q1 := hH.as
  have q2 := hH.sm
  have q3 := hH.me
  have q4 := hH.eb
  have q5 := hH.mid
  have hri : (s = M ∨ M = mid + M - s) → rot (xs ⟨⟩) s M (mid + M - s) = xs ⟨⟩ := fun h => rot_id q2 q3 h
  generalize he : mid + M - s = e at *
  refine VCut.inv (ι := Unit) (fun _ => ⟨[(0, .own 0), (1, .d (num a)), (3, .d (num b)), (4, .d (.fn 66 [.box [ints w]])), (18, .d (num fun _ => mid)), (20, .d (num fun _ => s)), (24, .d (num fun _ => e))], [(0, .sl intSh fun _ => rot (xs ⟨⟩) s M e)]⟩)
    (fun _ => True) ?_ ?_
  · repeat' first
      | (refine VIf.mk' ?_ ?_ <;> intro _)
      | (refine LenB.mk ?_; intro _)
      | refine And.intro ?_ ?_
      | exact trivial
      | refine Stop.mk ?_
      | exact ShEq.sl
      | refine VCall.mk' (.mk (rot_side _ _ _ _ _ _ s M e ?_)) (.inl rfl) ?_
      | ((fail_if_success refine Side.mk ?_); (fail_if_success refine Exists.intro ?_ ?_); (fail_if_success refine VLoop.mk ?_); (fail_if_success refine VCut.mk ?_); (fail_if_success refine REq.sl ?_); (fail_if_success refine Same.mk ?_); (fail_if_success refine DEq.mk ?_); (fail_if_success refine VCall.mk ?_); (fail_if_success refine SReg.go ?_); (fail_if_success refine QCall.mk ?_); (fail_if_success refine Dec.mk ?_); (fail_if_success show False); (fail_if_success show _ = _); cbv)
    all_goals try simp only [ncast, decide_eq_true_eq, decide_eq_false_iff_not, Decidable.not_not, Bool.not_eq_true', Bool.not_eq_false', cond_t, cond_f, toNat_cast] at *
    all_goals try (first | exact Side.mk (i64 (by (try simp only [ncast] at *); omega)) | exact Side.mk (u64 (by (try simp only [ncast] at *); omega)) | exact Side.mk (by (try simp only [ncast] at *); refine ⟨?_, ?_, u64 ?_⟩ <;> first | trivial | omega) | exact Side.mk (by (try simp only [ncast] at *); (try simp only [List.length_set, List.length_cons, List.length_nil, List.length_append]); omega))
    · exact Side.mk (by simp only [true_and]; omega)
    · refine ⟨⟨⟩, trivial, ?_⟩
      cbv
      repeat' first | refine And.intro ?_ ?_ | exact trivial | exact Side.mk rfl | exact REq.sl rfl | exact DEq.mk rfl | exact Side.mk (by (try simp only [ncast] at *); omega)
    · have hid := hri (by omega)
      refine ⟨⟨⟩, trivial, ?_⟩
      cbv
      repeat' first | refine And.intro ?_ ?_ | exact trivial | exact Side.mk rfl | exact REq.sl rfl | exact REq.sl hid.symm | exact DEq.mk rfl | exact Side.mk (by (try simp only [ncast] at *); omega)
    · have hid := hri (by omega)
      refine ⟨⟨⟩, trivial, ?_⟩
      cbv
      repeat' first | refine And.intro ?_ ?_ | exact trivial | exact Side.mk rfl | exact REq.sl rfl | exact REq.sl hid.symm | exact DEq.mk rfl | exact Side.mk (by (try simp only [ncast] at *); omega)
  generalize rot (xs ⟨⟩) s M e = ys at *
  have hidm : s = mid → ssort key A mid ys = ys := fun h => ssort_id (d := 0) (by omega) (by omega) (h ▸ hl1)
  have hida : s = A → ssort key A mid ys = ys := fun h => ssort_id (d := 0) (by omega) (by omega) (h ▸ hl2)
  intro _ _
  repeat' first
    | (refine VIf.mk' ?_ ?_ <;> intro _)
    | (refine LenB.mk ?_; intro _)
    | refine And.intro ?_ ?_
    | exact trivial
    | refine Stop.mk ?_
    | exact ShEq.sl
    | ((fail_if_success refine Side.mk ?_); (fail_if_success refine Exists.intro ?_ ?_); (fail_if_success refine VLoop.mk ?_); (fail_if_success refine VCut.mk ?_); (fail_if_success refine REq.sl ?_); (fail_if_success refine Same.mk ?_); (fail_if_success refine DEq.mk ?_); (fail_if_success refine VCall.mk ?_); (fail_if_success refine SReg.go ?_); (fail_if_success refine QCall.mk ?_); (fail_if_success refine Dec.mk ?_); (fail_if_success show False); (fail_if_success show _ = _); cbv)
  refine VCut.inv (ι := Unit) (fun _ => ⟨[(0, .own 0), (3, .d (num b)), (4, .d (.fn 66 [.box [ints w]])), (18, .d (num fun _ => mid)), (24, .d (num fun _ => e))], [(0, .sl intSh fun _ => ssort key A mid ys)]⟩)
    (fun _ => True) ?_ ?_
  · repeat' first
      | (refine VIf.mk' ?_ ?_ <;> intro _)
      | (refine LenB.mk ?_; intro _)
      | refine And.intro ?_ ?_
      | exact trivial
      | refine Stop.mk ?_
      | exact ShEq.sl
      | refine VCall.mk' (.mk (ih _ _ _ _ A s mid ?_)) (.inl rfl) ?_
      | ((fail_if_success refine Side.mk ?_); (fail_if_success refine Exists.intro ?_ ?_); (fail_if_success refine VLoop.mk ?_); (fail_if_success refine VCut.mk ?_); (fail_if_success refine REq.sl ?_); (fail_if_success refine Same.mk ?_); (fail_if_success refine DEq.mk ?_); (fail_if_success refine VCall.mk ?_); (fail_if_success refine SReg.go ?_); (fail_if_success refine QCall.mk ?_); (fail_if_success refine Dec.mk ?_); (fail_if_success show False); (fail_if_success show _ = _); cbv)
    all_goals try simp only [ncast, decide_eq_true_eq, decide_eq_false_iff_not, Decidable.not_not, Bool.not_eq_true', Bool.not_eq_false', cond_t, cond_f, toNat_cast] at *
    all_goals try (first | exact Side.mk (i64 (by (try simp only [ncast] at *); omega)) | exact Side.mk (u64 (by (try simp only [ncast] at *); omega)) | exact Side.mk (by (try simp only [ncast] at *); refine ⟨?_, ?_, u64 ?_⟩ <;> first | trivial | omega) | exact Side.mk (by (try simp only [ncast] at *); (try simp only [List.length_set, List.length_cons, List.length_nil, List.length_append]); omega))
    · exact Side.mk ⟨ha, by omega, by omega, by omega, by omega, by omega, by omega, by omega, hP.perm hrs.perm, hl1, hl2⟩
    · refine ⟨⟨⟩, trivial, ?_⟩
      cbv
      repeat' first | refine And.intro ?_ ?_ | exact trivial | exact Side.mk rfl | exact REq.sl rfl | exact DEq.mk rfl | exact Side.mk (by (try simp only [ncast] at *); omega)
    · have hid := hidm (by omega)
      refine ⟨⟨⟩, trivial, ?_⟩
      cbv
      repeat' first | refine And.intro ?_ ?_ | exact trivial | exact Side.mk rfl | exact REq.sl rfl | exact REq.sl hid.symm | exact DEq.mk rfl | exact Side.mk (by (try simp only [ncast] at *); omega)
    · have hid := hida (by omega)
      refine ⟨⟨⟩, trivial, ?_⟩
      cbv
      repeat' first | refine And.intro ?_ ?_ | exact trivial | exact Side.mk rfl | exact REq.sl rfl | exact REq.sl hid.symm | exact DEq.mk rfl | exact Side.mk (by (try simp only [ncast] at *); omega)
  have hzl : (ssort key A mid ys).length = (xs ⟨⟩).length := (ssort_length (by omega)).trans hrl
  have hzs : SP key ys (ssort key A mid ys) := ssort_SP (by omega)
  have hz1 : Srt key 0 (ssort key A mid ys) mid e := hr1.congr fun i _ _ => ssort_out (by omega) (by omega) (.inr (by omega))
  have hz2 : Srt key 0 (ssort key A mid ys) e B := hr2.congr fun i _ _ => ssort_out (by omega) (by omega) (.inr (by omega))
  generalize ssort key A mid ys = zs at *
  have hjd : mid = e → ssort key mid B zs = zs := fun h => ssort_id (d := 0) (by omega) (by omega) (h ▸ hz2)
  have hje : e = B → ssort key mid B zs = zs := fun h => ssort_id (d := 0) (by omega) (by omega) (h ▸ hz1)
  have hPz : Pw P zs := (hP.perm hrs.perm).perm hzs.perm
  intro _ _
  repeat' first
    | (refine VIf.mk' ?_ ?_ <;> intro _)
    | (refine LenB.mk ?_; intro _)
    | refine And.intro ?_ ?_
    | exact trivial
    | refine Stop.mk ?_
    | exact ShEq.sl
    | refine VCall.mk' (.mk (ih _ _ _ _ mid e B ?_)) (.inl rfl) ?_
    | ((fail_if_success refine Side.mk ?_); (fail_if_success refine Exists.intro ?_ ?_); (fail_if_success refine VLoop.mk ?_); (fail_if_success refine VCut.mk ?_); (fail_if_success refine REq.sl ?_); (fail_if_success refine Same.mk ?_); (fail_if_success refine DEq.mk ?_); (fail_if_success refine VCall.mk ?_); (fail_if_success refine SReg.go ?_); (fail_if_success refine QCall.mk ?_); (fail_if_success refine Dec.mk ?_); (fail_if_success show False); (fail_if_success show _ = _); cbv)
  all_goals try simp only [ncast, decide_eq_true_eq, decide_eq_false_iff_not, Decidable.not_not, Bool.not_eq_true', Bool.not_eq_false', cond_t, cond_f, toNat_cast] at *
  all_goals try (first | exact Side.mk (i64 (by (try simp only [ncast] at *); omega)) | exact Side.mk (u64 (by (try simp only [ncast] at *); omega)) | exact Side.mk (by (try simp only [ncast] at *); refine ⟨?_, ?_, u64 ?_⟩ <;> first | trivial | omega) | exact Side.mk (by (try simp only [ncast] at *); (try simp only [List.length_set, List.length_cons, List.length_nil, List.length_append]); omega))
  · exact Side.mk ⟨by omega, by omega, hb, by omega, by omega, by omega, by omega, by omega, hPz, hz1, hz2⟩
  · exact REq.sl hd
  · exact REq.sl ((hje (by omega)).symm.trans hd)
  · exact REq.sl ((hjd (by omega)).symm.trans hd)
end Go.Eng
