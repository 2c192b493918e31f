/- Contracts of the stable sort's parts: insertion sort. -/
import Derived.Test.YtmbodncejejceaaCS1
set_option linter.all false

namespace Go.Eng
open Go.Proofs
attribute [local irreducible] vc vops gop step fins fin finP cov covEnv covRows softs qop hop

/-- The comparison, called. -/
def Cmp66 (P : Int → Int → Prop) (F : Int → Int → Int) (w : Th (List Int)) : Prop := ∀ x y : Th Int, (Side fun _ => P (x ⟨⟩) (y ⟨⟩)) → GCall Try.prog 66 [.d (num x), .d (num y), .d (.box [ints w])] (.d (num fun _ => F (x ⟨⟩) (y ⟨⟩))) []

theorem ins_ok (w xs : Th (List Int)) (a b : Th Int) (A B : Nat) {P : Int → Int → Prop} {F : Int → Int → Int} {key : Int → Int} (hc : Cmp66 P F w) (hF : CmpF P F key) (h : Side fun _ => a ⟨⟩ = A ∧ b ⟨⟩ = B ∧ A ≤ B ∧ B ≤ (xs ⟨⟩).length ∧ (xs ⟨⟩).length ≤ 1000000 ∧ Pw P (xs ⟨⟩)) :
    GCall Try.prog 104 [.row (.sl intSh xs), .d (num a), .d (num b), .d (.fn 66 [.box [ints w]])] (.tup []) [.sl intSh fun _ => ssort key A B (xs ⟨⟩)] := by
  obtain ⟨ha, hb, h1, h2, h3, hP⟩ := h.h
  replace ha : 0 ≤ a ⟨⟩ ∧ (a ⟨⟩).toNat = A := by omega
  replace hb : 0 ≤ b ⟨⟩ ∧ (b ⟨⟩).toNat = B := by omega
  clear h
  refine g104 (tabOK 1 ms) rfl (Nat.le_of_ble_eq_true rfl) rfl ?_
  repeat' first
    | (refine VIf.mk' ?_ ?_ <;> intro _)
    | (refine LenB.mk ?_; intro _)
    | refine And.intro ?_ ?_
    | exact trivial
    | refine Stop.mk ?_
    | exact ShEq.sl
    | ((fail_if_success refine Side.mk ?_); (fail_if_success refine Exists.intro ?_ ?_); (fail_if_success refine VLoop.mk ?_); (fail_if_success refine VCut.mk ?_); (fail_if_success refine REq.sl ?_); (fail_if_success refine Same.mk ?_); (fail_if_success refine DEq.mk ?_); (fail_if_success refine VCall.mk ?_); (fail_if_success refine SReg.go ?_); (fail_if_success refine QCall.mk ?_); (fail_if_success refine Dec.mk ?_); (fail_if_success show False); (fail_if_success show _ = _); cbv)
  all_goals try (first | exact Side.mk (i64 (by (try simp only [ncast] at *); omega)) | exact Side.mk (by (try simp only [ncast] at *); (try simp only [List.length_set, List.length_cons, List.length_nil, List.length_append]); omega))
  refine VLoop.inv (ι := Nat × List Int) (fun p => ⟨[(0, .own 0), (1, .d (num a)), (2, .d (num b)), (3, .d (.fn 66 [.box [ints w]])), (8, .d (num fun _ => p.1))], [(0, .sl intSh fun _ => p.2)]⟩)
    (fun p => A + 1 ≤ p.1 ∧ p.1 ≤ B + 1 ∧ InsO key 0 (xs ⟨⟩) p.2 A B p.1) (fun p => B + 1 - p.1) (A + 1, xs ⟨⟩) ⟨by simp only; omega, by simp only; omega, InsO.first _ _ _⟩ ?_ ?_
  · cbv
    repeat' first | refine And.intro ?_ ?_ | exact trivial | exact Side.mk rfl | exact REq.sl rfl | exact DEq.mk rfl | exact Side.mk (by (try simp only [ncast] at *); omega)
  rintro ⟨i, ys⟩ ⟨hi1, hi2, hO⟩
  simp only at hi1 hi2 hO
  repeat' first
    | (refine VIf.mk' ?_ ?_ <;> intro _)
    | (refine LenB.mk ?_; intro _)
    | refine And.intro ?_ ?_
    | exact trivial
    | refine Stop.mk ?_
    | exact ShEq.sl
    | ((fail_if_success refine Side.mk ?_); (fail_if_success refine Exists.intro ?_ ?_); (fail_if_success refine VLoop.mk ?_); (fail_if_success refine VCut.mk ?_); (fail_if_success refine REq.sl ?_); (fail_if_success refine Same.mk ?_); (fail_if_success refine DEq.mk ?_); (fail_if_success refine VCall.mk ?_); (fail_if_success refine SReg.go ?_); (fail_if_success refine QCall.mk ?_); (fail_if_success refine Dec.mk ?_); (fail_if_success show False); (fail_if_success show _ = _); cbv)
  all_goals try (first | exact Side.mk (i64 (by (try simp only [ncast] at *); omega)) | exact Side.mk (by (try simp only [ncast] at *); (try simp only [List.length_set, List.length_cons, List.length_nil, List.length_append]); omega))
  · rename_i hlt
    simp only [ncast, decide_eq_true_eq] at hlt
    replace hlt : i < B := by omega
    refine VLoop.inv (ι := Nat × List Int) (fun p => ⟨[(0, .own 0), (1, .d (num a)), (2, .d (num b)), (3, .d (.fn 66 [.box [ints w]])), (8, .d (num fun _ => i)), (9, .d (num fun _ => p.1))], [(0, .sl intSh fun _ => p.2)]⟩)
      (fun p => InsI key 0 (xs ⟨⟩) p.2 A B i p.1) (fun p => p.1) (i, ys) (hO.start (by omega) hlt) ?_ ?_
    · cbv
      repeat' (first | refine And.intro ?_ ?_ | exact trivial | exact Side.mk rfl | exact REq.sl rfl | exact DEq.mk rfl | exact Side.mk (by (try simp only [ncast] at *); omega))
    rintro ⟨j, zs⟩ hI
    simp only at hI
    have hlz := hI.len
    have haj := hI.aj
    have hji := hI.ji
    have hat : ∀ p q, p < zs.length → q < zs.length → p ≠ q → P (zs.getD p 0) (zs.getD q 0) := fun p q hp hq hne => (hP.perm hI.sp.perm).at hp hq hne
    repeat' first
      | (refine VIf.mk' ?_ ?_ <;> intro _)
      | (refine LenB.mk ?_; intro _)
      | refine And.intro ?_ ?_
      | exact trivial
      | refine Stop.mk ?_
      | exact ShEq.sl
      | refine VCall.mk' (.mk (hc _ _ ?_)) (.inl rfl) ?_
      | ((fail_if_success refine Side.mk ?_); (fail_if_success refine Exists.intro ?_ ?_); (fail_if_success refine VLoop.mk ?_); (fail_if_success refine VCut.mk ?_); (fail_if_success refine REq.sl ?_); (fail_if_success refine Same.mk ?_); (fail_if_success refine DEq.mk ?_); (fail_if_success refine VCall.mk ?_); (fail_if_success refine SReg.go ?_); (fail_if_success refine QCall.mk ?_); (fail_if_success refine Dec.mk ?_); (fail_if_success show False); (fail_if_success show _ = _); cbv)
    all_goals try simp only [ncast, decide_eq_true_eq, decide_eq_false_iff_not, Decidable.not_not, Bool.not_eq_true', Bool.not_eq_false', cond_t, cond_f, toNat_cast] at *
    all_goals try (first | exact Side.mk (i64 (by (try simp only [ncast] at *); omega)) | exact Side.mk (by (try simp only [ncast] at *); (try simp only [List.length_set, List.length_cons, List.length_nil, List.length_append]); omega))
    · rename_i hj
      exact Side.mk (hat _ _ (by omega) (by omega) (by omega))
    · rename_i hj hlt2
      obtain ⟨j, rfl⟩ : ∃ j', j = j' + 1 := ⟨j - 1, by omega⟩
      have e0 : (((j + 1 : Nat) : Int) - 1).toNat = j := by omega
      rw [e0] at hlt2
      have hk := (hF.neg _ _ (hat (j + 1) j (by omega) (by omega) (by omega))).1 (by omega)
      have e : (zs.set (j + 1) (zs.getD (((j + 1 : Nat) : Int) - 1).toNat 0)).set (((j + 1 : Nat) : Int) - 1).toNat (zs.getD (j + 1) 0) = swp 0 zs (j + 1) j := by rw [e0]; rfl
      refine ⟨(j, swp 0 zs (j + 1) j), hI.step h2 (by omega) hk, by simp only; omega, ?_⟩
      cbv
      repeat' first | refine And.intro ?_ ?_ | exact trivial | exact Side.mk rfl | exact REq.sl rfl | exact DEq.mk rfl | exact REq.sl e | exact Side.mk (by (try simp only [ncast] at *); omega)
    · rename_i hj hlt2
      have e0 : ((j : Int) - 1).toNat = j - 1 := by omega
      rw [e0] at hlt2
      have hk := hF.neg _ _ (hat j (j - 1) (by omega) (by omega) (by omega))
      refine ⟨(i + 1, zs), ⟨by simp only; omega, by simp only; omega, hI.stop (.inr (by omega))⟩, by simp only; omega, ?_⟩
      cbv
      repeat' (first | refine And.intro ?_ ?_ | exact trivial | exact Side.mk rfl | exact REq.sl rfl | exact DEq.mk rfl | exact Side.mk (by (try simp only [ncast] at *); omega))
    · rename_i hj
      refine ⟨(i + 1, zs), ⟨by simp only; omega, by simp only; omega, hI.stop (.inl (by omega))⟩, by simp only; omega, ?_⟩
      cbv
      repeat' (first | refine And.intro ?_ ?_ | exact trivial | exact Side.mk rfl | exact REq.sl rfl | exact DEq.mk rfl | exact Side.mk (by (try simp only [ncast] at *); omega))
  · rename_i hge
    simp only [ncast, decide_eq_false_iff_not] at hge
    exact REq.sl (hO.done h1 h2 (by omega))
end Go.Eng
