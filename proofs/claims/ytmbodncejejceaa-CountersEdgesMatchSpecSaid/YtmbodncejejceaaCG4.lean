/- Contracts of the forest. -/
import Derived.Test.YtmbodncejejceaaCG3
import Derived.Test.YtmbodncejejceaaCCG4
set_option linter.all false

namespace Go.Eng
open Go.Proofs
attribute [local irreducible] vc vops gop step fins fin finP cov covEnv covRows softs qop hop

theorem HCall.mk' {T : Tab} {f : FuncId} {ag : List Arg} {rs : List (Nat × Bool)} {l : List (Nat × Row)} {K : List (Nat × Row) → AV → Prop} {x : D} {xs : List Row} (hc : T.ct f ag (.d x) xs)
    (h : match afterR l rs xs with | some m => bif Nat.beq (top m) (top l) then K m (.d x) else False | none => False) : HCall T f ag rs l K := ⟨x, xs, hc, h⟩

theorem less_ok (w : Th (List Int)) (x y : Th Int) (h : Side fun _ => (0 ≤ x ⟨⟩ ∧ x ⟨⟩ < (w ⟨⟩).length) ∧ (0 ≤ y ⟨⟩ ∧ y ⟨⟩ < (w ⟨⟩).length) ∧ ∀ z ∈ w ⟨⟩, 0 ≤ z ∧ z ≤ 1000000) :
    GCall Try.prog 66 [.d (num x), .d (num y), .d (.box [ints w])] (.d (num fun _ => (w ⟨⟩).getD (y ⟨⟩).toNat 0 - (w ⟨⟩).getD (x ⟨⟩).toNat 0)) [] := by
  obtain ⟨hx, hy, hw⟩ := h.h
  have h1 := hw _ (getD_memL 0 (show (x ⟨⟩).toNat < (w ⟨⟩).length by omega))
  have h2 := hw _ (getD_memL 0 (show (y ⟨⟩).toNat < (w ⟨⟩).length by omega))
  clear h
  refine g66 (tabOK 0 ms) rfl (Nat.le_of_ble_eq_true rfl) rfl ?_
  repeat' first
    | (refine VIf.mk' ?_ ?_ <;> intro _)
    | (refine LenB.mk ?_; intro _)
    | refine And.intro ?_ ?_
    | exact trivial
    | refine Stop.mk ?_
    | exact ShEq.sl
    | ((fail_if_success refine Side.mk ?_); (fail_if_success refine Exists.intro ?_ ?_); (fail_if_success refine VLoop.mk ?_); (fail_if_success refine VCut.mk ?_); (fail_if_success refine REq.sl ?_); (fail_if_success refine Same.mk ?_); (fail_if_success refine DEq.mk ?_); (fail_if_success refine VCall.mk ?_); (fail_if_success refine SReg.go ?_); (fail_if_success refine QCall.mk ?_); (fail_if_success refine Dec.mk ?_); (fail_if_success show False); (fail_if_success show _ = _); cbv)
  all_goals first | exact Side.mk (i64 (by omega)) | exact Side.mk (by omega) | exact Side.mk rfl

def forest0 (n : Nat) : List Int := (List.range (n + 1)).map fun (i : Nat) => (i : Int)
theorem newForest_ok (n : Th Int) (N : Nat) (h : Side fun _ => 0 ≤ n ⟨⟩ ∧ (n ⟨⟩).toNat = N ∧ N ≤ 1000000) : GCall Try.prog 67 [.d (num n)] (.row (.sl intSh fun _ => forest0 N)) [] := by
  obtain ⟨hn0, hn, hN⟩ := h.h
  clear h
  have hx : ∀ k, k < N + 1 → ((List.range (N + 1)).map fun (i : Nat) => if i < k then (i : Int) else 0).set k (k : Int) = (List.range (N + 1)).map fun (i : Nat) => if i < k + 1 then (i : Int) else 0 := fun k hk => ext_getD (d := 0) (by simp) fun p hp => by
    have hp' : p < N + 1 := by simpa using hp
    rw [getD_set]
    simp only [List.getD_eq_getElem?_getD, List.getElem?_map, List.getElem?_range hp', Option.map_some, Option.getD_some]
    by_cases e : k = p
    · rw [if_pos ⟨e, by simpa using hk⟩, if_pos (by omega), e]
    · rw [if_neg (fun h => e h.1)]
      by_cases e2 : p < k
      · rw [if_pos e2, if_pos (by omega)]
      · rw [if_neg e2, if_neg (by omega)]
  have hs : List.replicate (N + 1) (0 : Int) = (List.range (N + 1)).map fun (i : Nat) => if i < 0 then (i : Int) else 0 := by
    refine ext_getD (d := 0) (by simp) fun p hp => ?_
    have hp' : p < N + 1 := by simpa using hp
    simp [List.getD_eq_getElem?_getD, hp']
  refine g67 (tabOK 0 ms) rfl (Nat.le_of_ble_eq_true rfl) rfl ?_
  repeat' first
    | (refine VIf.mk' ?_ ?_ <;> intro _)
    | (refine LenB.mk ?_; intro _)
    | refine And.intro ?_ ?_
    | exact trivial
    | refine Stop.mk ?_
    | exact ShEq.sl
    | ((fail_if_success refine Side.mk ?_); (fail_if_success refine Exists.intro ?_ ?_); (fail_if_success refine VLoop.mk ?_); (fail_if_success refine VCut.mk ?_); (fail_if_success refine REq.sl ?_); (fail_if_success refine Same.mk ?_); (fail_if_success refine DEq.mk ?_); (fail_if_success refine VCall.mk ?_); (fail_if_success refine SReg.go ?_); (fail_if_success refine QCall.mk ?_); (fail_if_success refine Dec.mk ?_); (fail_if_success show False); (fail_if_success show _ = _); cbv)
  · exact Side.mk (i64 (by omega))
  · exact Side.mk (by simp only [ncast]; omega)
  have e0 : (n ⟨⟩ + 1).toNat = N + 1 := by omega
  have e1 : List.replicate (n ⟨⟩ + 1).toNat (0 : Int) = (List.range (N + 1)).map fun (i : Nat) => if i < 0 then (i : Int) else 0 := by rw [e0, hs]
  have e2 : ((List.replicate (n ⟨⟩ + 1).toNat (0 : Int)).length : Int) = (N + 1 : Nat) := by simp; omega
  refine VLoop.inv (ι := Nat) (fun k => ⟨[(3, .own 0), (9, .d (num fun _ => (N + 1 : Nat))), (10, .d (num fun _ => k))], [(0, .sl intSh fun _ => (List.range (N + 1)).map fun (i : Nat) => if i < k then (i : Int) else 0)]⟩)
    (fun k => k ≤ N + 1) (fun k => N + 1 - k) 0 (Nat.zero_le _) ?_ ?_
  · cbv
    repeat' first | refine And.intro ?_ ?_ | exact trivial | exact Side.mk rfl | exact REq.sl rfl | exact DEq.mk rfl | exact REq.sl e1 | exact Side.mk e2
  intro k hk
  have hlen : ((List.range (N + 1)).map fun (i : Nat) => if i < k then (i : Int) else 0).length = N + 1 := by simp
  repeat' first
    | (refine VIf.mk' ?_ ?_ <;> intro _)
    | (refine LenB.mk ?_; intro _)
    | refine And.intro ?_ ?_
    | exact trivial
    | refine Stop.mk ?_
    | exact ShEq.sl
    | ((fail_if_success refine Side.mk ?_); (fail_if_success refine Exists.intro ?_ ?_); (fail_if_success refine VLoop.mk ?_); (fail_if_success refine VCut.mk ?_); (fail_if_success refine REq.sl ?_); (fail_if_success refine Same.mk ?_); (fail_if_success refine DEq.mk ?_); (fail_if_success refine VCall.mk ?_); (fail_if_success refine SReg.go ?_); (fail_if_success refine QCall.mk ?_); (fail_if_success refine Dec.mk ?_); (fail_if_success show False); (fail_if_success show _ = _); cbv)
  all_goals try simp only [ncast, decide_eq_true_eq, decide_eq_false_iff_not, Decidable.not_not, Bool.not_eq_true', Bool.not_eq_false', cond_t, cond_f, toNat_cast] at *
  all_goals try (first | exact Side.mk (i64 (by (try simp only [ncast] at *); omega)) | exact Side.mk (u64 (by (try simp only [ncast] at *); omega)) | exact Side.mk (by (try simp only [ncast] at *); refine ⟨?_, ?_, u64 ?_⟩ <;> first | trivial | omega) | exact Side.mk (by (try simp only [ncast] at *); (try simp only [List.length_set, List.length_cons, List.length_nil, List.length_append]); omega))
  · rename_i hlt
    have e3 := hx k (by omega)
    refine ⟨k + 1, by omega, by omega, ?_⟩
    cbv
    repeat' first | refine And.intro ?_ ?_ | exact trivial | exact Side.mk rfl | exact REq.sl rfl | exact DEq.mk rfl | exact REq.sl e3
  · rename_i hge
    refine REq.sl ?_
    unfold forest0
    refine List.map_congr_left fun i hi => ?_
    have := List.mem_range.1 hi
    rw [if_pos (by omega)]

theorem root_ok (f : Th (List Int)) (i : Th Int) (I : Nat) (F' : List Int) (rt dp : Nat → Nat) (h : Side fun _ => Forest (f ⟨⟩) rt dp ∧ (0 ≤ i ⟨⟩ ∧ (i ⟨⟩).toNat = I) ∧ I < (f ⟨⟩).length ∧ Halve (f ⟨⟩) I F') :
    GCall Try.prog 92 [.row (.sl intSh f), .d (num i)] (.d (num fun _ => (rt I : Nat))) [.sl intSh fun _ => F'] := by
  obtain ⟨hF, hi, hI, hH⟩ := h.h
  clear h
  refine g92 (tabOK 1 ms) rfl (Nat.le_of_ble_eq_true rfl) rfl ?_
  repeat' first
    | (refine VIf.mk' ?_ ?_ <;> intro _)
    | (refine LenB.mk ?_; intro _)
    | refine And.intro ?_ ?_
    | exact trivial
    | refine Stop.mk ?_
    | exact ShEq.sl
    | ((fail_if_success refine Side.mk ?_); (fail_if_success refine Exists.intro ?_ ?_); (fail_if_success refine VLoop.mk ?_); (fail_if_success refine VCut.mk ?_); (fail_if_success refine REq.sl ?_); (fail_if_success refine Same.mk ?_); (fail_if_success refine DEq.mk ?_); (fail_if_success refine VCall.mk ?_); (fail_if_success refine SReg.go ?_); (fail_if_success refine QCall.mk ?_); (fail_if_success refine Dec.mk ?_); (fail_if_success show False); (fail_if_success show _ = _); cbv)
  refine VLoop.inv (ι := List Int × Nat) (fun p => ⟨[(0, .own 0), (1, .d (num fun _ => p.2))], [(0, .sl intSh fun _ => p.1)]⟩)
    (fun p => Forest p.1 rt dp ∧ p.2 < p.1.length ∧ rt p.2 = rt I ∧ Halve p.1 p.2 F') (fun p => dp p.2) (f ⟨⟩, I) ⟨hF, hI, rfl, hH⟩ ?_ ?_
  · cbv
    repeat' first | refine And.intro ?_ ?_ | exact trivial | exact Side.mk rfl | exact REq.sl rfl | exact DEq.mk rfl | exact Side.mk (by (try simp only [ncast] at *); omega)
  rintro ⟨ys, j⟩ ⟨gF, gj, gr, gH⟩
  simp only at gF gj gr gH
  have hr1 := gF.rng j gj
  have hr2 := gF.rng (ys.getD j 0).toNat (by omega)
  repeat' first
    | (refine VIf.mk' ?_ ?_ <;> intro _)
    | (refine LenB.mk ?_; intro _)
    | refine And.intro ?_ ?_
    | exact trivial
    | refine Stop.mk ?_
    | exact ShEq.sl
    | ((fail_if_success refine Side.mk ?_); (fail_if_success refine Exists.intro ?_ ?_); (fail_if_success refine VLoop.mk ?_); (fail_if_success refine VCut.mk ?_); (fail_if_success refine REq.sl ?_); (fail_if_success refine Same.mk ?_); (fail_if_success refine DEq.mk ?_); (fail_if_success refine VCall.mk ?_); (fail_if_success refine SReg.go ?_); (fail_if_success refine QCall.mk ?_); (fail_if_success refine Dec.mk ?_); (fail_if_success show False); (fail_if_success show _ = _); cbv)
  all_goals try simp only [ncast, decide_eq_true_eq, decide_eq_false_iff_not, Decidable.not_not, Bool.not_eq_true', Bool.not_eq_false', cond_t, cond_f, toNat_cast] at *
  all_goals try (first | exact Side.mk (i64 (by (try simp only [ncast] at *); omega)) | exact Side.mk (u64 (by (try simp only [ncast] at *); omega)) | exact Side.mk (by (try simp only [ncast] at *); refine ⟨?_, ?_, u64 ?_⟩ <;> first | trivial | omega) | exact Side.mk (by (try simp only [ncast] at *); (try simp only [List.length_set, List.length_cons, List.length_nil, List.length_append]); omega))
  · rename_i hne
    have hne' : (ys.getD j 0).toNat ≠ j := by omega
    have hnx := gH.next hne'
    have hd := gF.dec j gj hne'
    have hF2 := gF.halve gj hne'
    have hlt : dp (ys.getD (ys.getD j 0).toNat 0).toNat < dp j := by
      by_cases e : (ys.getD (ys.getD j 0).toNat 0).toNat = (ys.getD j 0).toNat
      · rw [e]; exact hd
      · exact Nat.lt_trans (gF.dec _ (by omega) e) hd
    have hcl : rt (ys.getD (ys.getD j 0).toNat 0).toNat = rt j := (gF.cls _ (by omega)).trans (gF.cls _ gj)
    have e1 : (ys.set j (ys.getD (ys.getD j 0).toNat 0)).getD j 0 = ((ys.getD (ys.getD j 0).toNat 0).toNat : Int) := by
      rw [getD_set, if_pos ⟨rfl, gj⟩]; omega
    refine ⟨(ys.set j (ys.getD (ys.getD j 0).toNat 0), (ys.getD (ys.getD j 0).toNat 0).toNat), ⟨hF2, by simp only [List.length_set]; omega, hcl.trans gr, hnx⟩, hlt, ?_⟩
    cbv
    repeat' first | refine And.intro ?_ ?_ | exact trivial | exact Side.mk rfl | exact REq.sl rfl | exact DEq.mk rfl | exact Side.mk e1
  · rename_i he
    have := gF.fix j gj (by omega)
    exact Side.mk (by omega)
  · rename_i he
    exact REq.sl (gH.last (by omega)).symm

theorem unite_ok (f : Th (List Int)) (a b : Th Int) (A B : Nat) (rt dp : Nat → Nat) (hF : Forest (f ⟨⟩) rt dp) (ha : 0 ≤ a ⟨⟩ + 1 ∧ (a ⟨⟩ + 1).toNat = A) (hb : 0 ≤ b ⟨⟩ + 1 ∧ (b ⟨⟩ + 1).toNat = B) (hA : A < (f ⟨⟩).length) (hB : B < (f ⟨⟩).length) (hl : (f ⟨⟩).length ≤ 1000000) :
    ∃ F' dp', F'.length = (f ⟨⟩).length ∧ Forest F' (mrg rt A B) dp' ∧
      GCall Try.prog 68 [.row (.sl intSh f), .d (.agg [num a, num b])] (.d (bol fun _ => decide (rt A ≠ rt B))) [.sl intSh fun _ => F'] := by
  obtain ⟨f1, h1, F1, l1⟩ := hF.halves (dp A) (Nat.le_refl _) hA
  obtain ⟨f2, h2, F2, l2⟩ := F1.halves (i := B) (dp B) (Nat.le_refl _) (by omega)
  have F3 := F2.unite (a := A) (b := B) (by omega) (by omega)
  have hrA := (F2.root' (i := A) (by omega)).1
  refine ⟨_, _, by rw [List.length_set]; omega, F3, ?_⟩
  have c1 : GCall Try.prog 92 [.row (.sl intSh f), .d (num fun _ => a ⟨⟩ + 1)] (.d (num fun _ => (rt A : Nat))) [.sl intSh fun _ => f1] := root_ok f _ A f1 rt dp ⟨hF, ha, hA, h1⟩
  have c2 : GCall Try.prog 92 [.row (.sl intSh fun _ => f1), .d (num fun _ => b ⟨⟩ + 1)] (.d (num fun _ => (rt B : Nat))) [.sl intSh fun _ => f2] := root_ok (fun _ => f1) _ B f2 rt dp ⟨F1, hb, by omega, h2⟩
  refine g68 (tabOK 1 ms) rfl (Nat.le_of_ble_eq_true rfl) rfl ?_
  repeat' first
    | (refine VIf.mk' ?_ ?_ <;> intro _)
    | (refine LenB.mk ?_; intro _)
    | refine And.intro ?_ ?_
    | exact trivial
    | refine Stop.mk ?_
    | exact ShEq.sl
    | ((fail_if_success refine Side.mk ?_); (fail_if_success refine Exists.intro ?_ ?_); (fail_if_success refine VLoop.mk ?_); (fail_if_success refine VCut.mk ?_); (fail_if_success refine REq.sl ?_); (fail_if_success refine Same.mk ?_); (fail_if_success refine DEq.mk ?_); (fail_if_success refine VCall.mk ?_); (fail_if_success refine SReg.go ?_); (fail_if_success refine QCall.mk ?_); (fail_if_success refine Dec.mk ?_); (fail_if_success show False); (fail_if_success show _ = _); cbv)
  refine SReg.frz 1 _ rfl (Nat.le_refl _) ?_
  repeat' first
    | (refine VIf.mk' ?_ ?_ <;> intro _)
    | (refine LenB.mk ?_; intro _)
    | refine And.intro ?_ ?_
    | exact trivial
    | refine Stop.mk ?_
    | exact ShEq.sl
    | refine SReg.go ?_
    | refine HCall.mk' (.mk c1) ?_
    | refine HCall.mk' (.mk c2) ?_
    | ((fail_if_success refine Side.mk ?_); (fail_if_success refine Exists.intro ?_ ?_); (fail_if_success refine VLoop.mk ?_); (fail_if_success refine VCut.mk ?_); (fail_if_success refine REq.sl ?_); (fail_if_success refine Same.mk ?_); (fail_if_success refine DEq.mk ?_); (fail_if_success refine VCall.mk ?_); (fail_if_success refine SReg.go ?_); (fail_if_success refine QCall.mk ?_); (fail_if_success refine Dec.mk ?_); (fail_if_success show False); (fail_if_success show _ = _); cbv)
  all_goals try simp only [ncast, decide_eq_true_eq, decide_eq_false_iff_not, Decidable.not_not, Bool.not_eq_true', Bool.not_eq_false', cond_t, cond_f, toNat_cast] at *
  all_goals try (first | exact Side.mk (i64 (by (try simp only [ncast] at *); omega)) | exact Side.mk (u64 (by (try simp only [ncast] at *); omega)) | exact Side.mk (by (try simp only [ncast] at *); refine ⟨?_, ?_, u64 ?_⟩ <;> first | trivial | omega) | exact Side.mk (by (try simp only [ncast] at *); (try simp only [List.length_set, List.length_cons, List.length_nil, List.length_append]); omega))
  · refine Side.mk ?_
    show decide (¬ ((rt A : Nat) : Int) = (rt B : Nat)) = decide (¬ rt A = rt B)
    exact decide_eq_decide.2 (by omega)
  · exact REq.sl rfl
end Go.Eng
