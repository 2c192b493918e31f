/- Place and Counts on fixed inputs; the law of Place. -/
import Derived.Test.YtmbodncejejceaaCG7
import Derived.Test.YtmbodncejejceaaCG10
import Derived.Test.YtmbodncejejceaaCF1
import Derived.Test.YtmbodncejejceaaCCG11
set_option linter.all false

namespace Go.Eng
open Go.Proofs
attribute [local irreducible] vc vops gop step fins fin finP cov covEnv covRows softs qop hop

theorem fix0 : edgesL [(0, 0, 0, [])] [0] = [(-1, 0), (0, -1)] := by decide +kernel
theorem fix2 : placeF [(0, 0, 0, [])] [0] [0, 0] = (0, 0) := by decide +kernel
theorem fixk : (kru [(-1, 0), (0, -1)] [0, 1]).2 = [1] := by decide +kernel
theorem fix1 : placeL [(0, 0, 0, [])] [0] [0, 0] = [1] := by
  unfold placeL
  rw [fix2, if_pos rfl, fix0]
  have e : ordW [0, 0] [((-1 : Int), (0 : Int)), (0, -1)].length = [0, 1] := by
    simp [ordW, sortK, idxL, wkey, List.mergeSort, List.MergeSort.Internal.splitInTwo, List.range_succ]
  unfold placedL
  rw [e, fixk]
  simp [srtI, List.mergeSort]
theorem fix3 : countsL [(0, 0, 0, [])] [0] [1] [3] = [3, 3] := by decide +kernel
theorem fix4 : cntF [(0, 0, 0, [])] [0] [1] [3] = (0, 0) := by decide +kernel
theorem gb1 : GB [(0, 0, 0, [])] := ⟨by unfold LB; simp, fun b hb => by rw [List.mem_singleton.1 hb]; unfold LB; simp⟩

theorem VCall.fr {T : Tab} {f : FuncId} {ar : Option (List Arg × List (Nat × Bool) × Bool)} {σ : St} {vs : List AV} {K : St → AV → Prop} (r : Nat) (x : Row) (hr : lkp σ.rows r = some x) (hb : T.base ≤ r)
    (h : VCall T f (mkArgs T (σ.freeze r x) (T.modes f) (vs.map (AV.frz r x.frz))) (σ.freeze r x) (vs.map (AV.frz r x.frz)) K) : VCall T f ar σ vs K := ⟨fun _ => .frz r x hr hb (h.h rfl)⟩

set_option maxHeartbeats 1000000 in
theorem counted_ok : GCall Try.prog 34 [] (.d (bol fun _ => true)) [] := by
  refine g34 (tabOK 0 ms) rfl (Nat.le_of_ble_eq_true rfl) rfl ?_
  repeat' first
    | (refine VIf.mk' ?_ ?_ <;> intro _)
    | (refine LenB.mk ?_; intro _)
    | refine And.intro ?_ ?_
    | exact trivial
    | refine Stop.mk ?_
    | exact ShEq.sl
    | ((fail_if_success refine Side.mk ?_); (fail_if_success refine Exists.intro ?_ ?_); (fail_if_success refine VLoop.mk ?_); (fail_if_success refine VCut.mk ?_); (fail_if_success refine REq.sl ?_); (fail_if_success refine Same.mk ?_); (fail_if_success refine DEq.mk ?_); (fail_if_success refine VCall.mk ?_); (fail_if_success refine SReg.go ?_); (fail_if_success refine QCall.mk ?_); (fail_if_success refine Dec.mk ?_); (fail_if_success show False); (fail_if_success show _ = _); cbv)
  · exact Side.mk (by decide)
  refine VCall.fr 0 _ rfl (Nat.zero_le _) ?_; cbv; refine VCall.fr 1 _ rfl (Nat.zero_le _) ?_; cbv; refine VCall.fr 2 _ rfl (Nat.zero_le _) ?_; cbv
  refine VCall.mk' (.mk (place_ok' (fun _ => [(0, 0, 0, [])]) (fun _ => [0]) (fun _ => [0, 0]) ⟨gb1, by unfold LB; simp, by unfold LB; simp⟩)) (.inl rfl) ?_
  repeat' first
    | (refine VIf.mk' ?_ ?_ <;> intro _)
    | (refine LenB.mk ?_; intro _)
    | refine And.intro ?_ ?_
    | exact trivial
    | refine Stop.mk ?_
    | exact ShEq.sl
    | ((fail_if_success refine Side.mk ?_); (fail_if_success refine Exists.intro ?_ ?_); (fail_if_success refine VLoop.mk ?_); (fail_if_success refine VCut.mk ?_); (fail_if_success refine REq.sl ?_); (fail_if_success refine Same.mk ?_); (fail_if_success refine DEq.mk ?_); (fail_if_success refine VCall.mk ?_); (fail_if_success refine SReg.go ?_); (fail_if_success refine QCall.mk ?_); (fail_if_success refine Dec.mk ?_); (fail_if_success show False); (fail_if_success show _ = _); cbv)
  · exact Side.mk (by decide)
  refine VCall.fr 1 _ rfl (Nat.zero_le _) ?_; cbv; refine VCall.fr 2 _ rfl (Nat.zero_le _) ?_; cbv; refine VCall.fr 3 _ rfl (Nat.zero_le _) ?_; cbv; refine VCall.fr 4 _ rfl (Nat.zero_le _) ?_; cbv
  refine VCall.mk' (.mk (counts_ok (fun _ => [(0, 0, 0, [])]) (fun _ => [0]) (fun _ => [1]) (fun _ => [3]) ⟨gb1, by unfold LB; simp, by unfold LB; simp, by unfold LB; simp⟩)) (.inl rfl) ?_
  repeat' first
    | (refine VIf.mk' ?_ ?_ <;> intro _)
    | (refine LenB.mk ?_; intro _)
    | refine And.intro ?_ ?_
    | exact trivial
    | refine Stop.mk ?_
    | exact ShEq.sl
    | refine VCall.mk' (.mk (same_ok _ _)) (.inr ⟨rfl, fun _ h => (List.not_mem_nil h).elim⟩) ?_
    | ((fail_if_success refine Side.mk ?_); (fail_if_success refine Exists.intro ?_ ?_); (fail_if_success refine VLoop.mk ?_); (fail_if_success refine VCut.mk ?_); (fail_if_success refine REq.sl ?_); (fail_if_success refine Same.mk ?_); (fail_if_success refine DEq.mk ?_); (fail_if_success refine VCall.mk ?_); (fail_if_success refine SReg.go ?_); (fail_if_success refine QCall.mk ?_); (fail_if_success refine Dec.mk ?_); (fail_if_success show False); (fail_if_success show _ = _); cbv)
  · exact Side.mk (decide_eq_true fix3)
  · rename_i h
    exact absurd fix1 (of_decide_eq_false h)
  · rename_i h
    exact absurd (congrArg Prod.fst fix4) (of_decide_eq_false h)
  · rename_i h
    exact absurd (congrArg Prod.fst fix2) (of_decide_eq_false h)

theorem placeL_bad {g : List Bk} {e w : List Int} (h : (placeF g e w).1 ≠ 0) : placeL g e w = [] := by unfold placeL; rw [if_neg h]

set_option maxHeartbeats 1000000 in
theorem law8_ok (g : Th (List Bk)) (e w : Th (List Int)) (h : Side fun _ => GB (g ⟨⟩) ∧ LB (e ⟨⟩) ∧ LB (w ⟨⟩)) :
    GCall Try.prog 8 [.d (blocks g), .d (ints e), .d (ints w)] (.d (bol fun _ => true)) [] := by
  refine g8 (tabOK 0 ms) rfl (Nat.le_of_ble_eq_true rfl) rfl ?_
  have hge : Side fun _ => GB (g ⟨⟩) ∧ LB (e ⟨⟩) := ⟨⟨h.h.1, h.h.2.1⟩⟩
  have hwl := h.h.2.2
  repeat' first
    | (refine VIf.mk' ?_ ?_ <;> intro _)
    | (refine LenB.mk ?_; intro _)
    | refine And.intro ?_ ?_
    | exact trivial
    | refine Stop.mk ?_
    | exact ShEq.sl
    | refine VCall.mk' (.mk (place_ok' _ _ _ h)) (.inl rfl) ?_
    | refine VCall.mk' (.mk (entf_ok _ _ hge)) (.inl rfl) ?_
    | refine VCall.mk' (.mk (counted_ok)) (.inl rfl) ?_
    | ((fail_if_success refine Side.mk ?_); (fail_if_success refine Exists.intro ?_ ?_); (fail_if_success refine VLoop.mk ?_); (fail_if_success refine VCut.mk ?_); (fail_if_success refine REq.sl ?_); (fail_if_success refine Same.mk ?_); (fail_if_success refine DEq.mk ?_); (fail_if_success refine VCall.mk ?_); (fail_if_success refine SReg.go ?_); (fail_if_success refine QCall.mk ?_); (fail_if_success refine Dec.mk ?_); (fail_if_success show False); (fail_if_success show _ = _); cbv)
  all_goals try simp only [ncast, decide_eq_true_eq, decide_eq_false_iff_not, Decidable.not_not, Bool.not_eq_true', Bool.not_eq_false', cond_t, cond_f, toNat_cast] at *
  · rename_i h0
    obtain ⟨_, hG, hE⟩ := entF_good h0
    have hpf : placeF (g ⟨⟩) (e ⟨⟩) (w ⟨⟩) = wtF (w ⟨⟩) (edgesL (g ⟨⟩) (e ⟨⟩)).length := by unfold placeF; rw [if_pos h0]
    have hEd : Side fun _ => EdPre (g ⟨⟩) (e ⟨⟩) := ⟨⟨hG, hE⟩⟩
    have hlen := edgesL_len hG hE
    have hrng := fun x hx => edgesL_rng (x := x) hG hE hx
    have hpl : placeL (g ⟨⟩) (e ⟨⟩) (w ⟨⟩) = if (wtF (w ⟨⟩) (edgesL (g ⟨⟩) (e ⟨⟩)).length).1 = 0 then placedL (edgesL (g ⟨⟩) (e ⟨⟩)) (w ⟨⟩) else [] := by unfold placeL; rw [hpf]
    have hre := GCall.frz (by rfl) (redges_ok g e hEd)
    repeat' first
      | (refine VIf.mk' ?_ ?_ <;> intro _)
      | (refine LenB.mk ?_; intro _)
      | refine And.intro ?_ ?_
      | exact trivial
      | refine Stop.mk ?_
      | exact ShEq.sl
      | refine VCall.mk' (.mk (hre)) (.inl rfl) ?_
      | refine VCall.mk' (.mk (wtf_ok _ _ (edgesL (g ⟨⟩) (e ⟨⟩)).length ⟨by simp only [ncast]; omega, by simp only [ncast]; omega, hwl⟩)) (.inl rfl) ?_
      | refine VCall.mk' (.mk (counted_ok)) (.inl rfl) ?_
      | ((fail_if_success refine Side.mk ?_); (fail_if_success refine Exists.intro ?_ ?_); (fail_if_success refine VLoop.mk ?_); (fail_if_success refine VCut.mk ?_); (fail_if_success refine REq.sl ?_); (fail_if_success refine Same.mk ?_); (fail_if_success refine DEq.mk ?_); (fail_if_success refine VCall.mk ?_); (fail_if_success refine SReg.go ?_); (fail_if_success refine QCall.mk ?_); (fail_if_success refine Dec.mk ?_); (fail_if_success show False); (fail_if_success show _ = _); cbv)
    all_goals try simp only [ncast, decide_eq_true_eq, decide_eq_false_iff_not, Decidable.not_not, Bool.not_eq_true', Bool.not_eq_false', cond_t, cond_f, toNat_cast] at *
    · exact Side.mk trivial
    · rename_i h1 _ h
      rw [hpl, if_neg h1] at h
      exact absurd rfl h
    · rename_i h
      rw [hpf] at h
      simp at h
    · exact Side.mk trivial
    · rename_i h1 _ _
      obtain ⟨_, hwL, _⟩ := wtF_good h1
      rw [if_pos h1] at hpl
      have hPl : Side fun _ => PlPre (edgesL (g ⟨⟩) (e ⟨⟩)) (w ⟨⟩) := ⟨⟨by omega, hwL, fun x hx => by have := hrng x hx; omega⟩⟩
      refine VCall.mk' (.mk (placed_ok _ _ hPl)) (.inl rfl) ?_
      repeat' first
        | (refine VIf.mk' ?_ ?_ <;> intro _)
        | (refine LenB.mk ?_; intro _)
        | refine And.intro ?_ ?_
        | exact trivial
        | refine Stop.mk ?_
        | exact ShEq.sl
        | refine VCall.mk' (.mk (same_ok _ _)) (.inl rfl) ?_
        | refine VCall.mk' (.mk (counted_ok)) (.inl rfl) ?_
        | ((fail_if_success refine Side.mk ?_); (fail_if_success refine Exists.intro ?_ ?_); (fail_if_success refine VLoop.mk ?_); (fail_if_success refine VCut.mk ?_); (fail_if_success refine REq.sl ?_); (fail_if_success refine Same.mk ?_); (fail_if_success refine DEq.mk ?_); (fail_if_success refine VCall.mk ?_); (fail_if_success refine SReg.go ?_); (fail_if_success refine QCall.mk ?_); (fail_if_success refine Dec.mk ?_); (fail_if_success show False); (fail_if_success show _ = _); cbv)
      all_goals try simp only [ncast, decide_eq_true_eq, decide_eq_false_iff_not, Decidable.not_not, Bool.not_eq_true', Bool.not_eq_false', cond_t, cond_f, toNat_cast] at *
      · exact Side.mk trivial
      · rename_i h
        exact absurd hpl h
    · rename_i h1 _ h
      rw [hpf] at h
      exact absurd h1 h
  all_goals first
    | (exfalso; rename_i h1 h2; exact h1 h2)
    | exact Side.mk trivial
    | (exfalso
       have hpf : placeF (g ⟨⟩) (e ⟨⟩) (w ⟨⟩) = entF (g ⟨⟩) (e ⟨⟩) := by unfold placeF; rw [if_neg ‹_›]
       have hpl : placeL (g ⟨⟩) (e ⟨⟩) (w ⟨⟩) = [] := placeL_bad (by rw [hpf]; assumption)
       rename_i h
       first
         | (rw [hpl] at h; exact h rfl)
         | (rw [hpf] at h; simp at h))
end Go.Eng
