/- The contract of the reference's seam. -/
import Derived.Test.YtmbodncejejceaaBF18
import Derived.Test.YtmbodncejejceaaBC1
set_option linter.all false

namespace Go.Eng
open Go.Proofs
attribute [local irreducible] vc vops gop step fins fin finP cov covEnv covRows

theorem seam_ok (c : Th (List Near)) (w : Th (List (List Int))) (hg : goodCalls (c ())) (hl : (w ()).length = 2) (ha : (w ()).getD 0 [] ≠ []) (hb : (w ()).getD 1 [] ≠ []) (hal : ((w ()).getD 0 []).length ≤ 1000000) :
    GCall Try.prog 59 [.d (nears c), .d (lists w)] (.d (num fun _ => seamW (wt (c ())) ((w ()).getD 0 [], (w ()).getD 1 []))) [] := by
  have h1 := List.length_pos_iff.2 ha
  have h2 := List.length_pos_iff.2 hb
  refine g59 (tabOK 0 mm) rfl (Nat.le_of_ble_eq_true rfl) rfl ?_
  have hgs : Side fun _ => goodCalls (c ⟨⟩) := ⟨hg⟩
  repeat' first
    | (refine VIf.mk' ?_ ?_ <;> intro _)
    | (refine LenB.mk ?_; intro _)
    | refine And.intro ?_ ?_
    | exact trivial
    | refine Stop.mk ?_
    | exact ShEq.sl
    | refine VCall.mk' (.mk (weight_side _ _ _ hgs)) (.inl rfl) ?_
    | ((fail_if_success refine Side.mk ?_); (fail_if_success refine Exists.intro ?_ ?_); (fail_if_success refine VLoop.mk ?_); (fail_if_success refine VCut.mk ?_); (fail_if_success refine REq.sl ?_); (fail_if_success refine Same.mk ?_); (fail_if_success refine DEq.mk ?_); (fail_if_success refine VCall.mk ?_); (fail_if_success show False); (fail_if_success show _ = _); cbv)
  all_goals try simp only [ncast, decide_eq_true_eq, decide_eq_false_iff_not, Decidable.not_not, Bool.not_eq_true', Bool.not_eq_false', cond_t, cond_f, toNat_cast] at *
  all_goals try simp only [Int.toNat_zero, show Int.toNat 1 = 1 from rfl]
  all_goals first
    | exact Side.mk (by omega)
    | exact Side.mk (i64 (by omega))
    | (refine Side.mk ?_
       have e1 : (((w ⟨⟩).getD 0 []).length - 1 : Int).toNat = ((w ⟨⟩).getD 0 []).length - 1 := by omega
       rw [e1]; rfl)

theorem turned_d (xs : Th (List Int)) (hl : (xs ()).length ≤ 1000000) : GCall Try.prog 58 [.d (ints xs)] (.d (ints fun _ => (xs ()).reverse)) [] := GCall.frz rfl (turned_ok xs hl)
theorem QCall.mk' {T : Tab} {f : FuncId} {ds : List D} {K : D → Prop} {x : D} (h : T.ct f (argsOfD ds) (.d x) []) (hk : K x) : QCall T f ds K := ⟨x, h, hk⟩
theorem SReg.frz' {T : Tab} {gs : List GOp} {K : St → Prop} {σ : St} (r : Nat) (x : Row) (hr : lkp σ.rows r = some x) (hb : T.base ≤ r) (h : softs T gs ((σ.freeze r x).calm T) K) : SReg T gs K σ := .frz r x hr hb (.go h)
end Go.Eng
