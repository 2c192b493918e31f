/- CountersEdgesMatchSpec: for every input the law returns true, and its arguments read as before. -/
import Derived.Test.YtmbodncejejceaaRows
import Derived.Test.YtmbodncejejceaaCG12
import Derived.Test.YtmbodncejejceaaCRD2
import Derived.Test.YtmbodncejejceaaCHD
import Derived.WalkKit
import Derived.ProofKit
import Derived.OpenShut
import Derived.ShutString
import Derived.ChangeOld
import Derived.Below
import Derived.SizedLaws
set_option linter.all false

namespace Go.Proofs.Ytmbodncejejceaa.countersEdgesMatchSpec
open Go.ChangeShapes Go.WideShapes Go.ChangeAt Go.RowKit Go.Eng

set_option maxRecDepth 100000 in
theorem lifted (os : Os) (started : os.Started) (H : Type) (enc : TypeId × Value → H) :
    ReturnsInHanded {} Try.checked os 12 .any (Rows.countersEdgesMatchSpecSpec.pre6 enc Try.prog Try.f12 Rows.countersEdgesMatchSpecRow.domain false) (Rows.countersEdgesMatchSpecSpec.post enc Try.prog Try.f12 false true false false) := by
  refine returnsInHanded_of_change_sized (C := Try.checked) ownHead started (by kernel_rfl) Try.func12
    (ChangeSpec.witness6 (enc := enc) (C := Try.checked) false ⟨#[], #[.slice none 0 0, .slice none 0 0], []⟩ 8 (by kernel_rfl) (by kernel_rfl) (by kernel_rfl) (by kernel_rfl)) ?_
  intro W base args ds gs before hval0 hW hcnd hsz0 _
  have hsz : (DataW.weightsEach Try.prog (Try.f12.params.toList ++ Rows.countersEdgesMatchSpecSpec.plain.varTypes Try.prog) (ds ++ gs)).all (· ≤ reachBytes) = true := hsz0
  have hval : ∀ (j : Nat) t v, Try.f12.params[j]? = some t → args[j]? = some v → Value.okWide Try.prog W .any base t v := hval0
  have hW' := hW
  obtain ⟨p, q, hA0, hV, rfl, hfz, hnd⟩ := hW
  have hA : DataW.TrodAll enc Try.prog W 0 (fun _ => true) true Try.f12.params.toList args.toList ds p := hA0
  rw [Try.params12] at hA hval hsz
  obtain ⟨v0, vs0, d0, ds0, p0, q0, hargs, rfl, rfl, h0, r0⟩ := trodAll_cons hA
  obtain ⟨v1, vs1, d1, ds1, p1, q1, rfl, rfl, rfl, h1, r1⟩ := trodAll_cons r0
  obtain ⟨rfl, rfl, rfl⟩ := trodAll_nil r1
  obtain rfl : args = #[v0, v1] := by cases args; simp_all
  obtain ⟨rfl, rfl⟩ := trodVars_none hV
  obtain ⟨a0, len0, cap0, rfl⟩ := okWide_slice Try.underlying44 (hval 0 44 v0 rfl rfl)
  have k0 := h0
  have lt0 : ∀ x ∈ p0, x.block < W.heap.size := by obtain ⟨m, hm⟩ := k0; exact DataW.trod_lt m _ _ _ hm
  obtain ⟨f0, e0⟩ := h0
  obtain ⟨b0, l0, c0, x0, hc0, n0, R0, g0⟩ := rd_blocks (wts_of hsz (j := 0) (t := 44) rfl rfl) e0
  simp only [Value.cells, List.cons.injEq, and_true] at hc0
  rw [← hc0] at R0
  obtain ⟨a1, len1, cap1, rfl⟩ := okWide_slice Try.underlying22 (hval 1 22 v1 rfl rfl)
  have k1 := h1
  have lt1 : ∀ x ∈ p1, x.block < W.heap.size := by obtain ⟨m, hm⟩ := k1; exact DataW.trod_lt m _ _ _ hm
  have y1 : len1 * 8 ≤ 140737488351232 := sized_ints hsz (j := 1) (t := 22) rfl rfl Try.underlying22 Try.underlying3 (by kernel_rfl) (by kernel_rfl) h1
  obtain ⟨f1, e1⟩ := h1
  obtain ⟨b1, l1, c1, x1, hc1, n1, R1⟩ := rd_ints Try.underlying22 Try.underlying3 (by kernel_rfl) e1
  simp only [Value.cells, List.cons.injEq, and_true] at hc1
  rw [← hc1] at R1
  have g1 : LB x1 := by have := Value.slice.inj hc1; unfold LB; omega
  refine (law12_ok (fun _ => x0) (fun _ => x1) ⟨⟨g0, g1⟩⟩ W (Old W) [.slice a0 len0 cap0, .slice a1 len1 cap1] [] (fun b hb => hb) (.d R0 (.d R1 .nil))).mono ?_
  rintro e W' ⟨v, S', G, rfl, hext, _, _, hres, _, _⟩
  cases hres with
  | d hr =>
  cases hr with
  | b bv =>
  have bel := below_of_ext hext
  exact ⟨_, rfl, _, _, _, [], _, [], hW', trodAll_mk1 (shut_bool Try.underlying4 _), (trodAll_cons_mk (Below.trod laidOut (by kernel_rfl) (of_decide_eq_true (by kernel_rfl)) k0 bel lt0) (trodAll_cons_mk (Below.trod laidOut (by kernel_rfl) (of_decide_eq_true (by kernel_rfl)) k1 bel lt1) trodAll_mk0)), rfl, bel.frame _, fun h => by cases h⟩
theorem joined : joinedFacts Try.prog 12 Try.f12 Rows.countersEdgesMatchSpecSpec Rows.countersEdgesMatchSpecRow = true :=
  joined_of (by kernel_rfl) laidOut (by kernel_rfl) (by kernel_rfl) (by kernel_rfl) (by kernel_rfl) (by kernel_rfl) (by kernel_rfl) (by kernel_rfl) (by kernel_rfl) (by kernel_rfl) (by kernel_rfl) (by kernel_rfl) (by kernel_rfl) (by kernel_rfl) (by kernel_rfl) (by kernel_rfl) (by kernel_rfl) head_enter (lifted_of rfl) (made_of rfl) (by kernel_rfl) (by kernel_rfl)
theorem over : Rows.countersEdgesMatchSpecRow.holds Try.pinned (OpenSpec.ofChange Rows.countersEdgesMatchSpecSpec) :=
  OpenClaim.holds_of_wide 12 Try.f12 rfl rfl rfl rfl rfl rfl rfl ⟨rfl, rfl, rfl, rfl, rfl⟩ rfl rfl rfl rfl rfl (by kernel_rfl) Try.func12 joined
    (of_decide_eq_true (by kernel_rfl)) (by unfold Func.isWrapper; first | (rw [if_pos (by decide +kernel)]; kernel_rfl) | (rw [if_neg (by decide +kernel)]; exact ⟨rfl, rfl⟩))
    (fun os started H enc _ => lifted os started H enc)
theorem proved : Rows.CountersEdgesMatchSpecSaid := over
end Go.Proofs.Ytmbodncejejceaa.countersEdgesMatchSpec
namespace Go.Proofs.Ytmbodncejejceaa
/-- The row, under a short name, for the claim. -/
theorem countersEdgesMatchSpec_holds : Rows.CountersEdgesMatchSpecSaid := countersEdgesMatchSpec.proved
end Go.Proofs.Ytmbodncejejceaa
#print axioms Go.Proofs.Ytmbodncejejceaa.countersEdgesMatchSpec_holds
