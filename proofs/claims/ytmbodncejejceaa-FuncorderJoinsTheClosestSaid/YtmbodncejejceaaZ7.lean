/- FuncorderJoinsTheClosest: for every input the law returns true, and its arguments read as before. -/
import Derived.Test.YtmbodncejejceaaRows
import Derived.Test.YtmbodncejejceaaF18
import Derived.Test.YtmbodncejejceaaRD1
import Derived.Test.YtmbodncejejceaaHD
import Derived.WalkKit
import Derived.ProofKit
import Derived.OpenShut
import Derived.ShutString
import Derived.ChangeOld
import Derived.Below
import Derived.SizedLaws
set_option linter.all false
namespace Go.Proofs.Ytmbodncejejceaa.funcorderJoinsTheClosest
open Go.ChangeShapes Go.WideShapes Go.ChangeAt Go.RowKit Go.Eng

set_option maxRecDepth 100000 in
theorem lifted (os : Os) (started : os.Started) (H : Type) (enc : TypeId × Value → H) :
    ReturnsInHanded {} Try.checked os 7 .any (Rows.funcorderJoinsTheClosestSpec.pre6 enc Try.prog Try.f7 Rows.funcorderJoinsTheClosestRow.domain false) (Rows.funcorderJoinsTheClosestSpec.post enc Try.prog Try.f7 false true false false) := by
  refine returnsInHanded_of_change_sized (C := Try.checked) ownHead started (by kernel_rfl) Try.func7
    (ChangeSpec.witness6 (enc := enc) (C := Try.checked) false ⟨#[], #[.slice none 0 0, .slice none 0 0, .int .i64 0, .int .i64 0], []⟩ 8 (by kernel_rfl) (by kernel_rfl) (by kernel_rfl) (by kernel_rfl)) ?_
  intro W base args ds gs before hval0 hW hcnd hsz0 _
  have hsz : (DataW.weightsEach Try.prog (Try.f7.params.toList ++ Rows.funcorderJoinsTheClosestSpec.plain.varTypes Try.prog) (ds ++ gs)).all (· ≤ reachBytes) = true := hsz0
  have hval : ∀ (j : Nat) t v, Try.f7.params[j]? = some t → args[j]? = some v → Value.okWide Try.prog W .any base t v := hval0
  have hW' := hW
  obtain ⟨p, q, hA0, hV, rfl, hfz, hnd⟩ := hW
  have hA : DataW.TrodAll enc Try.prog W 0 (fun _ => true) true Try.f7.params.toList args.toList ds p := hA0
  rw [Try.params7] at hA hval hsz
  obtain ⟨v0, vs0, d0, ds0, p0, q0, hargs, rfl, rfl, h0, r0⟩ := trodAll_cons hA
  obtain ⟨v1, vs1, d1, ds1, p1, q1, rfl, rfl, rfl, h1, r1⟩ := trodAll_cons r0
  obtain ⟨v2, vs2, d2, ds2, p2, q2, rfl, rfl, rfl, h2, r2⟩ := trodAll_cons r1
  obtain ⟨v3, vs3, d3, ds3, p3, q3, rfl, rfl, rfl, h3, r3⟩ := trodAll_cons r2
  obtain ⟨rfl, rfl, rfl⟩ := trodAll_nil r3
  obtain rfl : args = #[v0, v1, v2, v3] := by cases args; simp_all
  obtain ⟨rfl, rfl⟩ := trodVars_none hV
  obtain ⟨a0, len0, cap0, rfl⟩ := okWide_slice Try.underlying22 (hval 0 22 v0 rfl rfl)
  have k0 := h0
  have lt0 : ∀ x ∈ p0, x.block < W.heap.size := by obtain ⟨m, hm⟩ := k0; exact DataW.trod_lt m _ _ _ hm
  have y0 : len0 * 8 ≤ 140737488351232 := sized_ints hsz (j := 0) (t := 22) rfl rfl Try.underlying22 Try.underlying3 (by kernel_rfl) (by kernel_rfl) h0
  obtain ⟨f0, e0⟩ := h0
  obtain ⟨b0, l0, c0, x0, hc0, n0, R0⟩ := rd_ints Try.underlying22 Try.underlying3 (by kernel_rfl) e0
  simp only [Value.cells, List.cons.injEq, and_true] at hc0
  rw [← hc0] at R0
  have z0 : x0.length * 8 ≤ 140737488355328 := by have := Value.slice.inj hc0; omega
  obtain ⟨a1, len1, cap1, rfl⟩ := okWide_slice Try.underlying23 (hval 1 23 v1 rfl rfl)
  have k1 := h1
  have lt1 : ∀ x ∈ p1, x.block < W.heap.size := by obtain ⟨m, hm⟩ := k1; exact DataW.trod_lt m _ _ _ hm
  obtain ⟨f1, e1⟩ := h1
  obtain ⟨b1, l1, c1, x1, hc1, n1, R1⟩ := rd_nears e1
  simp only [Value.cells, List.cons.injEq, and_true] at hc1
  rw [← hc1] at R1
  obtain ⟨a2, rfl, rfl, rfl, w2⟩ := open_int Try.underlying3 (hval 2 3 v2 rfl rfl) h2
  obtain ⟨a3, rfl, rfl, rfl, w3⟩ := open_int Try.underlying3 (hval 3 3 v3 rfl rfl) h3
  refine (law7_ok (fun _ => x0) (fun _ => x1) (fun _ => a2) (fun _ => a3)  W (Old W) [.slice a0 len0 cap0, .slice a1 len1 cap1, .int .i64 a2, .int .i64 a3] [] (fun b hb => hb) (.d R0 (.d R1 (.d (.i .i64 (fun _ => a2)) (.d (.i .i64 (fun _ => a3)) .nil))))).mono ?_
  rintro e W' ⟨v, S', G, rfl, hext, _, _, hres, _, _⟩
  cases hres with
  | d hr =>
  cases hr with
  | b bv =>
  have bel := below_of_ext hext
  exact ⟨_, rfl, _, _, _, [], _, [], hW', trodAll_mk1 (shut_bool Try.underlying4 _), (trodAll_cons_mk (Below.trod laidOut (by kernel_rfl) (of_decide_eq_true (by kernel_rfl)) k0 bel lt0) (trodAll_cons_mk (Below.trod laidOut (by kernel_rfl) (of_decide_eq_true (by kernel_rfl)) k1 bel lt1) (trodAll_cons_mk (shut_int Try.underlying3 w2) (trodAll_cons_mk (shut_int Try.underlying3 w3) trodAll_mk0)))), rfl, bel.frame _, fun h => by cases h⟩
theorem joined : joinedFacts Try.prog 7 Try.f7 Rows.funcorderJoinsTheClosestSpec Rows.funcorderJoinsTheClosestRow = true :=
  joined_of (by kernel_rfl) laidOut (by kernel_rfl) (by kernel_rfl) (by kernel_rfl) (by kernel_rfl) (by kernel_rfl) (by kernel_rfl) (by kernel_rfl) (by kernel_rfl) (by kernel_rfl) (by kernel_rfl) (by kernel_rfl) (by kernel_rfl) (by kernel_rfl) (by kernel_rfl) (by kernel_rfl) (by kernel_rfl) head_enter (lifted_of rfl) (made_of rfl) (by kernel_rfl) (by kernel_rfl)
theorem over : Rows.funcorderJoinsTheClosestRow.holds Try.pinned (OpenSpec.ofChange Rows.funcorderJoinsTheClosestSpec) :=
  OpenClaim.holds_of_wide 7 Try.f7 rfl rfl rfl rfl rfl rfl rfl ⟨rfl, rfl, rfl, rfl, rfl⟩ rfl rfl rfl rfl rfl (by kernel_rfl) Try.func7 joined
    (of_decide_eq_true (by kernel_rfl)) (by unfold Func.isWrapper; first | (rw [if_pos (by decide +kernel)]; kernel_rfl) | (rw [if_neg (by decide +kernel)]; exact ⟨rfl, rfl⟩))
    (fun os started H enc _ => lifted os started H enc)
theorem proved : Rows.FuncorderJoinsTheClosestSaid := over
end Go.Proofs.Ytmbodncejejceaa.funcorderJoinsTheClosest
namespace Go.Proofs.Ytmbodncejejceaa
/-- The row, under a short name, for the claim. -/
theorem funcorderJoinsTheClosest_holds : Rows.FuncorderJoinsTheClosestSaid := funcorderJoinsTheClosest.proved
end Go.Proofs.Ytmbodncejejceaa
#print axioms Go.Proofs.Ytmbodncejejceaa.funcorderJoinsTheClosest_holds
