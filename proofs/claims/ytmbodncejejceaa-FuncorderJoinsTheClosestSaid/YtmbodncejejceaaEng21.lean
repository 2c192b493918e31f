/- The engine, part 21: what a proof about a function uses. -/
import Derived.Test.YtmbodncejejceaaEng18
set_option linter.all false
namespace Go.Eng

theorem vc_e1 (T : Tab) (σ : St) (kn kx kr) : vc T .skip σ kn kx kr = kn σ := by rw [vc.eq_1]
theorem vops_e1 (T : Tab) (σ : St) (K) : vops T [] σ K = K σ := by rw [vops.eq_1]
theorem gop_e1 (T : Tab) (d : Option Nat) (op : IOp) (σ : St) (K) : gop T ⟨none, d, op⟩ σ K = step T op σ fun σ v => K (σ.setO d v) := by rw [gop.eq_def]
theorem step_e1 (T : Tab) (σ : St) (K) : step T .pan σ K = False := by rw [step.eq_def]
theorem fins_e1 (T : Tab) (σ : St) (K) : fins T [] [] σ K = K σ := by rw [fins.eq_1]
theorem fin_e1 (T : Tab) (l : List RV) (ag : List Arg) (R : Res) (xs : List Row) (σ : St) : fin T l ag R xs σ = fin T l ag R xs σ := by rw [fin.eq_def]
theorem finP_e1 (σ : St) (n : Nat) : finP σ n [] [] = True := by rw [finP.eq_1]
theorem cov_e1 (T : Tab) (σ τ : St) : cov T σ τ = (covRows T σ τ.rows ∧ covEnv σ τ τ.env) := by rw [cov.eq_1]
theorem covEnv_e1 (σ τ : St) : covEnv σ τ [] = True := by rw [covEnv.eq_1]
theorem covRows_e1 (T : Tab) (σ : St) : covRows T σ [] = True := by rw [covRows.eq_1]

theorem VIf.mk' {f : Th Bool} {p q : Unit → Prop} (h1 : f () = true → p ()) (h2 : f () = false → q ()) : VIf f p q := by
  cases h : f () with
  | true => exact .tt h (h1 h)
  | false => exact .ff h (h2 h)

theorem ncast (n : Nat) : @NatCast.natCast Int instNatCastInt n = (n : Int) := Eq.trans rfl rfl
theorem i64 {n : Int} (h : -9223372036854775808 ≤ n ∧ n ≤ 9223372036854775807) : inR .i64 n := ⟨h.1, h.2⟩
theorem side64 {f : Th Int} (h : -9223372036854775808 ≤ f () ∧ f () ≤ 9223372036854775807) : Side (fun _ => inR .i64 (f ())) := ⟨i64 h⟩

/-- A loop, by an invariant. -/
theorem VLoop.inv {T : Tab} {rd : St → (St → Prop) → Prop} {σ : St} {ι : Type} (I : ι → St) (C : ι → Prop) (μ : ι → Nat) (i : ι) (h0 : C i) (hc : cov T σ (I i))
    (hr : ∀ i, C i → rd (I i) fun σ' => ∃ j, C j ∧ μ j < μ i ∧ cov T σ' (I j)) : VLoop T rd σ := ⟨ι, I, C, μ, ⟨i, h0, hc⟩, hr⟩
theorem VCut.inv {T : Tab} {rd : (St → Prop) → Prop} {nx : St → Prop} {ι : Type} (I : ι → St) (C : ι → Prop) (h : rd fun σ' => ∃ j, C j ∧ cov T σ' (I j)) (hr : ∀ i, C i → nx (I i)) : VCut T rd nx := ⟨ι, I, C, h, hr⟩

end Go.Eng
