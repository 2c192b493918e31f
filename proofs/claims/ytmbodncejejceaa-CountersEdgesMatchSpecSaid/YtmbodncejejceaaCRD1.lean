/- Lists of calls that came in. -/
import Derived.Test.YtmbodncejejceaaCRD0
import Derived.SizedLaws
import Derived.ChangeSlices
set_option linter.all false

namespace Go.Eng
open Go Go.ChangeShapes Go.WideShapes Go.Deep Go.Proofs

section
variable {H : Type} {enc : TypeId × Value → H} {w : World} {base : Nat} {spare : Nat → Bool} {held : Bool}

/-- A list of whole numbers that came in is no longer than its weight allows. -/
theorem sized_ints {P : Program} {t e : TypeId} {k : IntKind} {a : Option Addr} {len cap : Nat} {d : DataW H} {ps : List MemPlace} {ts : List TypeId} {ds : List (DataW H)} {j B : Nat}
    (hsz : (DataW.weightsEach P ts ds).all (· ≤ reachBytes) = true) (ht : ts[j]? = some t) (hd : ds[j]? = some d) (hu : P.underlying t = some (.slice e)) (he : P.underlying e = some (.int k)) (hc : P.cellsOf e = 1) (hB : P.bytesOf e = B)
    (h : DataW.Trod enc P w base spare held t (.slice a len cap) d ps) : len * B ≤ 140737488351232 := by
  obtain ⟨fuel, hf⟩ := h
  rcases open_ints hu he hc hf with ⟨hcs, _⟩ | ⟨x, l, c, zs, hcs, _, hl, _, hz, hx, _, _⟩
  · simp [Value.cells] at hcs
    rw [hcs.2.1]; simp
  · simp [Value.cells] at hcs
    obtain ⟨rfl, rfl, rfl⟩ := hcs
    obtain ⟨hx, _⟩ := Prod.mk.inj hx
    subst hx
    have z := sized_slice hsz ht hd hu
    rw [hB] at z
    have hl2 : len ≤ zs.length := by
      rw [hz]; split
      · exact hl
      · exact Nat.le_refl _
    have h1 : (lits (H := H) k (zs.take len)).length + (lits (H := H) k (zs.drop len)).length = zs.length := by
      simp [lits]; omega
    rw [h1] at z
    exact Nat.le_trans (Nat.mul_le_mul_right _ hl2) z

theorem rd_nears {fuel : Nat} {cs : List Value} {x : DataW H × List MemPlace} (h : DataW.trod enc Try.prog w base spare held fuel 23 cs = some x) :
    ∃ (a : Option Addr) (len cap : Nat) (xs : List Near), cs = [.slice a len cap] ∧ xs.length = len ∧ RD w (Old w) (.slice a len cap) (nears fun _ => xs) :=
  rd_slice (esz := 3) Try.underlying23 (by kernel_rfl) (by omega) (fun _ => rfl) (fun n cs' y hy hl => by
    obtain ⟨n', hf⟩ := rd_fields Try.underlying40 (by kernel_rfl) (by kernel_rfl) hl hy
    obtain ⟨_, h0⟩ := hf 0 _ rfl
    obtain ⟨_, h1⟩ := hf 1 _ rfl
    obtain ⟨_, h2⟩ := hf 2 _ rfl
    obtain ⟨k0, e0⟩ := rd_int Try.underlying3 h0
    obtain ⟨k1, e1⟩ := rd_int Try.underlying3 h1
    obtain ⟨k2, e2⟩ := rd_int Try.underlying3 h2
    refine ⟨(k0, k1, k2), fun j d hd => ?_⟩
    match j with
    | 0 => simp at hd; subst hd; rw [(List.cons.inj e0).1]; exact RD.i .i64 (fun _ => k0)
    | 1 => simp at hd; subst hd; rw [(List.cons.inj e1).1]; exact RD.i .i64 (fun _ => k1)
    | 2 => simp at hd; subst hd; rw [(List.cons.inj e2).1]; exact RD.i .i64 (fun _ => k2)
    | j + 3 => simp at hd) h
end
end Go.Eng
