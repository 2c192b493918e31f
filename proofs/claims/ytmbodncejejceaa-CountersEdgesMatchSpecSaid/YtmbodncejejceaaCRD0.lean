/- Arguments that read as data, as the engine reads them. -/
import Derived.Deep.Slices
import Derived.Deep.Fields
import Derived.ChangeSame
import Derived.Test.YtmbodncejejceaaCFam
set_option linter.all false

namespace Go.Eng
open Go Go.ChangeShapes Go.WideShapes Go.Deep Go.Proofs

def Old (w : World) : Nat → Prop := fun b => b < w.heap.size

section
variable {H : Type} {enc : TypeId × Value → H} {P : Program} {w : World} {base : Nat} {spare : Nat → Bool} {held : Bool}

theorem rd_slice {t e : TypeId} {fuel esz : Nat} {cs : List Value} {x : DataW H × List MemPlace} {α : Type} {cells : Th α → List D} {d0 : α} (ht : P.underlying t = some (.slice e)) (hC : P.cellsOf e = esz) (h0 : 0 < esz) (hlen : ∀ x, (cells fun _ => x).length = esz)
    (hdec : ∀ (n : Nat) (cs' : List Value) (y : DataW H × List MemPlace), DataW.trod enc P w base spare held n e cs' = some y → cs'.length = esz → ∃ x : α, ∀ (j : Nat) (d : D), (cells fun _ => x)[j]? = some d → RD w (Old w) (cs'.getD j undef) d)
    (h : DataW.trod enc P w base spare held fuel t cs = some x) : ∃ (a : Option Addr) (len cap : Nat) (xs : List α), cs = [.slice a len cap] ∧ xs.length = len ∧ RD w (Old w) (.slice a len cap) (.sl esz cells d0 fun _ => xs) := by
  rcases open_slice ht h with ⟨hcs, _⟩ | ⟨a, len, cap, m, n, D, Pl, hcs, hb, hl, hm, hmm, hx, hi⟩
  · exact ⟨none, 0, 0, [], hcs, rfl, .nilsl _ _ rfl⟩
  · rw [hC] at hi
    have hlm : len ≤ m := by rw [hmm]; split <;> omega
    have hc : ∀ i, ∃ (cs' : List Value) (x : α), i < len → cs'.length = esz ∧ (∀ j, j < esz → w.cell? (a.add (i * esz + j)) = cs'[j]?) ∧ ∀ (j : Nat) (d : Eng.D), (cells fun _ => x)[j]? = some d → RD w (Old w) (cs'.getD j undef) d := by
      intro i
      by_cases hil : i < len
      · obtain ⟨cs', hcs', ht'⟩ := hi i (by omega)
        obtain ⟨_, hcl, hat⟩ := World.cells?_some hcs'
        obtain ⟨y, hy⟩ := hdec n cs' _ ht' hcl
        exact ⟨cs', y, fun _ => ⟨hcl, fun j hj => by rw [← Go.Deep.add_add]; exact hat j hj, hy⟩⟩
      · exact ⟨[], d0, fun h => absurd h hil⟩
    have hc1 := fun i => Classical.choose_spec (hc i)
    let cf : Nat → List Value := fun i => Classical.choose (hc i)
    have hc2 := fun i => Classical.choose_spec (hc1 i)
    let xf : Nat → α := fun i => Classical.choose (hc1 i)
    have hcx : ∀ i, i < len → (cf i).length = esz ∧ (∀ j, j < esz → w.cell? (a.add (i * esz + j)) = (cf i)[j]?) ∧ ∀ (j : Nat) (d : Eng.D), (cells fun _ => xf i)[j]? = some d → RD w (Old w) ((cf i).getD j undef) d := fun i hil => hc2 i hil
    refine ⟨some a, len, cap, (List.range len).map xf, hcs, by simp, ?_⟩
    by_cases hz : len = 0
    · subst hz; exact .nilsl _ _ rfl
    · obtain ⟨k1, k2, k3⟩ := hcx 0 (by omega)
      have hcell0 := k2 0 h0
      have hs0 : (cf 0)[0]? = some ((cf 0)[0]'(by omega)) := List.getElem?_eq_getElem (by omega)
      rw [hs0] at hcell0
      have hadd : a.add (0 * esz + 0) = a := by simp [Addr.add]
      rw [hadd] at hcell0
      obtain ⟨b, o, sp⟩ := a
      have hsp : sp = none := by
        cases sp with
        | none => rfl
        | some k =>
          exfalso
          unfold World.cell? at hcell0
          simp only at hcell0
          split at hcell0
          · simp at hcell0
          · cases hcell0
      subst hsp
      have hbl : b < w.heap.size := World.block_lt_of_cell? _ _ hcell0
      refine RD.sl b o len cap (fun i => (cf (i / esz)).getD (i % esz) undef) hbl (by simp) (fun x _ => hlen x) (fun i hi => ?_) (fun i j d hil hd => ?_) ⟨hl, Nat.le_trans hl hm⟩
      · have h1 : i / esz < len := Nat.div_lt_of_lt_mul (by rw [Nat.mul_comm]; exact hi)
        have h2 : i % esz < esz := Nat.mod_lt _ h0
        obtain ⟨q1, q2, q3⟩ := hcx (i / esz) h1
        have := q2 (i % esz) h2
        rw [show i / esz * esz + i % esz = i by rw [Nat.mul_comm]; exact Nat.div_add_mod i esz] at this
        rw [Addr.add_lit] at this
        rw [this]
        simp [List.getD_eq_getElem?_getD, List.getElem?_eq_getElem (show i % esz < (cf (i / esz)).length by omega)]
      · have hj : j < esz := by
          have := (List.getElem?_eq_some_iff.1 hd).1
          rwa [hlen] at this
        obtain ⟨q1, q2, q3⟩ := hcx i hil
        have e1 : (i * esz + j) / esz = i := by rw [Nat.mul_comm, Nat.mul_add_div h0, Nat.div_eq_of_lt hj, Nat.add_zero]
        have e2 : (i * esz + j) % esz = j := by rw [Nat.mul_comm, Nat.mul_add_mod, Nat.mod_eq_of_lt hj]
        simp only [e1, e2]
        refine q3 j d ?_
        have : ((List.range len).map xf)[i]?.getD d0 = xf i := by simp [hil]
        rw [List.getD_eq_getElem?_getD, this] at hd
        exact hd

theorem rd_int {t : TypeId} {n : Nat} {cs : List Value} {x : DataW H × List MemPlace} (ht : P.underlying t = some (.int .i64)) (h : DataW.trod enc P w base spare held n t cs = some x) : ∃ k : Int, cs = [.int .i64 k] := by
  obtain ⟨k, hk, _⟩ := DataW.trod_int ht h
  exact ⟨k, hk⟩

theorem rd_ints {t e : TypeId} {fuel : Nat} {cs : List Value} {x : DataW H × List MemPlace} (ht : P.underlying t = some (.slice e)) (he : P.underlying e = some (.int .i64)) (hC : P.cellsOf e = 1) (h : DataW.trod enc P w base spare held fuel t cs = some x) :
    ∃ (a : Option Addr) (len cap : Nat) (xs : List Int), cs = [.slice a len cap] ∧ xs.length = len ∧ RD w (Old w) (.slice a len cap) (ints fun _ => xs) :=
  rd_slice ht hC (by omega) (fun _ => rfl) (fun n cs' y hy hl => by
    obtain ⟨k, rfl⟩ := rd_int he hy
    refine ⟨k, fun j d hd => ?_⟩
    cases j with
    | zero => simp at hd; subst hd; exact RD.i .i64 (fun _ => k)
    | succ j => simp at hd) h

/-- The fields of a struct of cells of one word. -/
theorem rd_fields {e : TypeId} {fs : Array Field} {n : Nat} {cs' : List Value} {y : DataW H × List MemPlace} (he : P.underlying e = some (.struct fs)) (hone : oneCellFields P fs = true) (hC : P.cellsOf e = fs.size) (hl : cs'.length = fs.size) (h : DataW.trod enc P w base spare held n e cs' = some y) :
    ∃ n', ∀ (j : Nat) (f : Field), fs[j]? = some f → ∃ y', DataW.trod enc P w base spare held n' f.type [cs'.getD j undef] = some y' := by
  obtain ⟨ys, n', hn', hy, hlen, hyl, hf⟩ := DataW.trod_struct he h
  refine ⟨n', fun j f hj => ?_⟩
  obtain ⟨ho, hk⟩ := hone_of hone j f hj
  have hjl : j < fs.size := (Array.getElem?_eq_some_iff.1 hj).1
  have h1 := hf j f hj
  rw [ho, hk] at h1
  have hone' : (cs'.drop j).take 1 = [cs'.getD j undef] := by
    rw [List.drop_eq_getElem_cons (by omega), List.getD_eq_getElem?_getD, List.getElem?_eq_getElem (by omega)]
    rfl
  rw [hone'] at h1
  have hys : ys[j]? = some (ys[j]'(by omega)) := List.getElem?_eq_getElem (by omega)
  exact ⟨_, h1.trans hys⟩

end
end Go.Eng
