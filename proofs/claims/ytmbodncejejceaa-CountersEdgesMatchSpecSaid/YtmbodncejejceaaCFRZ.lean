/- A result that is a row, read as data. -/
import Derived.Test.YtmbodncejejceaaCEngB
import Derived.Laws.World
import Derived.ChangeAlike
set_option linter.all false

namespace Go.Eng

theorem cell_of_heap' {w : World} {g o ty : Nat} {cur : Array Value} {x : Value} (hg : w.heap[g]? = some (.cells cur ty (0, 0))) (hx : cur[o]? = some x) : w.cell? ⟨g, o, none⟩ = some x := by
  simp [World.cell?, hg, hx]

def allD : List Arg → Bool
  | [] => true
  | .d _ :: l => allD l
  | _ :: _ => false
theorem argsD {w : World} {S : Nat → Prop} {ag : List Arg} {vs : List Value} {Fs : List (Nat → Prop)} (h : ArgsOK w S ag vs Fs) : allD ag = true → Fs = [] ∧ ∀ w' S', RowsOK w' S' ag vs Fs [] := by
  induction h with
  | nil => exact fun _ => ⟨rfl, fun _ _ => .nil⟩
  | d h t ih => exact fun ha => ⟨(ih ha).1, fun w' S' => .d ((ih ha).2 w' S')⟩
  | row => intro ha; cases ha
  | take => intro ha; cases ha
theorem takenD : ∀ {ag : List Arg} {Fs : List (Nat → Prop)} {b : Nat}, allD ag = true → ¬ Taken ag Fs b
  | [], _, _, _ => fun h => by simp [Taken] at h
  | .d _ :: l, Fs, b, ha => fun h => takenD (ag := l) ha (by simpa [Taken] using h)
  | .row _ :: _, _, _, ha => by cases ha
  | .take _ :: _, _, _, ha => by cases ha

theorem RowOK.read {w : World} {S S' G : Nat → Prop} {v : Value} {s : Sh} {xs : Th (List s.α)} (h : RowOK w S G v (.sl s xs)) (hS : ∀ b, S b → S' b) (hG : ∀ b, G b → S' b) : RD w S' v (.sl s.esz s.cells s.d0 xs) := by
  cases h with
  | nil h => exact .nilsl none 0 h
  | sl g n cap cur hn hg hnc hm hc hlen hrd =>
    refine RD.sl g 0 n cap (fun i => cur.getD i undef) (hG g rfl) hn hlen (fun i hi => ?_) (fun i j d hi hd => (hrd i j d hi hd).mono hS fun _ _ => rfl) ⟨hnc, Nat.le_trans hnc hm⟩
    rw [Nat.zero_add]
    have hi' : i < cur.size := by
      rw [hc]
      exact Nat.lt_of_lt_of_le hi (Nat.mul_le_mul_right _ hnc)
    exact cell_of_heap' hg (by simp [Array.getD_eq_getD_getElem?, hi'])

theorem GCall.frz {P : Program} {f : FuncId} {ag : List Arg} {s : Sh} {xs : Th (List s.α)} (ha : allD ag = true) (h : GCall P f ag (.row (.sl s xs)) []) : GCall P f ag (.d (.sl s.esz s.cells s.d0 xs)) [] := by
  intro w S vs Fs hS hargs
  obtain ⟨hF, hR⟩ := argsD hargs ha
  refine (h w S vs Fs hS hargs).mono ?_
  rintro e w' ⟨v, S', H, rfl, hext, hSS, hS', hres, hH, _⟩
  cases hres with
  | row hrow =>
  refine ⟨v, fun b => S' b ∨ H b, fun _ => False, rfl, hext, fun b hb => .inl (hSS b hb), ?_, .d (hrow.read (fun b hb => .inl hb) fun b hb => .inr hb), fun _ h => h.elim, hR _ _⟩
  rintro b (hb | hb)
  · exact hS' b hb
  · refine ⟨(hH b hb).1, .inr ?_⟩
    rcases (hH b hb).2.2 with h1 | h1
    · exact h1
    · exact absurd h1 (takenD ha)
end Go.Eng
