/- The contract of funcorder.weights. -/
import Derived.Test.YtmbodncejejceaaBH5
import Derived.Test.YtmbodncejejceaaBH4
set_option linter.all false

namespace Go.Eng
open Go.Proofs

def gridL (c : List Near) (n : Nat) : List (List Int) := (List.range n).map fun (i : Nat) => (List.range n).map fun (j : Nat) => wt c i j
theorem gridL_len (c : List Near) (n : Nat) : (gridL c n).length = n := by simp [gridL]
theorem gridL_getD {c : List Near} {n i : Nat} (hi : i < n) : (gridL c n).getD i [] = (List.range n).map fun (j : Nat) => wt c i j := by simp [gridL, List.getD_eq_getElem?_getD, hi]
theorem gridL_at {c : List Near} {n i j : Nat} (hi : i < n) (hj : j < n) : ((gridL c n).getD i []).getD j 0 = wt c i j := by
  rw [gridL_getD hi]; simp [List.getD_eq_getElem?_getD, hj]

theorem RD.near_inv {w : World} {S : Nat → Prop} {v : Value} {xs : Th (List Near)} (h : RD w S v (nears xs)) : ∃ a c, v = .slice a (xs ()).length c ∧ (0 < (xs ()).length → ∃ b off, a = some ⟨b, off, none⟩ ∧ S b ∧ ∀ i, i < (xs ()).length →
    w.cell? ⟨b, off + i * 3, none⟩ = some (.int .i64 ((xs ()).getD i (0, 0, 0)).1) ∧ w.cell? ⟨b, off + i * 3 + 1, none⟩ = some (.int .i64 ((xs ()).getD i (0, 0, 0)).2.1) ∧ w.cell? ⟨b, off + i * 3 + 2, none⟩ = some (.int .i64 ((xs ()).getD i (0, 0, 0)).2.2)) := by
  cases h with
  | nilsl a c h => exact ⟨a, c, by rw [h]; rfl, fun h1 => by rw [h] at h1; simp at h1⟩
  | sl b off n c us hb hn hlen hcell hrd hc =>
    refine ⟨_, c, by rw [hn], fun _ => ⟨b, off, rfl, hb, fun i hi => ?_⟩⟩
    have k0 := hrd i 0 _ (by omega) rfl
    have k1 := hrd i 1 _ (by omega) rfl
    have k2 := hrd i 2 _ (by omega) rfl
    have e0 := hcell (i * 3 + 0) (by omega)
    have e1 := hcell (i * 3 + 1) (by omega)
    have e2 := hcell (i * 3 + 2) (by omega)
    rw [← Nat.add_assoc] at e0 e1 e2
    rw [Nat.add_zero] at e0 k0
    rw [e0, e1, e2]
    rw [Nat.add_zero]
    generalize us (i * 3) = u0 at k0
    generalize us (i * 3 + 1) = u1 at k1
    generalize us (i * 3 + 2) = u2 at k2
    cases k0; cases k1; cases k2
    exact ⟨rfl, rfl, rfl⟩

theorem weights_ok (n : Th Int) (c : Th (List Near)) (N : Nat) (hN : n () = N) (hn : N ≤ 60) (hg : goodCalls (c ())) (hr : ∀ x ∈ c (), (0 ≤ x.1 ∧ x.1 < N) ∧ 0 ≤ x.2.1 ∧ x.2.1 < N) :
    GCall Try.prog 53 [.d (num n), .d (nears c)] (.d (lists fun _ => gridL (c ()) N)) [] := by
  intro w S vs Fs hS ha
  cases ha with
  | d hx ht =>
  rename_i vn vs
  cases ht with
  | d hc ht =>
  rename_i vc vs
  cases ht
  cases hx
  obtain ⟨a, cap, rfl, hcs⟩ := hc.near_inv
  have evs : ([Value.int .i64 (n ()), Value.slice a (c ()).length cap] : List Value).toArray = #[.int .i64 (N : Int), .slice a (c ()).length cap] := by rw [hN]
  rw [evs]
  have hw : Calls Try.prog 53 #[.int .i64 (N : Int), .slice a (c ()).length cap] w fun e w' => e = .returned (.slice (some ⟨w.heap.size, 0, none⟩) N N) ∧ Wts.Grid w w' N (Wts.wz (c ()) (c ()).length) := by
    by_cases h0 : 0 < (c ()).length
    · obtain ⟨b, off, rfl, hb, hcell⟩ := hcs h0
      exact Wts.walk N _ cap _ b off (c ()) w (fun _ => rfl) rfl hn hg (fun k hk => by have := hr _ (getD_memL (0, 0, 0) hk); omega) (fun k hk => (hcell k hk).1) (fun k hk => (hcell k hk).2.1) (fun k hk => (hcell k hk).2.2)
    · exact Wts.walk N _ cap _ 0 0 (c ()) w (fun h => absurd h h0) rfl hn hg (fun k hk => by omega) (fun k hk => by omega) (fun k hk => by omega) (fun k hk => by omega)
  refine hw.mono ?_
  rintro e w' ⟨rfl, hG⟩
  have hsz := hG.size
  refine ⟨_, fun b => S b ∨ (w.heap.size ≤ b ∧ b < w'.heap.size), fun _ => False, rfl, ⟨hG.since.os, hG.since.tape, hG.since.output, hG.since.size, fun b hb _ => hG.since.block b hb⟩, fun b hb => .inl hb, ?_, ?_, fun _ h => h.elim, .d (.d .nil)⟩
  · rintro b (hb | hb)
    · exact ⟨Nat.lt_of_lt_of_le (hS b hb) hG.since.size, .inl hb⟩
    · exact ⟨hb.2, .inr hb.1⟩
  · have htop : ∀ i, i < N → w'.cell? ⟨w.heap.size, i, none⟩ = some (.slice (some ⟨w.heap.size + 1 + i, 0, none⟩) N N) := fun i hi => by
      have := hG.top.cell hi
      rw [this]; simp [Wts.top, hi]
    refine .d (RD.sl w.heap.size 0 N N (fun i => .slice (some ⟨w.heap.size + 1 + i, 0, none⟩) N N) (.inr ⟨Nat.le_refl _, by omega⟩) (gridL_len _ _).symm (fun _ _ => rfl) (fun i hi => by rw [Nat.zero_add]; exact htop i (by omega)) ?_ ⟨Nat.le_refl _, by unfold maxLen; omega⟩)
    intro i j d hi hj
    have hj0 : j = 0 := by
      cases j with
      | zero => rfl
      | succ j => simp at hj
    subst hj0
    simp at hj
    subst hj
    show RD w' _ (.slice (some ⟨w.heap.size + 1 + (i * 1 + 0), 0, none⟩) N N) (ints fun _ => (gridL (c ()) N)[i]?.getD [])
    rw [Nat.mul_one, Nat.add_zero]
    have e1 : (gridL (c ()) N)[i]?.getD [] = (List.range N).map fun (j : Nat) => wt (c ()) i j := by rw [← List.getD_eq_getElem?_getD]; exact gridL_getD hi
    rw [e1]
    refine RD.sl (w.heap.size + 1 + i) 0 N N (fun j => .int .i64 (wt (c ()) i j)) (.inr ⟨by omega, by omega⟩) (by simp) (fun _ _ => rfl) (fun j hj => ?_) ?_ ⟨Nat.le_refl _, by unfold maxLen; omega⟩
    · rw [Nat.zero_add]
      have h1 := (hG.done i hi).cell (i := j) (by omega)
      rw [h1]
      have e : Wts.wz (c ()) (c ()).length i j = wt (c ()) i j := by unfold Wts.wz; rw [List.take_length]
      rw [e]
    · intro p q d hp hq
      have hq0 : q = 0 := by
        cases q with
        | zero => rfl
        | succ q => simp at hq
      subst hq0
      simp at hq
      subst hq
      show RD w' _ (.int .i64 (wt (c ()) i (p * 1 + 0 : Nat))) _
      rw [Nat.mul_one, Nat.add_zero]
      have : (((List.range N).map fun (j : Nat) => wt (c ()) i j)[p]?.getD 0) = wt (c ()) i p := by simp [hp]
      have h2 := RD.i (w := w') (S := fun b => S b ∨ (w.heap.size ≤ b ∧ b < w'.heap.size)) .i64 (fun _ => ((List.range N).map fun (j : Nat) => wt (c ()) i j)[p]?.getD 0)
      simp only [this] at h2
      simpa [hp] using h2
end Go.Eng
