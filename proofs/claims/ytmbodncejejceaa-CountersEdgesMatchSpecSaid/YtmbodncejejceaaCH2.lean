/- slices.Grow at nil, slices.Sort: from the shelf's contracts. -/
import Derived.Test.YtmbodncejejceaaCH1
import Derived.Shelf.Spec.SlicesGrow
set_option linter.all false

namespace Go.Eng
open Go.Proofs Go.Sort

def growRen : Go.Shelf.Ren := ⟨fun | 4 => 85 | n => n, fun | 22 => 22 | 25 => 3 | 3 => 3 | 4 => 4 | 9 => 9 | 20 => 20 | 0 => 0 | n => n, fun | n => n⟩
theorem layGrow : Go.Proofs.Lays8.n4 Try.prog growRen := {
  mixed := by kernel_rfl
  f4 := ⟨Try.f85.name, by decide, Try.func85.trans (congrArg some (by kernel_rfl))⟩
  t0 := Try.underlying0
  a0 := Try.isAgg0
  z0 := Try.sizeOf0
  v0 := Try.zeroValue0
  t3 := Try.underlying3
  a3 := Try.isAgg3
  z3 := Try.sizeOf3
  v3 := Try.zeroValue3
  t4 := Try.underlying4
  a4 := Try.isAgg4
  z4 := Try.sizeOf4
  v4 := Try.zeroValue4
  t9 := Try.underlying9
  a9 := Try.isAgg9
  z9 := Try.sizeOf9
  v9 := Try.zeroValue9
  t20 := Try.underlying20
  a20 := Try.isAgg20
  z20 := Try.sizeOf20
  v20 := Try.zeroValue20
  t22 := Try.underlying22
  a22 := Try.isAgg22
  z22 := Try.sizeOf22
  v22 := Try.zeroValue22 }

theorem grow_ok : GrowOK := by
  intro n h0 h1 w S vs Fs hS ha
  cases ha with
  | d hb ht =>
  rename_i va vs
  cases ht with
  | d hn ht =>
  rename_i vn vs
  cases ht
  cases hb
  cases hn
  obtain ⟨k, hk⟩ : ∃ k : Nat, n () = k := ⟨(n ()).toNat, by omega⟩
  have evs : ([Value.slice none 0 0, Value.int .i64 (n ())] : List Value).toArray = #[.slice none 0 0, .int .i64 (k : Int)] := by rw [hk]
  rw [evs]
  by_cases hz : k = 0
  · subst hz
    refine (Any8.slices_Grow_room layGrow none 0 0 0 w (by omega) (by omega) (by omega) (by omega)).mono ?_
    rintro e w' ⟨rfl, rfl⟩
    exact ⟨_, S, fun _ => False, rfl, .refl _ _, fun _ h => h, fun b hb => ⟨hS b hb, .inl hb⟩, .row (.nil rfl), fun _ h => h.elim, .d (.d .nil)⟩
  · have ht : ∃ i0, Try.prog.info? 3 = some i0 ∧ i0.zero = some (.int .i64 0) ∧ i0.size = 1 ∧ i0.bytes = 8 := by
      have : (Try.prog.info? 3).map (fun i => (i.zero, i.size, i.bytes)) = some (some (.int .i64 0), 1, 8) := by kernel_rfl
      cases h : Try.prog.info? 3 with
      | none => rw [h] at this; cases this
      | some i0 => rw [h] at this; simp only [Option.map_some, Option.some.injEq, Prod.mk.injEq] at this; exact ⟨i0, rfl, this.1, this.2.1, this.2.2⟩
    obtain ⟨i0, hi0, hz0, hs0, hb0⟩ := ht
    refine (Any8.slices_Grow_grow layGrow i0 (.int .i64 0) hi0 hz0 (by omega) none 0 0 k [] w (by omega) (by omega) (by rw [hb0]; omega) (by omega) (by simp) (fun _ => rfl) (fun a h => by cases h)).mono ?_
    rintro e w' ⟨rfl, rfl⟩
    have hge : 0 + k ≤ grownCap w (0 + k) 0 (growRen.t 25) := grownCap_ge w _ _ _
    have hle : grownCap w (0 + k) 0 (growRen.t 25) ≤ maxLen := grownCap_le_maxLen w _ _ _ (by unfold maxLen; omega)
    generalize hG : grownCap w (0 + k) 0 (growRen.t 25) = G at hge hle
    refine ⟨_, S, fun b => b = w.heap.size, rfl, ⟨rfl, rfl, rfl, by show w.heap.size ≤ (w.heap.push _).size; simp, fun b hb _ => by show (w.heap.push _)[b]? = _; simp [Array.getElem?_push, Nat.ne_of_lt hb]⟩, fun _ h => h,
      fun b hb => ⟨by have := hS b hb; show b < (w.heap.push _).size; simp; omega, .inl hb⟩, ?_, ?_, .d (.d .nil)⟩
    · refine .row (RowOK.sl w.heap.size 0 G (#[] ++ Builtin.zeroCells (Value.int IntKind.i64 0).cells (0 + k - 0) ++ Builtin.zeroCells (Value.int IntKind.i64 0).cells (G - (0 + k))) rfl ?_ (Nat.zero_le _) hle ?_ (fun x hx => by cases hx) (fun i j d hi => by omega))
      · show (w.heap.push _)[w.heap.size]? = _; simp; rfl
      · show _ = G * 1
        simp [size_zeroCells, Value.cells]; omega
    · rintro b rfl
      exact ⟨by show w.heap.size < (w.heap.push _).size; simp, fun h => absurd (hS _ h) (by omega), .inl (Nat.le_refl _)⟩

theorem sort_ok (xs : Th (List Int)) (hln : (xs ()).length < 4611686018427387904) : GCall Try.prog 69 [.row (.sl intSh xs)] (.tup []) [.sl intSh fun _ => (xs ()).mergeSort fun x y => decide (x ≤ y)] := by
  intro w S vs Fs hS ha
  cases ha with
  | row hrow hG hd ht =>
  rename_i G v vs Fs
  cases ht
  cases hrow with
  | nil h =>
    refine (Try.slices_Sort_int_none none 0 w).mono ?_
    rintro e w' ⟨rfl, rfl⟩
    refine ⟨_, S, _, rfl, .refl _ _, fun _ h => h, fun b hb => ⟨hS b hb, .inl hb⟩, .tup (vs := #[]) .nil, fun _ h => h.elim, .row (.nil (by rw [h]; simp)) (fun s ys e => by cases e; exact ⟨_, rfl⟩) (fun b hb => hb.elim) .nil⟩
  | sl g n cap cur hn hg hnc hm hc hlen hrd =>
  simp only [Nat.mul_one] at hc hrd
  have hcell : ∀ i, i < n → cur.getD i undef = .int .i64 ((xs ()).getD i 0) := fun i hi => by
    have := hrd i 0 _ hi rfl
    rw [Nat.add_zero] at this
    generalize hu : cur.getD i undef = u at this
    cases this
    rfl
  have hH : Holds (Value.int .i64) w g 0 (xs ()).toArray := holds_row hg _ fun j hj => by
    have hj' : j < n := by simpa [hn] using hj
    have hjc : j < cur.size := by omega
    have h1 := hcell j hj'
    simp only [Array.getD_eq_getD_getElem?, Array.getElem?_eq_getElem hjc, Option.getD_some] at h1
    rw [Array.getElem?_eq_getElem hjc, h1]
    simp [show j < (xs ()).length by omega]
  have hcap : cap ≤ maxLen := hm
  subst hn
  refine (Try.slices_Sort_int g 0 cap (xs ()) w hH (hG g rfl).1 hln).mono ?_
  rintro e w' ⟨rfl, q, os, hw'⟩
  generalize hd2 : ((xs ()).mergeSort fun x y => decide (x ≤ y)) = ys at hw'
  have hl : ys.length = (xs ()).length := by rw [← hd2]; simp
  have hwr : Wrote w w' g 3 (putCells (Value.int .i64) 0 ys.toArray cur) := hw' ▸ wrote_put hg ys.toArray q os
  have hg' : ¬ S g := (hG g rfl).2
  have hSw : ∀ b, S b → w'.heap[b]? = w.heap[b]? := fun b hb => hwr.off b (fun h => hg' (h ▸ hb)) (hS b hb)
  refine ⟨_, S, _, rfl, ⟨hwr.os, hwr.tape, hwr.output, hwr.size, fun b hb hnot => hwr.off b (fun h => hnot ⟨_, List.mem_cons_self, h⟩) hb⟩, fun _ h => h, fun b hb => ⟨Nat.lt_of_lt_of_le (hS b hb) hwr.size, .inl hb⟩, .tup (vs := #[]) .nil, fun _ h => h.elim, ?_⟩
  refine .row (RowOK.sl g _ cap (putCells (Value.int .i64) 0 ys.toArray cur) ?_ hwr.at_ hnc hm (by rw [put_size, hc]; simp) (fun x _ => rfl) ?_) (fun s ys e => by cases e; exact ⟨_, rfl⟩) (fun b hb => hb ▸ hg') .nil
  · exact hl.symm
  · intro k j D hk hj
    have hj0 : j = 0 := by
      cases j with
      | zero => rfl
      | succ j => simp at hj
    subst hj0
    simp at hj
    subst hj
    show RD w' S ((putCells (Value.int .i64) 0 ys.toArray cur).getD (k * 1 + 0) undef) (num fun _ => ys[k]?.getD 0)
    rw [Nat.mul_one, Nat.add_zero, Array.getD_eq_getD_getElem?, put_get (by simp; omega) (by omega)]
    have : ys.toArray[k]! = ys[k]?.getD 0 := by simp [show k < ys.length by omega]
    rw [this]
    exact RD.i .i64 (fun _ => ys[k]?.getD 0)
end Go.Eng
