/- Contracts of slices.Values, slices.Sorted at whole numbers. -/
import Derived.Test.YtmbodncejejceaaBH3
set_option linter.all false

namespace Go.Proofs
open Go.RowKit Go.Shelf Go.Sort

theorem Try.appendSeq_calls (Bs : Nat) (sv : Value) (xs : List Int) (hlen : xs.length ≤ maxLen) (hbytes : xs.length * 8 ≤ 140737488355328) (w : World) (hBs : Bs < w.heap.size)
    (hcs : w.cell? ⟨Bs, 0, none⟩ = some sv) (hI : Try.Ints w.heap.size w sv xs) :
    Calls Try.prog 122 #[.slice none 0 0, .func (.func 103) #[] #[.pointer (some ⟨Bs, 0, none⟩)]] w fun e W' => ∃ v, e = .returned v ∧ W'.ownsRow w.heap.size 3 1 v xs.length (xs.map (Value.int .i64)) ∧ (v = .slice none 0 0 ↔ xs = []) ∧ Below w.heap.size w W' :=
  callsIn_wide.1 (Try.appendSeq_in Fence.wide 3 trivial trivial rfl (by omega) Bs sv xs hlen hbytes w hBs hcs hI)

set_option maxRecDepth 100000 in
theorem Try.collect_calls (Bs : Nat) (sv : Value) (xs : List Int) (hlen : xs.length ≤ maxLen) (hbytes : xs.length * 8 ≤ 140737488355328) (w : World) (hBs : Bs < w.heap.size)
    (hcs : w.cell? ⟨Bs, 0, none⟩ = some sv) (hI : Try.Ints w.heap.size w sv xs) :
    Calls Try.prog 102 #[.func (.func 103) #[] #[.pointer (some ⟨Bs, 0, none⟩)]] w fun e W' => ∃ v, e = .returned v ∧ W'.ownsRow w.heap.size 3 1 v xs.length (xs.map (Value.int .i64)) ∧ (v = .slice none 0 0 ↔ xs = []) ∧ Below w.heap.size w W' := by
  have hc := Try.appendSeq_calls Bs sv xs hlen hbytes w hBs hcs hI
  clear hcs hI
  go_enter Try.func102, Try.ntmps102
  go_wp2_with (go_at_call 122; refine hc.mono ?_; rintro e w' ⟨v, rfl, hrow, hnil, hb⟩)
  go_ret
  exact ⟨v, rfl, hrow, hnil, hb⟩

set_option maxRecDepth 100000 in
theorem Try.sorted_calls (Bs : Nat) (sv : Value) (xs : List Int) (hlen : xs.length ≤ maxLen) (hbytes : xs.length * 8 ≤ 140737488355328) (w : World) (hBs : Bs < w.heap.size)
    (hcs : w.cell? ⟨Bs, 0, none⟩ = some sv) (hI : Try.Ints w.heap.size w sv xs) :
    Calls Try.prog 88 #[.func (.func 103) #[] #[.pointer (some ⟨Bs, 0, none⟩)]] w fun e W' => ∃ v, e = .returned v ∧
      ((v = .slice none 0 0 ∧ xs = []) ∨ ∃ g cap cur, v = .slice (some ⟨g, 0, none⟩) xs.length cap ∧ w.heap.size ≤ g ∧ W'.heap[g]? = some (.cells cur 3 (0, 0)) ∧ xs.length ≤ cap ∧ cap ≤ maxLen ∧ cur.size = cap ∧ ∀ k, k < xs.length → cur.getD k undef = .int .i64 ((xs.mergeSort fun x y => decide (x ≤ y)).getD k 0)) ∧
      Below w.heap.size w W' := by
  have hc := Try.collect_calls Bs sv xs hlen hbytes w hBs hcs hI
  clear hcs hI
  have hs : ∀ (v : Value) (W : World), Below w.heap.size w W → W.ownsRow w.heap.size 3 1 v xs.length (xs.map (Value.int .i64)) → (v = .slice none 0 0 ↔ xs = []) →
      Calls Try.prog 69 #[v] W fun e W' => e = .returned (.tuple #[]) ∧ ((v = .slice none 0 0 ∧ xs = []) ∨ ∃ g cap cur, v = .slice (some ⟨g, 0, none⟩) xs.length cap ∧ w.heap.size ≤ g ∧ W'.heap[g]? = some (.cells cur 3 (0, 0)) ∧ xs.length ≤ cap ∧ cap ≤ maxLen ∧ cur.size = cap ∧ ∀ k, k < xs.length → cur.getD k undef = .int .i64 ((xs.mergeSort fun x y => decide (x ≤ y)).getD k 0)) ∧
        Below w.heap.size w W' := by
    intro v W hb hrow hnil
    rcases hrow.2 with ⟨rfl, hz⟩ | ⟨g, cap, cur, rfl, hbase, hg, r1, r2, r3, r4⟩
    · refine (Try.slices_Sort_int_none none 0 W).mono ?_
      rintro e W' ⟨rfl, rfl⟩
      exact ⟨rfl, .inl ⟨rfl, hnil.1 rfl⟩, hb⟩
    · rw [Nat.mul_one] at r3 r4
      have hget : ∀ j, j < xs.length → cur[j]? = some (.int .i64 (xs.getD j 0)) := fun j hj => by
        have h1 : (cur.toList.take xs.length)[j]? = (xs.map (Value.int .i64))[j]? := by rw [r4]
        rw [List.getElem?_take_of_lt hj, Array.getElem?_toList] at h1
        rw [h1]; simp [List.getD_eq_getElem?_getD, hj]
      have hH : Holds (Value.int .i64) W g 0 xs.toArray := Go.Eng.holds_row hg _ fun j hj => by
        have hj' : j < xs.length := by simpa using hj
        rw [hget j hj']; simp [hj', List.getD_eq_getElem?_getD]
      refine (Try.slices_Sort_int g 0 cap xs W hH (Array.getElem?_eq_some_iff.1 hg).1 (by omega)).mono ?_
      rintro e W' ⟨rfl, q, os, hW'⟩
      generalize hd2 : (xs.mergeSort fun x y => decide (x ≤ y)) = ys at hW' ⊢
      have hl : ys.length = xs.length := by rw [← hd2]; simp
      have hwr : Go.Eng.Wrote W W' g 3 (putCells (Value.int .i64) 0 ys.toArray cur) := hW' ▸ Go.Eng.wrote_put hg ys.toArray q os
      refine ⟨rfl, .inr ⟨g, cap, _, rfl, hbase, hwr.at_, r1, r2, by rw [Go.Eng.put_size, r3], fun k hk => ?_⟩, ?_⟩
      · rw [Array.getD_eq_getD_getElem?, Go.Eng.put_get (by simp; omega) (by omega)]
        have : ys.toArray[k]! = ys.getD k 0 := by simp [show k < ys.length by omega, List.getD_eq_getElem?_getD]
        rw [this]; rfl
      · exact hb.trans ⟨hwr.os, hwr.tape, hwr.output, hwr.size, fun j hj => hwr.off j (by omega) (Nat.lt_of_lt_of_le hj hb.size)⟩
  go_enter Try.func88, Try.ntmps88
  go_wp2_with (go_at_call 102; refine hc.mono ?_; rintro e w' ⟨v, rfl, hrow, hnil, hb⟩)
  have hs' := hs v w' hb hrow hnil
  clear hs hrow hnil hb
  go_wp2_with (go_at_call 69; refine hs'.mono ?_; rintro e W' ⟨rfl, hv, hb⟩)
  go_ret
  exact ⟨v, rfl, hv, hb⟩

set_option maxRecDepth 100000 in
theorem Try.values_calls (a : Option Addr) (len cap : Nat) (w : World) :
    Calls Try.prog 89 #[.slice a len cap] w fun e w' => e = .returned (.func (.func 103) #[] #[.pointer (some ⟨w.heap.size, 0, none⟩)]) ∧ w' = w.alloc (.cells #[.slice a len cap] 22) := by
  go_enter Try.func89, Try.ntmps89
  go_wp2
  go_ret
  exact ⟨rfl, rfl⟩
end Go.Proofs

namespace Go.Eng
open Go.Proofs Go.Sort

theorem RD.sl_inv {w : World} {S : Nat → Prop} {v : Value} {xs : Th (List Int)} (h : RD w S v (ints xs)) : (∃ a c, v = .slice a 0 c ∧ xs () = []) ∨ ∃ b off c, v = .slice (some ⟨b, off, none⟩) (xs ()).length c ∧ S b ∧ ∀ i, i < (xs ()).length → w.cell? ⟨b, off + i, none⟩ = some (.int .i64 ((xs ()).getD i 0)) := by
  cases h with
  | nilsl a c h => exact .inl ⟨a, c, rfl, h⟩
  | sl b off n c us hb hn hlen hcell hrd hc =>
    refine .inr ⟨b, off, c, by rw [hn], hb, fun i hi => ?_⟩
    rw [hcell i (by omega)]
    have h1 := hrd i 0 _ (by omega) rfl
    rw [Nat.mul_one, Nat.add_zero] at h1
    generalize us i = u at h1
    cases h1
    rfl

theorem values_ok (xs : Th (List Int)) : GCall Try.prog 89 [.d (ints xs)] (.d (.fn 103 [.box [ints xs]])) [] := by
  intro w S vs Fs hS ha
  cases ha with
  | d hx ht =>
  rename_i va vs
  cases ht
  have hv : ∃ a n c, va = .slice a n c := by cases hx <;> exact ⟨_, _, _, rfl⟩
  obtain ⟨a, n, c, rfl⟩ := hv
  refine (Try.values_calls a n c w).mono ?_
  rintro e w' ⟨rfl, rfl⟩
  refine ⟨_, fun b => S b ∨ b = w.heap.size, fun _ => False, rfl, ⟨rfl, rfl, rfl, by show w.heap.size ≤ (w.heap.push _).size; simp, fun b hb _ => by show (w.heap.push _)[b]? = _; simp [Array.getElem?_push, Nat.ne_of_lt hb]⟩, fun b hb => .inl hb, ?_, ?_, fun _ h => h.elim, .d .nil⟩
  · rintro b (hb | rfl)
    · exact ⟨by have := hS b hb; show b < (w.heap.push _).size; simp; omega, .inl hb⟩
    · exact ⟨by show w.heap.size < (w.heap.push _).size; simp, .inr (Nat.le_refl _)⟩
  · refine .d (RD.fn _ rfl fun j d hj => ?_)
    have hj0 : j = 0 := by
      cases j with
      | zero => rfl
      | succ j => simp at hj
    subst hj0
    simp at hj
    subst hj
    refine RD.box w.heap.size (fun _ => .slice a n c) (.inr rfl) (fun j hj => ?_) fun j d hj => ?_
    · have : j = 0 := by simp at hj; omega
      subst this
      exact cell_of_heap (g := w.heap.size) (ty := 22) (cur := #[.slice a n c]) (by show (w.heap.push _)[w.heap.size]? = _; simp) rfl
    · have hj0 : j = 0 := by
        cases j with
        | zero => rfl
        | succ j => simp at hj
      subst hj0
      simp at hj
      subst hj
      exact hx.mono (fun b hb => .inl hb) fun b hb => by show (w.heap.push _)[b]? = _; simp [Array.getElem?_push, Nat.ne_of_lt (hS b hb)]

def sortL (l : List Int) : List Int := l.mergeSort fun x y => decide (x ≤ y)
theorem sortL_length (l : List Int) : (sortL l).length = l.length := by simp [sortL]

theorem sorted_ok (xs : Th (List Int)) (hlen : (xs ()).length * 8 ≤ 140737488355328) : GCall Try.prog 88 [.d (.fn 103 [.box [ints xs]])] (.row (.sl intSh fun _ => sortL (xs ()))) [] := by
  intro w S vs Fs hS ha
  cases ha with
  | d hx ht =>
  rename_i va vs
  cases ht
  cases hx with
  | fn fs hsz hrd =>
  have hb := hrd 0 _ rfl
  have hfs : fs = #[fs.getD 0 undef] := by
    have h1 : fs.size = 1 := hsz
    match fs, h1 with
    | ⟨[x]⟩, _ => rfl
  rw [hfs]
  generalize fs.getD 0 undef = u at hb
  cases hb with
  | box b us hSb hcell hr =>
  have hr0 := (hr 0 _ rfl)
  have hc0 := hcell 0 (by simp)
  have hI : Try.Ints w.heap.size w (us 0) (xs ()) := by
    rcases hr0.sl_inv with ⟨a, c, e, h⟩ | ⟨b', off, c, e, hb', hcs⟩
    · exact .inl ⟨⟨a, c, e⟩, h⟩
    · exact .inr ⟨b', off, c, e, hS b' hb', fun j hj => by rw [hcs j hj, List.getD_eq_getElem?_getD]⟩
  refine (Try.sorted_calls b (us 0) (xs ()) (by unfold maxLen; omega) hlen w (hS b hSb) hc0 hI).mono ?_
  rintro e W' ⟨v, rfl, hv, hbel⟩
  have hext : Ext w W' fun b => ∃ G ∈ ([] : List (Nat → Prop)), G b := ⟨hbel.os, hbel.tape, hbel.output, hbel.size, fun b hb _ => hbel.block b hb⟩
  have hS' : ∀ b, S b → b < W'.heap.size ∧ (S b ∨ w.heap.size ≤ b) := fun b hb => ⟨Nat.lt_of_lt_of_le (hS b hb) hbel.size, .inl hb⟩
  rcases hv with ⟨rfl, hnil⟩ | ⟨g, cap, cur, rfl, hg0, hg, r1, r2, r3, r4⟩
  · exact ⟨_, S, fun _ => False, rfl, hext, fun _ h => h, hS', .row (.nil (by rw [hnil]; simp [sortL])), fun _ h => h.elim, .d .nil⟩
  · refine ⟨_, S, fun b => b = g, rfl, hext, fun _ h => h, hS', .row (RowOK.sl g _ cap cur (sortL_length _).symm hg r1 r2 (by rw [r3]; simp) (fun x _ => rfl) ?_), ?_, .d .nil⟩
    · intro k j D hk hj
      have hj0 : j = 0 := by
        cases j with
        | zero => rfl
        | succ j => simp at hj
      subst hj0
      simp at hj
      subst hj
      show RD W' S (cur.getD (k * 1 + 0) undef) _
      rw [Nat.mul_one, Nat.add_zero, r4 k hk, List.getD_eq_getElem?_getD]
      exact RD.i .i64 (fun _ => (sortL (xs ()))[k]?.getD 0)
    · rintro b' rfl
      exact ⟨(Array.getElem?_eq_some_iff.1 hg).1, fun h => by have := hS _ h; omega, .inl hg0⟩
end Go.Eng
