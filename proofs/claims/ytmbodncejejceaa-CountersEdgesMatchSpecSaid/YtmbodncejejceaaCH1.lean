/- From the shelf's contracts to contracts of this house: slices.Delete at lists of lists, slices.Sort. -/
import Derived.Test.YtmbodncejejceaaCSH
import Derived.Test.YtmbodncejejceaaCF8
import Derived.Laws.World
set_option linter.all false

namespace Go.Eng
open Go.Proofs Go.Sort

theorem cell_of_heap {w : World} {g o ty : Nat} {cur : Array Value} {x : Value} (hg : w.heap[g]? = some (.cells cur ty (0, 0))) (hx : cur[o]? = some x) : w.cell? ⟨g, o, none⟩ = some x := by
  simp [World.cell?, hg, hx]
theorem frozen_of_heap {w : World} {g o ty : Nat} {cur : Array Value} (hg : w.heap[g]? = some (.cells cur ty (0, 0))) : w.frozen? ⟨g, o, none⟩ = false := by
  simp [World.frozen?, hg]

theorem holds_row {α : Type} [Inhabited α] {enc : α → Value} {w : World} {g ty : Nat} {cur : Array Value} (hg : w.heap[g]? = some (.cells cur ty (0, 0))) (d : Array α) (hd : ∀ j, j < d.size → cur[j]? = some (enc d[j]!)) : Holds enc w g 0 d :=
  fun j hj => ⟨by rw [Nat.zero_add]; exact cell_of_heap hg (hd j hj), frozen_of_heap hg⟩

/-- A world in which one block of cells has been written, and new blocks have been made. -/
structure Wrote (w w' : World) (g ty : Nat) (cur' : Array Value) : Prop where
  os : w'.os = w.os
  tape : w'.tape = w.tape
  output : w'.output = w.output
  size : w.heap.size ≤ w'.heap.size
  at_ : w'.heap[g]? = some (.cells cur' ty (0, 0))
  off : ∀ b, b ≠ g → b < w.heap.size → w'.heap[b]? = w.heap[b]?
theorem wrote_put {α : Type} [Inhabited α] {enc : α → Value} {w : World} {g ty : Nat} {cur : Array Value} (hg : w.heap[g]? = some (.cells cur ty (0, 0))) (d : Array α) (q : Nat) (os : Array Obj) :
    Wrote w (Go.Sort.grow (putRow enc (Go.Sort.ahead w q) g 0 d) os) g ty (putCells enc 0 d cur) := by
  have hlt : g < w.heap.size := (Array.getElem?_eq_some_iff.1 hg).1
  refine ⟨rfl, rfl, rfl, ?_, ?_, ?_⟩
  · simp [Go.Sort.grow, putRow, mapBlock, Go.Sort.ahead]
  · simp only [Go.Sort.grow, putRow, mapBlock, Go.Sort.ahead]
    rw [Array.getElem?_append_left (by simpa using hlt), Array.getElem?_modify]
    simp [hg, onCells]
  · intro b hb hlb
    simp only [Go.Sort.grow, putRow, mapBlock, Go.Sort.ahead]
    rw [Array.getElem?_append_left (by simpa using hlb), Array.getElem?_modify]
    simp [Ne.symm hb]
theorem wrote_put0 {α : Type} [Inhabited α] {enc : α → Value} {w : World} {g ty : Nat} {cur : Array Value} (hg : w.heap[g]? = some (.cells cur ty (0, 0))) (d : Array α) (q : Nat) :
    Wrote w (putRow enc (Go.Sort.ahead w q) g 0 d) g ty (putCells enc 0 d cur) := by
  have h := wrote_put (enc := enc) hg d q #[]
  have e : Go.Sort.grow (putRow enc (Go.Sort.ahead w q) g 0 d) #[] = putRow enc (Go.Sort.ahead w q) g 0 d := by simp [Go.Sort.grow]; rfl
  rw [e] at h; exact h

theorem put_get {α : Type} [Inhabited α] {enc : α → Value} {cur : Array Value} {d : Array α} {k : Nat} (hk : k < d.size) (hc : k < cur.size) : (putCells enc 0 d cur)[k]? = some (enc d[k]!) := by
  simp [putCells, hk, hc]
theorem put_size {α : Type} [Inhabited α] {enc : α → Value} {cur : Array Value} {d : Array α} : (putCells enc 0 d cur).size = cur.size := by simp [putCells]

abbrev OneV := { v : Value // v.oneCell' = true }
instance : Inhabited OneV := ⟨⟨.slice none 0 0, rfl⟩⟩

theorem RD.sl_one {w : World} {S : Nat → Prop} {v : Value} {α : Type} {esz : Nat} {cells : Th α → List D} {d0 : α} {xs : Th (List α)} (h : RD w S v (.sl esz cells d0 xs)) : v.oneCell' = true := by
  cases h <;> rfl

theorem delete_ok (xs : Th (List (List Int))) (b e : Th Int) (h0 : 0 ≤ b ()) (h1 : b () < (xs ()).length) (he : e () = b () + 1) :
    GCall Try.prog 56 [.take (.sl listSh xs), .d (num b), .d (num e)] (.row (.sl listSh fun _ => (xs ()).eraseIdx (b ()).toNat)) [] := by
  intro w S vs Fs hS ha
  cases ha with
  | take hrow hG hd ht =>
  rename_i G v vs Fs
  cases ht with
  | d hb ht =>
  rename_i vb vs
  cases ht with
  | d hee ht =>
  rename_i ve vs
  cases ht
  cases hb
  cases hee
  cases hrow with
  | nil h => rw [h] at h1; simp at h1; omega
  | sl g n cap cur hn hg hnc hm hc hlen hrd =>
  simp only [Nat.mul_one] at hc hrd
  have hcell : ∀ i, i < n → RD w S (cur.getD i undef) (ints fun _ => (xs ()).getD i []) := fun i hi => by simpa using hrd i 0 _ hi rfl
  obtain ⟨i, hbi⟩ : ∃ i : Nat, b () = i := ⟨(b ()).toNat, by omega⟩
  have hin : i < n := by omega
  let enc : OneV → Value := fun v => v.1
  let el : Nat → OneV := fun k => if h : (cur.getD k undef).oneCell' = true then ⟨cur.getD k undef, h⟩ else default
  let d : Array OneV := ((List.range n).map el).toArray
  have hds : d.size = n := by simp [d]
  have hel : ∀ k, k < n → (el k).1 = cur.getD k undef := fun k hk => by
    have := (hcell k hk).sl_one
    show (if h : _ then _ else _ : OneV).1 = _
    rw [dif_pos this]
  have hd' : ∀ j, j < d.size → cur[j]? = some (enc d[j]!) := by
    intro j hj
    rw [hds] at hj
    have hjc : j < cur.size := by omega
    have : d[j]! = el j := by simp [d, hj]
    rw [this]
    show _ = some (el j).1
    rw [hel j hj]
    simp [Array.getD_eq_getD_getElem?, hjc]
  have hH : Holds enc w g 0 d := holds_row hg d hd'
  have ht : ∃ i0, Try.prog.info? 22 = some i0 ∧ i0.size = 1 := by
    have : (Try.prog.info? 22).map (fun i => i.size) = some 1 := by kernel_rfl
    cases h : Try.prog.info? 22 with
    | none => rw [h] at this; cases this
    | some i0 => rw [h] at this; simp only [Option.map_some, Option.some.injEq] at this; exact ⟨i0, rfl, this⟩
  obtain ⟨i0, hi0, hz1⟩ := ht
  have hcall := Try.slices_Delete enc (fun v => v.2) ⟨.slice none 0 0, rfl⟩ (fun w => by kernel_rfl) i0 hi0 hz1 g 0 cap i (i + 1) d w hH (by omega) hm (by omega) (by omega)
  rw [hds] at hcall
  have evs : ([Value.slice (some ⟨g, 0, none⟩) n cap, Value.int .i64 (b ()), Value.int .i64 (e ())] : List Value).toArray = #[.slice (some ⟨g, 0, none⟩) n cap, .int .i64 (i : Int), .int .i64 ((i + 1 : Nat) : Int)] := by
    rw [he, hbi]; rfl
  rw [evs]
  refine hcall.mono ?_
  rintro ee w' ⟨rfl, q, hw'⟩
  generalize hd2 : (d.toList.take i ++ d.toList.drop (i + 1) ++ List.replicate (i + 1 - i) (⟨.slice none 0 0, rfl⟩ : OneV)).toArray = d2 at hw'
  have hwr : Wrote w w' g 22 (putCells enc 0 d2 cur) := hw' ▸ wrote_put0 hg d2 q
  have hd2s : d2.size = n := by rw [← hd2]; simp [hds]; omega
  have hg' : ¬ S g := (hG g rfl).2
  have hSw : ∀ b, S b → w'.heap[b]? = w.heap[b]? := fun b hb => hwr.off b (fun h => hg' (h ▸ hb)) (hS b hb)
  refine ⟨_, S, fun b => b = g, rfl, ⟨hwr.os, hwr.tape, hwr.output, hwr.size, fun b hb hnot => hwr.off b (fun h => hnot ⟨_, List.mem_cons_self, h⟩) hb⟩, fun _ h => h, fun b hb => ⟨Nat.lt_of_lt_of_le (hS b hb) hwr.size, .inl hb⟩, ?_, ?_, ?_⟩
  · refine .row (RowOK.sl g _ cap (putCells enc 0 d2 cur) ?_ hwr.at_ (by omega) hm (by rw [put_size, hc]; simp) (fun x _ => rfl) ?_)
    · show n - (i + 1 - i) = ((xs ()).eraseIdx (b ()).toNat).length
      rw [List.length_eraseIdx, if_pos (by omega)]; omega
    · intro k j D hk hj
      have hj0 : j = 0 := by
        cases j with
        | zero => rfl
        | succ j => simp at hj
      subst hj0
      simp at hj
      subst hj
      show RD w' S ((putCells enc 0 d2 cur).getD (k * 1 + 0) undef) (ints fun _ => ((xs ()).eraseIdx (b ()).toNat).getD k [])
      rw [Nat.mul_one, Nat.add_zero, Array.getD_eq_getD_getElem?, put_get (by omega) (by omega)]
      have e2 : ∃ k', k' < n ∧ d2[k]! = el k' ∧ ((xs ()).eraseIdx (b ()).toNat).getD k [] = (xs ()).getD k' [] := by
        have htn : (b ()).toNat = i := by omega
        rw [htn]
        by_cases h : k < i
        · refine ⟨k, by omega, ?_, ?_⟩
          · rw [← hd2]; simp [d, List.getElem?_append, h]
            rw [if_pos (by omega)]
            simp [show k < n by omega]
          · simp [List.getD_eq_getElem?_getD, List.getElem?_eraseIdx, h]
        · refine ⟨k + 1, by omega, ?_, ?_⟩
          · rw [← hd2]; simp [d, List.getElem?_append, h]
            rw [if_neg (by omega), if_pos (by omega)]
            simp [show min i n = i by omega, show i + 1 + (k - i) = k + 1 by omega, show k + 1 < n by omega]
          · simp [List.getD_eq_getElem?_getD, List.getElem?_eraseIdx, h]
      obtain ⟨k', hk', e3, e4⟩ := e2
      rw [e3, e4]
      show RD w' S (el k').1 _
      rw [hel k' hk']
      exact (hcell k' hk').mono (fun _ h => h) hSw
  · intro b hb
    subst hb
    exact ⟨Nat.lt_of_lt_of_le (hG b rfl).1 hwr.size, hg', .inr (.inl rfl)⟩
  · exact .take (.d (.d .nil))

end Go.Eng
