/- Blocks and lists that came in, with the bounds that their weights give. -/
import Derived.Test.YtmbodncejejceaaCRD1
import Derived.Test.YtmbodncejejceaaCPlA
set_option linter.all false

namespace Go.Eng
open Go Go.ChangeShapes Go.WideShapes Go.Deep Go.Proofs

section
variable {H : Type} {enc : TypeId × Value → H} {P : Program} {w : World} {base : Nat} {spare : Nat → Bool} {held : Bool}

theorem weightsAll_mem {e : TypeId} : ∀ {l : List (DataW H)} {d : DataW H} {m : Nat}, d ∈ l → m ∈ d.weights P e → m ∈ DataW.weightsAll P e l
  | [], _, _, h, _ => by cases h
  | d0 :: l, d, m, h, hm => by
    simp only [DataW.weightsAll, List.mem_append]
    rcases List.mem_cons.1 h with rfl | h
    · exact Or.inl hm
    · exact Or.inr (weightsAll_mem h hm)

theorem rd_sliceW {t e : TypeId} {fuel esz B : Nat} {cs : List Value} {x : DataW H × List MemPlace} {α : Type} {cells : Th α → List D} {d0 : α} {Q : α → Prop} (ht : P.underlying t = some (.slice e)) (hC : P.cellsOf e = esz) (hB : P.bytesOf e = B) (h0 : 0 < esz) (hlen : ∀ x, (cells fun _ => x).length = esz)
    (hw : ∀ n ∈ x.1.weights P t, n ≤ reachBytes) (hd0 : Q d0)
    (hdec : ∀ (n : Nat) (cs' : List Value) (y : DataW H × List MemPlace), DataW.trod enc P w base spare held n e cs' = some y → cs'.length = esz → (∀ n ∈ y.1.weights P e, n ≤ reachBytes) → ∃ x : α, Q x ∧ ∀ (j : Nat) (d : D), (cells fun _ => x)[j]? = some d → RD w (Old w) (cs'.getD j undef) d)
    (h : DataW.trod enc P w base spare held fuel t cs = some x) : ∃ (a : Option Addr) (len cap : Nat) (xs : List α), cs = [.slice a len cap] ∧ xs.length = len ∧ RD w (Old w) (.slice a len cap) (.sl esz cells d0 fun _ => xs) ∧ len * B ≤ reachBytes ∧ ∀ x ∈ xs, Q x := by
  rcases open_slice ht h with ⟨hcs, _⟩ | ⟨a, len, cap, m, n, D, Pl, hcs, hb, hl, hm, hmm, hx, hi⟩
  · exact ⟨none, 0, 0, [], hcs, rfl, .nilsl _ _ rfl, by simp, by simp⟩
  · rw [hC] at hi
    have hlm : len ≤ m := by rw [hmm]; split <;> omega
    subst hx
    have hwl : len * B ≤ reachBytes := by
      have := hw ((((List.range len).map D).length + ((List.range (m - len)).map fun j => D (len + j)).length) * P.bytesOf e) (by simp [DataW.weights, ht])
      rw [hB, Nat.add_mul, List.length_map, List.length_range] at this
      exact Nat.le_trans (Nat.le_add_right _ _) this
    have hwe : ∀ i, i < len → ∀ n ∈ (D i).weights P e, n ≤ reachBytes := fun i hi n hn => hw n (by
      simp only [DataW.weights, ht, List.mem_cons, List.mem_append]
      exact Or.inr (Or.inl (weightsAll_mem (List.mem_map.2 ⟨i, List.mem_range.2 hi, rfl⟩) hn)))
    have hc : ∀ i, ∃ (cs' : List Value) (x : α), i < len → Q x ∧ cs'.length = esz ∧ (∀ j, j < esz → w.cell? (a.add (i * esz + j)) = cs'[j]?) ∧ ∀ (j : Nat) (d : Eng.D), (cells fun _ => x)[j]? = some d → RD w (Old w) (cs'.getD j undef) d := by
      intro i
      by_cases hil : i < len
      · obtain ⟨cs', hcs', ht'⟩ := hi i (by omega)
        obtain ⟨_, hcl, hat⟩ := World.cells?_some hcs'
        obtain ⟨y, hq, hy⟩ := hdec n cs' _ ht' hcl (hwe i hil)
        exact ⟨cs', y, fun _ => ⟨hq, hcl, fun j hj => by rw [← Go.Deep.add_add]; exact hat j hj, hy⟩⟩
      · exact ⟨[], d0, fun h => absurd h hil⟩
    have hc1 := fun i => Classical.choose_spec (hc i)
    let cf : Nat → List Value := fun i => Classical.choose (hc i)
    have hc2 := fun i => Classical.choose_spec (hc1 i)
    let xf : Nat → α := fun i => Classical.choose (hc1 i)
    have hcx : ∀ i, i < len → Q (xf i) ∧ (cf i).length = esz ∧ (∀ j, j < esz → w.cell? (a.add (i * esz + j)) = (cf i)[j]?) ∧ ∀ (j : Nat) (d : Eng.D), (cells fun _ => xf i)[j]? = some d → RD w (Old w) ((cf i).getD j undef) d := fun i hil => hc2 i hil
    refine ⟨some a, len, cap, (List.range len).map xf, hcs, by simp, ?_, hwl, fun x hx => ?_⟩
    · by_cases hz : len = 0
      · subst hz; exact .nilsl _ _ rfl
      · obtain ⟨_, k1, k2, k3⟩ := hcx 0 (by omega)
        have hcell0 := k2 0 h0
        have hs0 : (cf 0)[0]? = some ((cf 0)[0]'(by omega)) := List.getElem?_eq_getElem (by omega)
        rw [hs0] at hcell0
        have hadd : a.add (0 * esz + 0) = a := by simp [Addr.add]
        rw [hadd] at hcell0
        obtain ⟨b, o, sp⟩ := a
        have hsp : sp = none := by
          cases sp with
          | none => rfl
          | some k =>
            exfalso
            unfold World.cell? at hcell0
            simp only at hcell0
            split at hcell0
            · simp at hcell0
            · cases hcell0
        subst hsp
        have hbl : b < w.heap.size := World.block_lt_of_cell? _ _ hcell0
        refine RD.sl b o len cap (fun i => (cf (i / esz)).getD (i % esz) undef) hbl (by simp) (fun x _ => hlen x) (fun i hi => ?_) (fun i j d hil hd => ?_) ⟨hl, Nat.le_trans hl hm⟩
        · have h1 : i / esz < len := Nat.div_lt_of_lt_mul (by rw [Nat.mul_comm]; exact hi)
          have h2 : i % esz < esz := Nat.mod_lt _ h0
          obtain ⟨_, q1, q2, q3⟩ := hcx (i / esz) h1
          have := q2 (i % esz) h2
          rw [show i / esz * esz + i % esz = i by rw [Nat.mul_comm]; exact Nat.div_add_mod i esz] at this
          rw [Addr.add_lit] at this
          rw [this]
          simp [List.getD_eq_getElem?_getD, List.getElem?_eq_getElem (show i % esz < (cf (i / esz)).length by omega)]
        · have hj : j < esz := by
            have := (List.getElem?_eq_some_iff.1 hd).1
            rwa [hlen] at this
          obtain ⟨_, q1, q2, q3⟩ := hcx i hil
          have e1 : (i * esz + j) / esz = i := by rw [Nat.mul_comm, Nat.mul_add_div h0, Nat.div_eq_of_lt hj, Nat.add_zero]
          have e2 : (i * esz + j) % esz = j := by rw [Nat.mul_comm, Nat.mul_add_mod, Nat.mod_eq_of_lt hj]
          simp only [e1, e2]
          refine q3 j d ?_
          have : ((List.range len).map xf)[i]?.getD d0 = xf i := by simp [hil]
          rw [List.getD_eq_getElem?_getD, this] at hd
          exact hd
    · obtain ⟨i, hi, rfl⟩ := List.mem_map.1 hx
      exact (hcx i (List.mem_range.1 hi)).1

theorem rd_fieldsW {e : TypeId} {fs : Array Field} {n : Nat} {cs' : List Value} {y : DataW H × List MemPlace} (he : P.underlying e = some (.struct fs)) (hone : oneCellFields P fs = true) (hC : P.cellsOf e = fs.size) (hl : cs'.length = fs.size) (h : DataW.trod enc P w base spare held n e cs' = some y) :
    ∃ n', ∀ (j : Nat) (f : Field), fs[j]? = some f → ∃ y', DataW.trod enc P w base spare held n' f.type [cs'.getD j undef] = some y' ∧ ∀ m ∈ y'.1.weights P f.type, m ∈ y.1.weights P e := by
  obtain ⟨ys, n', hn', hy, hlen, hyl, hf⟩ := DataW.trod_struct he h
  refine ⟨n', fun j f hj => ?_⟩
  obtain ⟨ho, hk⟩ := hone_of hone j f hj
  have hjl : j < fs.size := (Array.getElem?_eq_some_iff.1 hj).1
  have h1 := hf j f hj
  rw [ho, hk] at h1
  have hone' : (cs'.drop j).take 1 = [cs'.getD j undef] := by
    rw [List.drop_eq_getElem_cons (by omega), List.getD_eq_getElem?_getD, List.getElem?_eq_getElem (by omega)]
    rfl
  rw [hone'] at h1
  have hys : ys[j]? = some (ys[j]'(by omega)) := List.getElem?_eq_getElem (by omega)
  refine ⟨_, h1.trans hys, fun m hm => ?_⟩
  subst hy
  simp only [DataW.weights, he]
  exact DataW.weights_mem_each (j := j) (by rw [List.getElem?_map, Array.getElem?_toList, hj]; rfl) (by rw [List.getElem?_map, hys]; rfl) m hm

theorem rd_intsW {t e : TypeId} {fuel : Nat} {cs : List Value} {x : DataW H × List MemPlace} (ht : P.underlying t = some (.slice e)) (he : P.underlying e = some (.int .i64)) (hC : P.cellsOf e = 1) (hB : P.bytesOf e = 8) (hw : ∀ n ∈ x.1.weights P t, n ≤ reachBytes) (h : DataW.trod enc P w base spare held fuel t cs = some x) :
    ∃ (a : Option Addr) (len cap : Nat) (xs : List Int), cs = [.slice a len cap] ∧ xs.length = len ∧ RD w (Old w) (.slice a len cap) (ints fun _ => xs) ∧ LB xs := by
  obtain ⟨a, len, cap, xs, h1, h2, h3, h4, _⟩ := rd_sliceW (Q := fun _ : Int => True) (cells := fun x => [.i .i64 x]) (d0 := 0) ht hC hB (by omega) (fun _ => rfl) hw trivial (fun n cs' y hy hl _ => by
    obtain ⟨k, rfl⟩ := rd_int he hy
    refine ⟨k, trivial, fun j d hd => ?_⟩
    cases j with
    | zero => simp at hd; subst hd; exact RD.i .i64 (fun _ => k)
    | succ j => simp at hd) h
  refine ⟨a, len, cap, xs, h1, h2, h3, ?_⟩
  unfold LB
  have : reachBytes = 140737488351232 := rfl
  omega
end

section
variable {H : Type} {enc : TypeId × Value → H} {w : World} {base : Nat} {spare : Nat → Bool} {held : Bool}

/-- What an argument weighs is within the reach. -/
theorem wts_of {P : Program} {ts : List TypeId} {ds : List (DataW H)} {j : Nat} {t : TypeId} {d : DataW H} (hsz : (DataW.weightsEach P ts ds).all (· ≤ reachBytes) = true) (ht : ts[j]? = some t) (hd : ds[j]? = some d) : ∀ n ∈ d.weights P t, n ≤ reachBytes := fun n hn => by
  have := List.all_eq_true.1 hsz _ (DataW.weights_mem_each ht hd n hn)
  simpa using this

theorem rd_lists {fuel : Nat} {cs : List Value} {x : DataW H × List MemPlace} (hw : ∀ n ∈ x.1.weights Try.prog 63, n ≤ reachBytes) (h : DataW.trod enc Try.prog w base spare held fuel 63 cs = some x) :
    ∃ (a : Option Addr) (len cap : Nat) (xs : List (List Int)), cs = [.slice a len cap] ∧ xs.length = len ∧ RD w (Old w) (.slice a len cap) (lists fun _ => xs) ∧ LB xs ∧ ∀ x ∈ xs, LB x := by
  obtain ⟨a, len, cap, xs, h1, h2, h3, h4, h5⟩ := rd_sliceW (esz := 1) (B := 24) (Q := fun x : List Int => LB x) (cells := fun x => [ints x]) (d0 := []) Try.underlying63 (by kernel_rfl) (by kernel_rfl) (by omega) (fun _ => rfl) hw (Nat.zero_le _) (fun n cs' y hy hl hy2 => by
    obtain ⟨a, len, cap, xs, rfl, _, k3, k4⟩ := rd_intsW Try.underlying22 Try.underlying3 (by kernel_rfl) (by kernel_rfl) hy2 hy
    refine ⟨xs, k4, fun j d hd => ?_⟩
    cases j with
    | zero => simp at hd; subst hd; exact k3
    | succ j => simp at hd) h
  refine ⟨a, len, cap, xs, h1, h2, h3, ?_, h5⟩
  unfold LB
  have : reachBytes = 140737488351232 := rfl
  omega

theorem rd_blocks {fuel : Nat} {cs : List Value} {x : DataW H × List MemPlace} (hw : ∀ n ∈ x.1.weights Try.prog 44, n ≤ reachBytes) (h : DataW.trod enc Try.prog w base spare held fuel 44 cs = some x) :
    ∃ (a : Option Addr) (len cap : Nat) (xs : List Bk), cs = [.slice a len cap] ∧ xs.length = len ∧ RD w (Old w) (.slice a len cap) (blocks fun _ => xs) ∧ GB xs := by
  obtain ⟨a, len, cap, xs, h1, h2, h3, h4, h5⟩ := rd_sliceW (esz := 4) (B := 48) (Q := fun x : Bk => LB x.2.2.2) (cells := fun x => [.i .i64 (fun _ => (x ()).1), .i .i64 (fun _ => (x ()).2.1), .i .i64 (fun _ => (x ()).2.2.1), pairs (fun _ => (x ()).2.2.2)]) (d0 := (0, 0, 0, [])) Try.underlying44 (by kernel_rfl) (by kernel_rfl) (by omega) (fun _ => rfl) hw (Nat.zero_le _) (fun n cs' y hy hl hy2 => by
    obtain ⟨n', hf⟩ := rd_fieldsW Try.underlying78 (by kernel_rfl) (by kernel_rfl) hl hy
    obtain ⟨_, h0, _⟩ := hf 0 _ rfl
    obtain ⟨_, h1, _⟩ := hf 1 _ rfl
    obtain ⟨_, h2, _⟩ := hf 2 _ rfl
    obtain ⟨_, h3, w3⟩ := hf 3 _ rfl
    obtain ⟨k0, e0⟩ := rd_int Try.underlying3 h0
    obtain ⟨k1, e1⟩ := rd_int Try.underlying3 h1
    obtain ⟨k2, e2⟩ := rd_int Try.underlying3 h2
    obtain ⟨a, len, cap, ps, e3, _, r3, b3, _⟩ := rd_sliceW (esz := 2) (B := 16) (Q := fun _ : Int × Int => True) (cells := fun x => [.i .i64 (fun _ => (x ()).1), .i .i64 (fun _ => (x ()).2)]) (d0 := (0, 0)) Try.underlying76 (by kernel_rfl) (by kernel_rfl) (by omega) (fun _ => rfl) (fun n hn => hy2 n (w3 n hn)) trivial (fun n cs' y hy hl _ => by
      obtain ⟨n', hf⟩ := rd_fields Try.underlying80 (by kernel_rfl) (by kernel_rfl) hl hy
      obtain ⟨_, h0⟩ := hf 0 _ rfl
      obtain ⟨_, h1⟩ := hf 1 _ rfl
      obtain ⟨k0, e0⟩ := rd_int Try.underlying3 h0
      obtain ⟨k1, e1⟩ := rd_int Try.underlying3 h1
      refine ⟨(k0, k1), trivial, fun j d hd => ?_⟩
      match j with
      | 0 => simp at hd; subst hd; rw [(List.cons.inj e0).1]; exact RD.i .i64 (fun _ => k0)
      | 1 => simp at hd; subst hd; rw [(List.cons.inj e1).1]; exact RD.i .i64 (fun _ => k1)
      | j + 2 => simp at hd) h3
    refine ⟨(k0, k1, k2, ps), ?_, fun j d hd => ?_⟩
    · show LB ps
      unfold LB
      have : reachBytes = 140737488351232 := rfl
      omega
    match j with
    | 0 => simp at hd; subst hd; rw [(List.cons.inj e0).1]; exact RD.i .i64 (fun _ => k0)
    | 1 => simp at hd; subst hd; rw [(List.cons.inj e1).1]; exact RD.i .i64 (fun _ => k1)
    | 2 => simp at hd; subst hd; rw [(List.cons.inj e2).1]; exact RD.i .i64 (fun _ => k2)
    | 3 => simp at hd; subst hd; rw [(List.cons.inj e3).1]; exact r3
    | j + 4 => simp at hd) h
  refine ⟨a, len, cap, xs, h1, h2, h3, ?_, h5⟩
  unfold LB
  have : reachBytes = 140737488351232 := rfl
  omega
end
end Go.Eng
