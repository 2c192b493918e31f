/- The contract of funcorder.Order. -/
import Derived.Test.YtmbodncejejceaaBF12
import Derived.Test.YtmbodncejejceaaBF10
set_option linter.all false

namespace Go.Eng
open Go.Proofs
attribute [local irreducible] vc vops gop step fins fin finP cov covEnv covRows

def ordR (s : List Int) (c : List Near) : List Int := if (funFault s c).1 = 0 then orderF (wt c) s.length else []
def oA (o : Option (Nat × Nat)) : Int := match o with
  | none => -1
  | some p => p.1
def oB (o : Option (Nat × Nat)) : Int := match o with
  | none => -1
  | some p => p.2
def sxW (W : Int → Int → Int) (a b : List Int) (i : Nat) : Int := sumBy (fun x => sumBy (fun y => W x y) b) (a.take i)
def syW (W : Int → Int → Int) (x : Int) (b : List Int) (j : Nat) : Int := sumBy (fun y => W x y) (b.take j)
theorem sy_bd {W : Int → Int → Int} (hW : ∀ x y, 0 ≤ W x y ∧ W x y ≤ 200000000) (x : Int) {b : List Int} (hb : b.length ≤ 60) (j : Nat) : 0 ≤ syW W x b j ∧ syW W x b j ≤ 12000000000 := by
  have h := sumBy_le (f := fun y => W x y) (B := 200000000) (l := b.take j) fun y _ => hW x y
  have h2 : ((b.take j).length : Int) ≤ 60 := by have := List.length_take_le' j b; omega
  unfold syW; omega
theorem sx_bd {W : Int → Int → Int} (hW : ∀ x y, 0 ≤ W x y ∧ W x y ≤ 200000000) {a b : List Int} (ha : a.length ≤ 60) (hb : b.length ≤ 60) (i : Nat) : 0 ≤ sxW W a b i ∧ sxW W a b i ≤ 720000000000 := by
  have h := sumBy_le (f := fun x => sumBy (fun y => W x y) b) (B := 12000000000) (l := a.take i) fun x _ => by
    have := sy_bd hW x hb b.length
    unfold syW at this
    rwa [List.take_length] at this
  have h2 : ((a.take i).length : Int) ≤ 60 := by have := List.length_take_le' i a; omega
  unfold sxW; omega
theorem sy_step {W : Int → Int → Int} {x : Int} {b : List Int} {j : Nat} (h : j < b.length) : syW W x b (j + 1) = syW W x b j + W x (b.getD j 0) := sumBy_take (fun y => W x y) 0 h
theorem sx_step {W : Int → Int → Int} {a b : List Int} {i : Nat} (h : i < a.length) : sxW W a b (i + 1) = sxW W a b i + syW W (a.getD i 0) b b.length := by
  unfold sxW syW
  rw [sumBy_take _ 0 h, List.take_length]
theorem sx_full (W : Int → Int → Int) (a b : List Int) : sxW W a b a.length = crossW W a b := by unfold sxW crossW; rw [List.take_length]
theorem order_none {W : Int → Int → Int} {L : List (List Int)} (h : stepL W L = none) : orderL W L.length L = L.flatten := by
  cases hL : L.length with
  | zero => rfl
  | succ k => unfold orderL; rw [h]
theorem order_some {W : Int → Int → Int} {L L' : List (List Int)} (h : stepL W L = some L') : orderL W L.length L = orderL W L'.length L' := by
  have := stepL_len h
  rw [← this]
  conv => lhs; unfold orderL
  rw [h]
theorem InvL.len1 {n : Nat} {L : List (List Int)} (h : InvL n L) {x : List Int} (hx : x ∈ L) : x.length ≤ n := by
  obtain ⟨p, q, rfl⟩ := List.append_of_mem hx
  have := h.2.length_eq
  simp only [List.flatten_append, List.flatten_cons, List.length_append, List.length_map, List.length_range] at this
  omega

theorem order_ok (s : Th (List Int)) (c : Th (List Near)) :
    GCall Try.prog 19 [.d (ints s), .d (nears c)] (.tup [.d (ints fun _ => ordR (s ()) (c ())), .d (fault (fun _ => (funFault (s ()) (c ())).1) fun _ => (funFault (s ()) (c ())).2)]) [] := by
  refine g19 (tabOK 0 mm) rfl (Nat.le_of_ble_eq_true rfl) rfl ?_
  repeat' first
    | (refine VIf.mk' ?_ ?_ <;> intro _)
    | (refine LenB.mk ?_; intro _)
    | refine And.intro ?_ ?_
    | exact trivial
    | refine Stop.mk ?_
    | exact ShEq.sl
    | refine VCall.mk' (.mk (check_ok _ _)) (.inl rfl) ?_
    | ((fail_if_success refine Side.mk ?_); (fail_if_success refine Exists.intro ?_ ?_); (fail_if_success refine VLoop.mk ?_); (fail_if_success refine VCut.mk ?_); (fail_if_success refine REq.sl ?_); (fail_if_success refine Same.mk ?_); (fail_if_success refine DEq.mk ?_); (fail_if_success refine VCall.mk ?_); (fail_if_success show False); (fail_if_success show _ = _); cbv)
  all_goals try simp only [ncast, decide_eq_true_eq, decide_eq_false_iff_not, Decidable.not_not, Bool.not_eq_true', Bool.not_eq_false', cond_t, cond_f, toNat_cast] at *
  · rename_i h
    refine Side.mk ?_
    unfold ordR; rw [if_neg (ff_bad h)]
  · exact Side.mk trivial
  · exact Side.mk trivial
  rename_i h1
  have h0 := ff_good h1
  have hg := funFault_good h0
  have hgc := hg.calls
  have hn := hg.n
  have hW := wt_nonneg hgc
  generalize hWW : wt (c ⟨⟩) = W at hW
  have hR : ordR (s ⟨⟩) (c ⟨⟩) = orderF W (s ⟨⟩).length := by unfold ordR; rw [if_pos h0, hWW]
  have hgr : ∀ x y : Int, 0 ≤ x → x < (s ⟨⟩).length → 0 ≤ y → y < (s ⟨⟩).length → ((gridL (c ⟨⟩) (s ⟨⟩).length).getD x.toNat []).getD y.toNat 0 = W x y := by
    intro x y hx1 hx2 hy1 hy2
    rw [gridL_at (by omega) (by omega), ← hWW]
    congr 1 <;> omega
  refine VCall.mk' (.mk (weights_ok _ _ (s ⟨⟩).length rfl hn hgc fun x hx => ⟨(hg.ca x hx).1, (hg.ca x hx).2.1⟩)) (.inl rfl) ?_
  repeat' first
    | (refine VIf.mk' ?_ ?_ <;> intro _)
    | (refine LenB.mk ?_; intro _)
    | refine And.intro ?_ ?_
    | exact trivial
    | refine Stop.mk ?_
    | exact ShEq.sl
    | ((fail_if_success refine Side.mk ?_); (fail_if_success refine Exists.intro ?_ ?_); (fail_if_success refine VLoop.mk ?_); (fail_if_success refine VCut.mk ?_); (fail_if_success refine REq.sl ?_); (fail_if_success refine Same.mk ?_); (fail_if_success refine DEq.mk ?_); (fail_if_success refine VCall.mk ?_); (fail_if_success show False); (fail_if_success show _ = _); cbv)
  all_goals try simp only [ncast, decide_eq_true_eq, decide_eq_false_iff_not, Decidable.not_not, Bool.not_eq_true', Bool.not_eq_false', cond_t, cond_f, toNat_cast] at *
  · exact Side.mk (by omega)
  -- the lists of one
  refine VLoop.inv (ι := Nat × List (List Int)) (fun p => ⟨[(5, .bptr 0 0), (7, .d (lists fun _ => gridL (c ⟨⟩) (s ⟨⟩).length)), (8, .own 2), (35, .d (num fun _ => (s ⟨⟩).length)), (36, .d (num fun _ => p.1))], [(2, .sl listSh fun _ => p.2), (1, .box [num fun _ => 0, num fun _ => 0]), (0, .box [num fun _ => 0, num fun _ => 0])]⟩)
    (fun p => p.1 ≤ (s ⟨⟩).length ∧ p.2.length = (s ⟨⟩).length ∧ ∀ j, j < p.1 → p.2.getD j [] = [(j : Int)]) (fun p => (s ⟨⟩).length - p.1) (0, List.replicate (s ⟨⟩).length [])
    ⟨Nat.zero_le _, by simp, fun j hj => absurd hj (Nat.not_lt_zero _)⟩ ?_ ?_
  · cbv
    repeat' first | refine And.intro ?_ ?_ | exact trivial | exact Side.mk rfl | exact REq.sl rfl | exact DEq.mk rfl | exact Side.mk h0 | exact Side.mk (funFault_zero h0) | exact Side.mk (by simp)
  rintro ⟨i, L⟩ ⟨hi, hL, hLj⟩
  simp only at hi hL hLj
  repeat' first
    | (refine VIf.mk' ?_ ?_ <;> intro _)
    | (refine LenB.mk ?_; intro _)
    | refine And.intro ?_ ?_
    | exact trivial
    | refine Stop.mk ?_
    | exact ShEq.sl
    | refine Dec1.mk ⟨_, rfl, ?_⟩
    | ((fail_if_success refine Side.mk ?_); (fail_if_success refine Exists.intro ?_ ?_); (fail_if_success refine VLoop.mk ?_); (fail_if_success refine VCut.mk ?_); (fail_if_success refine REq.sl ?_); (fail_if_success refine Same.mk ?_); (fail_if_success refine DEq.mk ?_); (fail_if_success refine VCall.mk ?_); (fail_if_success show False); (fail_if_success show _ = _); cbv)
  all_goals try simp only [ncast, decide_eq_true_eq, decide_eq_false_iff_not, Decidable.not_not, Bool.not_eq_true', Bool.not_eq_false', cond_t, cond_f, toNat_cast] at *
  · exact Side.mk (by omega)
  · exact Side.mk (i64 (by omega))
  · rename_i h
    refine ⟨(i + 1, L.set i [(i : Int)]), ⟨by simp only; omega, by simpa using hL, fun j hj => ?_⟩, by simp only; omega, ?_⟩
    · simp only at hj ⊢
      by_cases e : j = i
      · subst e; exact set_getD_eq [] _ (by omega)
      · rw [set_getD_ne [] _ (Ne.symm e)]; exact hLj j (by omega)
    · cbv
      repeat' first | refine And.intro ?_ ?_ | exact trivial | exact Side.mk rfl | exact REq.sl rfl | exact DEq.mk rfl
  rename_i hii
  have hin : i = (s ⟨⟩).length := by omega
  have hLs : L = startL (s ⟨⟩).length := eq_of_getD [] (by rw [hL]; simp [startL]) fun k hk => by rw [hLj k (by omega), start_getD (by omega)]
  subst hLs
  clear hLj
  -- the rounds
  refine VLoop.inv (ι := List (List Int)) (fun L => ⟨[(5, .bptr 0 0), (7, .d (lists fun _ => gridL (c ⟨⟩) (s ⟨⟩).length)), (8, .own 2)], [(2, .sl listSh fun _ => L), (1, .box [num fun _ => 0, num fun _ => 0]), (0, .box [num fun _ => 0, num fun _ => 0])]⟩)
    (fun L => InvL (s ⟨⟩).length L ∧ orderL W L.length L = orderF W (s ⟨⟩).length) (fun L => L.length) (startL (s ⟨⟩).length)
    ⟨startL_inv _, by simp [startL, orderF]⟩ ?_ ?_
  · cbv
    repeat' first | refine And.intro ?_ ?_ | exact trivial | exact Side.mk rfl | exact REq.sl rfl | exact DEq.mk rfl | exact Side.mk (by simp only [ncast]; omega)
  clear hL
  rintro L ⟨hI, hO⟩
  have hLn := hI.length
  have hle : ∀ k, k < L.length → (L.getD k []).length ≤ 60 := fun k hk => by
    have := hI.len1 (getD_memL [] hk)
    omega
  have hin : ∀ k, k < L.length → ∀ j, j < (L.getD k []).length → 0 ≤ (L.getD k []).getD j 0 ∧ (L.getD k []).getD j 0 < (s ⟨⟩).length := fun k hk j hj => by
    have := hI.lt (getD_memL [] hk) (getD_memI hj)
    omega
  repeat' first
    | (refine VIf.mk' ?_ ?_ <;> intro _)
    | (refine LenB.mk ?_; intro _)
    | refine And.intro ?_ ?_
    | exact trivial
    | refine Stop.mk ?_
    | exact ShEq.sl
    | ((fail_if_success refine Side.mk ?_); (fail_if_success refine Exists.intro ?_ ?_); (fail_if_success refine VLoop.mk ?_); (fail_if_success refine VCut.mk ?_); (fail_if_success refine REq.sl ?_); (fail_if_success refine Same.mk ?_); (fail_if_success refine DEq.mk ?_); (fail_if_success refine VCall.mk ?_); (fail_if_success show False); (fail_if_success show _ = _); cbv)
  all_goals try simp only [ncast, decide_eq_true_eq, decide_eq_false_iff_not, Decidable.not_not, Bool.not_eq_true', Bool.not_eq_false', cond_t, cond_f, toNat_cast] at *
  generalize hM : L.length = M at *
  generalize hf : pairF W L = f
  have hfe : ∀ i k, f (i, k) = sxW W (L.getD i []) (L.getD k []) (L.getD i []).length := fun i k => by rw [sx_full, ← hf]; rfl
  -- the first list
  refine VLoop.inv (ι := Nat) (fun i => ⟨[(5, .bptr 0 0), (7, .d (lists fun _ => gridL (c ⟨⟩) (s ⟨⟩).length)), (8, .own 2), (10, .d (num fun _ => oA (bestTo f M i (i + 1)))), (11, .d (num fun _ => oB (bestTo f M i (i + 1)))), (12, .d (num fun _ => bval f (bestTo f M i (i + 1)))), (46, .d (num fun _ => M)), (47, .d (num fun _ => i))], [(2, .sl listSh fun _ => L), (1, .box [num fun _ => 0, num fun _ => 0]), (0, .box [num fun _ => 0, num fun _ => 0])]⟩)
    (fun i => i ≤ M) (fun i => M - i) 0 (Nat.zero_le _) ?_ ?_
  · cbv
    repeat' first | refine And.intro ?_ ?_ | exact trivial | exact Side.mk rfl | exact REq.sl rfl | exact DEq.mk rfl | exact Side.mk (by rw [bestTo_zero]; rfl) | exact Side.mk (by rw [hM])
  intro i hi
  repeat' first
    | (refine VIf.mk' ?_ ?_ <;> intro _)
    | (refine LenB.mk ?_; intro _)
    | refine And.intro ?_ ?_
    | exact trivial
    | refine Stop.mk ?_
    | exact ShEq.sl
    | ((fail_if_success refine Side.mk ?_); (fail_if_success refine Exists.intro ?_ ?_); (fail_if_success refine VLoop.mk ?_); (fail_if_success refine VCut.mk ?_); (fail_if_success refine REq.sl ?_); (fail_if_success refine Same.mk ?_); (fail_if_success refine DEq.mk ?_); (fail_if_success refine VCall.mk ?_); (fail_if_success show False); (fail_if_success show _ = _); cbv)
  all_goals try simp only [ncast, decide_eq_true_eq, decide_eq_false_iff_not, Decidable.not_not, Bool.not_eq_true', Bool.not_eq_false', cond_t, cond_f, toNat_cast] at *
  · exact Side.mk (i64 (by omega))
  · rename_i hiM
    -- the second list
    refine VLoop.inv (ι := Nat) (fun k => ⟨[(5, .bptr 0 0), (7, .d (lists fun _ => gridL (c ⟨⟩) (s ⟨⟩).length)), (8, .own 2), (10, .d (num fun _ => oA (bestTo f M i k))), (11, .d (num fun _ => oB (bestTo f M i k))), (12, .d (num fun _ => bval f (bestTo f M i k))), (13, .d (num fun _ => i)), (14, .d (num fun _ => k)), (46, .d (num fun _ => M)), (47, .d (num fun _ => i))], [(2, .sl listSh fun _ => L), (1, .box [num fun _ => 0, num fun _ => 0]), (0, .box [num fun _ => 0, num fun _ => 0])]⟩)
      (fun k => i + 1 ≤ k ∧ k ≤ M) (fun k => M - k) (i + 1) ⟨Nat.le_refl _, by omega⟩ ?_ ?_
    · cbv
      repeat' first | refine And.intro ?_ ?_ | exact trivial | exact Side.mk rfl | exact REq.sl rfl | exact DEq.mk rfl | exact Side.mk (by simp only [ncast]; omega)
    rintro k ⟨hk1, hk2⟩
    repeat' first
      | (refine VIf.mk' ?_ ?_ <;> intro _)
      | (refine LenB.mk ?_; intro _)
      | refine And.intro ?_ ?_
      | exact trivial
      | refine Stop.mk ?_
      | exact ShEq.sl
      | ((fail_if_success refine Side.mk ?_); (fail_if_success refine Exists.intro ?_ ?_); (fail_if_success refine VLoop.mk ?_); (fail_if_success refine VCut.mk ?_); (fail_if_success refine REq.sl ?_); (fail_if_success refine Same.mk ?_); (fail_if_success refine DEq.mk ?_); (fail_if_success refine VCall.mk ?_); (fail_if_success show False); (fail_if_success show _ = _); cbv)
    all_goals try simp only [ncast, decide_eq_true_eq, decide_eq_false_iff_not, Decidable.not_not, Bool.not_eq_true', Bool.not_eq_false', cond_t, cond_f, toNat_cast] at *
    · exact Side.mk (by omega)
    · rename_i hkM _
      have hkM' : k < M := by omega
      have hli := hle i (by omega)
      have hlk := hle k (by omega)
      have hni := hin i (by omega)
      have hnk := hin k (by omega)
      have hfe1 := hfe i k
      -- its functions
      refine VLoop.inv (ι := Nat) (fun x => ⟨[(5, .bptr 0 0), (7, .d (lists fun _ => gridL (c ⟨⟩) (s ⟨⟩).length)), (8, .own 2), (10, .d (num fun _ => oA (bestTo f M i k))), (11, .d (num fun _ => oB (bestTo f M i k))), (12, .d (num fun _ => bval f (bestTo f M i k))), (13, .d (num fun _ => i)), (14, .d (num fun _ => k)), (15, .d (num fun _ => sxW W (L.getD i []) (L.getD k []) x)), (46, .d (num fun _ => M)), (47, .d (num fun _ => i)), (61, .d (ints fun _ => (L.getD i []))), (62, .d (num fun _ => (L.getD i []).length)), (63, .d (num fun _ => x))], [(2, .sl listSh fun _ => L), (1, .box [num fun _ => 0, num fun _ => 0]), (0, .box [num fun _ => 0, num fun _ => 0])]⟩)
        (fun x => x ≤ (L.getD i []).length) (fun x => (L.getD i []).length - x) 0 (Nat.zero_le _) ?_ ?_
      · cbv
        repeat' first | refine And.intro ?_ ?_ | exact trivial | exact Side.mk rfl | exact REq.sl rfl | exact DEq.mk rfl
      intro x hx
      repeat' first
        | (refine VIf.mk' ?_ ?_ <;> intro _)
        | (refine LenB.mk ?_; intro _)
        | refine And.intro ?_ ?_
        | exact trivial
        | refine Stop.mk ?_
        | exact ShEq.sl
        | ((fail_if_success refine Side.mk ?_); (fail_if_success refine Exists.intro ?_ ?_); (fail_if_success refine VLoop.mk ?_); (fail_if_success refine VCut.mk ?_); (fail_if_success refine REq.sl ?_); (fail_if_success refine Same.mk ?_); (fail_if_success refine DEq.mk ?_); (fail_if_success refine VCall.mk ?_); (fail_if_success show False); (fail_if_success show _ = _); cbv)
      all_goals try simp only [ncast, decide_eq_true_eq, decide_eq_false_iff_not, Decidable.not_not, Bool.not_eq_true', Bool.not_eq_false', cond_t, cond_f, toNat_cast] at *
      · exact Side.mk (by omega)
      · exact Side.mk (by omega)
      · rename_i hxl _
        have hxn := hni x (by omega)
        -- the functions of the second list
        refine VLoop.inv (ι := Nat) (fun y => ⟨[(5, .bptr 0 0), (7, .d (lists fun _ => gridL (c ⟨⟩) (s ⟨⟩).length)), (8, .own 2), (10, .d (num fun _ => oA (bestTo f M i k))), (11, .d (num fun _ => oB (bestTo f M i k))), (12, .d (num fun _ => bval f (bestTo f M i k))), (13, .d (num fun _ => i)), (14, .d (num fun _ => k)), (15, .d (num fun _ => sxW W (L.getD i []) (L.getD k []) x + syW W ((L.getD i []).getD x 0) (L.getD k []) y)), (17, .d (num fun _ => (L.getD i []).getD x 0)), (46, .d (num fun _ => M)), (47, .d (num fun _ => i)), (61, .d (ints fun _ => (L.getD i []))), (62, .d (num fun _ => (L.getD i []).length)), (63, .d (num fun _ => x)), (70, .d (ints fun _ => (L.getD k []))), (71, .d (num fun _ => (L.getD k []).length)), (72, .d (num fun _ => y))], [(2, .sl listSh fun _ => L), (1, .box [num fun _ => 0, num fun _ => 0]), (0, .box [num fun _ => 0, num fun _ => 0])]⟩)
          (fun y => y ≤ (L.getD k []).length) (fun y => (L.getD k []).length - y) 0 (Nat.zero_le _) ?_ ?_
        · cbv
          repeat' first | refine And.intro ?_ ?_ | exact trivial | exact Side.mk rfl | exact REq.sl rfl | exact DEq.mk rfl | exact Side.mk (by show _ = sxW W (L.getD i []) (L.getD k []) x + 0; omega)
        intro y hy
        have b1 := sx_bd hW hli hlk x
        have b2 := sy_bd hW ((L.getD i []).getD x 0) hlk y
        have b3 := sy_bd hW ((L.getD i []).getD x 0) hlk (y + 1)
        repeat' first
          | (refine VIf.mk' ?_ ?_ <;> intro _)
          | (refine LenB.mk ?_; intro _)
          | refine And.intro ?_ ?_
          | exact trivial
          | refine Stop.mk ?_
          | exact ShEq.sl
          | ((fail_if_success refine Side.mk ?_); (fail_if_success refine Exists.intro ?_ ?_); (fail_if_success refine VLoop.mk ?_); (fail_if_success refine VCut.mk ?_); (fail_if_success refine REq.sl ?_); (fail_if_success refine Same.mk ?_); (fail_if_success refine DEq.mk ?_); (fail_if_success refine VCall.mk ?_); (fail_if_success show False); (fail_if_success show _ = _); cbv)
        all_goals try simp only [ncast, decide_eq_true_eq, decide_eq_false_iff_not, Decidable.not_not, Bool.not_eq_true', Bool.not_eq_false', cond_t, cond_f, toNat_cast] at *
        · exact Side.mk (by omega)
        · exact Side.mk (by rw [gridL_len]; omega)
        · refine Side.mk ?_
          have := hnk y (by omega)
          rw [gridL_getD (by omega), List.length_map, List.length_range]
          omega
        · have := hnk y (by omega)
          have e := sy_step (W := W) (x := (L.getD i []).getD x 0) (b := (L.getD k [])) (j := y) (by omega)
          rw [hgr _ _ hxn.1 hxn.2 this.1 this.2]
          exact Side.mk (i64 (by omega))
        · exact Side.mk (i64 (by omega))
        · have hh := hnk y (by omega)
          have e := sy_step (W := W) (x := (L.getD i []).getD x 0) (b := (L.getD k [])) (j := y) (by omega)
          refine ⟨y + 1, by omega, by omega, ?_⟩
          cbv
          repeat' first | refine And.intro ?_ ?_ | exact trivial | exact Side.mk rfl | exact REq.sl rfl | exact DEq.mk rfl | exact Side.mk (by rw [hgr _ _ hxn.1 hxn.2 hh.1 hh.2, e]; omega)
        · exact Side.mk (i64 (by omega))
        · rename_i hyl
          have hye : y = (L.getD k []).length := by omega
          have e := sx_step (W := W) (a := (L.getD i [])) (b := (L.getD k [])) (i := x) (by omega)
          refine ⟨x + 1, by omega, by omega, ?_⟩
          cbv
          repeat' first | refine And.intro ?_ ?_ | exact trivial | exact Side.mk rfl | exact REq.sl rfl | exact DEq.mk rfl | exact Side.mk (by rw [e, hye])
      · exact Side.mk (i64 (by omega))
      · rename_i hxl hgt
        have hxe : x = (L.getD i []).length := by omega
        have e : bestTo f M i (k + 1) = some (i, k) := by
          rw [bestTo_succ f M i k hk1]
          unfold bstep
          rw [hfe1, ← hxe, if_pos (by omega)]
        refine ⟨k + 1, ⟨by omega, by omega⟩, by omega, ?_⟩
        cbv
        repeat' first | refine And.intro ?_ ?_ | exact trivial | exact Side.mk rfl | exact REq.sl rfl | exact DEq.mk rfl | exact Side.mk (by rw [e]; rfl) | exact Side.mk (by rw [e, hxe]; exact hfe1.symm)
      · exact Side.mk (i64 (by omega))
      · rename_i hxl hgt
        have hxe : x = (L.getD i []).length := by omega
        have e : bestTo f M i (k + 1) = bestTo f M i k := by
          rw [bestTo_succ f M i k hk1]
          unfold bstep
          rw [hfe1, ← hxe, if_neg (by omega)]
        refine ⟨k + 1, ⟨by omega, by omega⟩, by omega, ?_⟩
        cbv
        repeat' first | refine And.intro ?_ ?_ | exact trivial | exact Side.mk rfl | exact REq.sl rfl | exact DEq.mk rfl | exact Side.mk (by rw [e])
    · exact Side.mk (i64 (by omega))
    · rename_i hkM _
      have hke : k = M := by omega
      refine ⟨i + 1, by omega, by omega, ?_⟩
      have e := bestTo_row f M i k (by omega) (.inl (by omega))
      cbv
      repeat' first | refine And.intro ?_ ?_ | exact trivial | exact Side.mk rfl | exact REq.sl rfl | exact DEq.mk rfl | exact Side.mk (by rw [← e])
  · rename_i hiM hneg
    have hie : i = M := by omega
    subst hie
    have hb : bestTo f i i (i + 1) = none := by
      cases hb : bestTo f i i (i + 1) with
      | none => rfl
      | some p => rw [hb] at hneg; simp only [oA] at hneg; omega
    have hst : stepL W L = none := by
      unfold stepL best
      rw [hf, hM, hb]
    have hfl : (L.flatten).length = (s ⟨⟩).length := by have := hI.2.length_eq; simpa using this
    have hres : ordR (s ⟨⟩) (c ⟨⟩) = L.flatten := by
      rw [hR, ← hO, ← hM]; exact order_none hst
    refine VCall.frz' 2 _ rfl (Nat.zero_le _) ?_
    cbv
    refine VCall.mk' (.mk (concat_ok' (fun _ => L) (by show L.flatten.length ≤ 1000000; omega))) (.inl rfl) ?_
    repeat' first
      | (refine VIf.mk' ?_ ?_ <;> intro _)
      | (refine LenB.mk ?_; intro _)
      | refine And.intro ?_ ?_
      | exact trivial
      | refine Stop.mk ?_
      | exact ShEq.sl
      | ((fail_if_success refine Side.mk ?_); (fail_if_success refine Exists.intro ?_ ?_); (fail_if_success refine VLoop.mk ?_); (fail_if_success refine VCut.mk ?_); (fail_if_success refine REq.sl ?_); (fail_if_success refine Same.mk ?_); (fail_if_success refine DEq.mk ?_); (fail_if_success refine VCall.mk ?_); (fail_if_success show False); (fail_if_success show _ = _); cbv)
    all_goals try simp only [ncast, decide_eq_true_eq, decide_eq_false_iff_not, Decidable.not_not, Bool.not_eq_true', Bool.not_eq_false', cond_t, cond_f, toNat_cast] at *
    · exact DEq.mk (by simp only [hres])
    · exact Side.mk h0.symm
    · exact Side.mk (funFault_zero h0).symm
  all_goals
    have hmem : 0 ≤ oA (bestTo f M i (i + 1)) → ∃ p, bestTo f M i (i + 1) = some p ∧ p.1 < p.2 ∧ p.2 < M := fun h => by
      cases hb : bestTo f M i (i + 1) with
      | none => rw [hb] at h; simp [oA] at h
      | some p => exact ⟨p, rfl, bestTo_mem (.inr (by omega)) hb⟩
    obtain ⟨p, hp, hp1, hp2⟩ := hmem (by omega)
  · exact Side.mk (by rw [hp, hM]; simp only [oA]; omega)
  · exact Side.mk (by rw [hp, hM]; simp only [oB]; omega)
  rename_i hiM hneg
  have hie : i = M := by omega
  subst hie
  have eA : oA (bestTo f i i (i + 1)) = (p.1 : Int) := by rw [hp]; rfl
  have eB : oB (bestTo f i i (i + 1)) = (p.2 : Int) := by rw [hp]; rfl
  have hA1 := hI.1 _ (getD_memL [] (show p.1 < L.length by omega))
  have hB1 := hI.1 _ (getD_memL [] (show p.2 < L.length by omega))
  have hstep : stepL W L = some ((L.set p.1 (joinW W (L.getD p.1 []) (L.getD p.2 []))).eraseIdx p.2) := by
    unfold stepL best
    rw [hf, hM, hp]
  have qA : (fun _ : Unit => L.getD (oA (bestTo f i i (i + 1))).toNat []) = fun _ => L.getD p.1 [] := by rw [eA]; rfl
  have qB : (fun _ : Unit => L.getD (oB (bestTo f i i (i + 1))).toNat []) = fun _ => L.getD p.2 [] := by rw [eB]; rfl
  have hj := joined_ok (fun _ => L.getD (oA (bestTo f i i (i + 1))).toNat []) (fun _ => L.getD (oB (bestTo f i i (i + 1))).toNat []) c (s ⟨⟩).length hgc (by rw [eA]; exact hA1) (by rw [eB]; exact hB1)
    (by have := hle p.1 (by omega); show (L.getD (oA (bestTo f i i (i + 1))).toNat []).length ≤ 1000; rw [eA]; simp only [Int.toNat_natCast]; omega)
    (by have := hle p.2 (by omega); show (L.getD (oB (bestTo f i i (i + 1))).toNat []).length ≤ 1000; rw [eB]; simp only [Int.toNat_natCast]; omega)
    (by intro y hy; exact hI.lt (getD_memL [] (show p.1 < L.length by omega)) (by simpa only [eA, Int.toNat_natCast] using hy))
    (by intro y hy; exact hI.lt (getD_memL [] (show p.2 < L.length by omega)) (by simpa only [eB, Int.toNat_natCast] using hy))
  refine VCall.mk' (.mk hj) (.inl rfl) ?_
  repeat' first
    | (refine VIf.mk' ?_ ?_ <;> intro _)
    | (refine LenB.mk ?_; intro _)
    | refine And.intro ?_ ?_
    | exact trivial
    | refine Stop.mk ?_
    | exact ShEq.sl
    | refine Dec1.mk ⟨_, rfl, ?_⟩
    | ((fail_if_success refine Side.mk ?_); (fail_if_success refine Exists.intro ?_ ?_); (fail_if_success refine VLoop.mk ?_); (fail_if_success refine VCut.mk ?_); (fail_if_success refine REq.sl ?_); (fail_if_success refine Same.mk ?_); (fail_if_success refine DEq.mk ?_); (fail_if_success refine VCall.mk ?_); (fail_if_success show False); (fail_if_success show _ = _); cbv)
  all_goals try simp only [ncast, decide_eq_true_eq, decide_eq_false_iff_not, Decidable.not_not, Bool.not_eq_true', Bool.not_eq_false', cond_t, cond_f, toNat_cast] at *
  · exact Side.mk (by rw [eA, hM]; omega)
  · exact Side.mk (i64 (by rw [eB]; omega))
  refine VCall.mk' (.mk (delete_ok _ _ _ (by rw [eB]; omega) (by simp only [List.length_set]; rw [eB, hM]; omega) rfl)) (.inl rfl) ?_
  repeat' first
    | (refine VIf.mk' ?_ ?_ <;> intro _)
    | (refine LenB.mk ?_; intro _)
    | refine And.intro ?_ ?_
    | exact trivial
    | refine Stop.mk ?_
    | exact ShEq.sl
    | ((fail_if_success refine Side.mk ?_); (fail_if_success refine Exists.intro ?_ ?_); (fail_if_success refine VLoop.mk ?_); (fail_if_success refine VCut.mk ?_); (fail_if_success refine REq.sl ?_); (fail_if_success refine Same.mk ?_); (fail_if_success refine DEq.mk ?_); (fail_if_success refine VCall.mk ?_); (fail_if_success show False); (fail_if_success show _ = _); cbv)
  all_goals try simp only [ncast, decide_eq_true_eq, decide_eq_false_iff_not, Decidable.not_not, Bool.not_eq_true', Bool.not_eq_false', cond_t, cond_f, toNat_cast] at *
  have eL : (L.set (oA (bestTo f i i (i + 1))).toNat (joinW (wt (c ⟨⟩)) (L.getD (oA (bestTo f i i (i + 1))).toNat []) (L.getD (oB (bestTo f i i (i + 1))).toNat []))).eraseIdx (oB (bestTo f i i (i + 1))).toNat = (L.set p.1 (joinW W (L.getD p.1 []) (L.getD p.2 []))).eraseIdx p.2 := by
    rw [eA, eB, hWW]; rfl
  refine ⟨_, ⟨stepL_inv hI hstep, ?_⟩, ?_, ?_⟩
  · rw [← order_some hstep, hM]; exact hO
  · have := stepL_len hstep; omega
  · cbv
    repeat' first | refine And.intro ?_ ?_ | exact trivial | exact Side.mk rfl | exact REq.sl eL | exact DEq.mk rfl
end Go.Eng
