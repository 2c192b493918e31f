/- A text of the engine or of the contracts. -/

set_option linter.all false
/- Plain laws: sums over lists, weights of calls. -/
namespace Go.Eng
abbrev Near := Int × Int × Int

def sumBy {α : Type} (f : α → Int) : List α → Int
  | [] => 0
  | x :: l => f x + sumBy f l
theorem sumBy_take {α : Type} (f : α → Int) (d : α) : ∀ {l : List α} {i : Nat}, i < l.length → sumBy f (l.take (i + 1)) = sumBy f (l.take i) + f (l.getD i d)
  | [], i, h => by simp at h
  | x :: l, 0, h => by simp [sumBy]
  | x :: l, i + 1, h => by
    have := sumBy_take f d (l := l) (i := i) (by simpa using h)
    simp only [List.take_succ_cons, sumBy, List.getD_cons_succ] at *
    omega
theorem sumBy_le {α : Type} {f : α → Int} {B : Int} : ∀ {l : List α}, (∀ x ∈ l, 0 ≤ f x ∧ f x ≤ B) → 0 ≤ sumBy f l ∧ sumBy f l ≤ B * l.length
  | [], _ => by simp [sumBy]
  | x :: l, h => by
    have h1 := h x List.mem_cons_self
    have h2 := sumBy_le (l := l) fun y hy => h y (List.mem_cons_of_mem _ hy)
    simp only [sumBy, List.length_cons, Int.natCast_add, Int.mul_add]
    omega
theorem getD_memL {α : Type} (d : α) {l : List α} {i : Nat} (h : i < l.length) : l.getD i d ∈ l := by
  rw [List.getD_eq_getElem?_getD, List.getElem?_eq_getElem h]; exact List.getElem_mem h

def goodCalls (c : List Near) : Prop := c.length ≤ 200 ∧ ∀ x ∈ c, 0 ≤ x.2.2 ∧ x.2.2 ≤ 1000000
def betw1 (a b : List Int) (x : Near) : Int := if (x.1 ∈ a ∧ x.2.1 ∈ b) ∨ (x.1 ∈ b ∧ x.2.1 ∈ a) then x.2.2 else 0
def betw (c : List Near) (a b : List Int) : Int := sumBy (betw1 a b) c

theorem betw_bound {c : List Near} (h : goodCalls c) (a b : List Int) (i : Nat) : 0 ≤ sumBy (betw1 a b) (c.take i) ∧ sumBy (betw1 a b) (c.take i) ≤ 200000000 := by
  have h1 := sumBy_le (f := betw1 a b) (B := 1000000) (l := c.take i) fun x hx => by
    have := h.2 x (List.mem_of_mem_take hx)
    unfold betw1; split <;> omega
  have h2 : ((c.take i).length : Int) ≤ 200 := by have := List.length_take_le' i c; have := h.1; omega
  omega

def wt1 (a b : Int) (x : Near) : Int := if (x.1 = a ∧ x.2.1 = b) ∨ (x.1 = b ∧ x.2.1 = a) then x.2.2 else 0
def wt (c : List Near) (a b : Int) : Int := if a = b then 0 else sumBy (wt1 a b) c

theorem wt_bound {c : List Near} (h : goodCalls c) (a b : Int) (i : Nat) : 0 ≤ sumBy (wt1 a b) (c.take i) ∧ sumBy (wt1 a b) (c.take i) ≤ 200000000 := by
  have h1 := sumBy_le (f := wt1 a b) (B := 1000000) (l := c.take i) fun x hx => by
    have := h.2 x (List.mem_of_mem_take hx)
    unfold wt1; split <;> omega
  have h2 : ((c.take i).length : Int) ≤ 200 := by have := List.length_take_le' i c; have := h.1; omega
  omega

end Go.Eng

/- Plain laws: stable sorting by a key. -/
namespace Go.Eng

/-- The same elements, those of each key in the same order. -/
structure SP {α : Type} (key : α → Int) (xs ys : List α) : Prop where
  perm : xs.Perm ys
  fil : ∀ k : Int, xs.filter (fun x => decide (key x = k)) = ys.filter (fun x => decide (key x = k))

section
variable {α : Type} {key : α → Int} {d : α}

theorem SP.refl (xs : List α) : SP key xs xs := ⟨.refl _, fun _ => rfl⟩
theorem SP.trans {xs ys zs : List α} (h : SP key xs ys) (k : SP key ys zs) : SP key xs zs := ⟨h.perm.trans k.perm, fun q => (h.fil q).trans (k.fil q)⟩
theorem SP.symm {xs ys : List α} (h : SP key xs ys) : SP key ys xs := ⟨h.perm.symm, fun q => (h.fil q).symm⟩
theorem SP.app {a b x y : List α} (h : SP key a b) (k : SP key x y) : SP key (a ++ x) (b ++ y) := ⟨h.perm.append k.perm, fun q => by simp only [List.filter_append]; rw [h.fil, k.fil]⟩
theorem SP.cancel {p q x y : List α} (h : SP key (p ++ x ++ q) (p ++ y ++ q)) : SP key x y :=
  ⟨(List.perm_append_left_iff p).1 ((List.perm_append_right_iff q).1 h.perm), fun k => by
    have := h.fil k
    simp only [List.filter_append] at this
    exact List.append_cancel_left (List.append_cancel_right this)⟩
theorem SP.uniq : ∀ {xs ys : List α}, xs.Pairwise (fun x y => key x ≤ key y) → ys.Pairwise (fun x y => key x ≤ key y) → SP key xs ys → xs = ys
  | [], ys, _, _, h => (List.nil_perm.1 h.perm).symm
  | x :: xs, [], _, _, h => by have := h.perm.length_eq; simp at this
  | x :: xs, y :: ys, h1, h2, h => by
    have k1 : key x ≤ key y := by
      rcases List.mem_cons.1 (h.perm.mem_iff.2 (List.mem_cons_self (a := y) (l := ys))) with e | e
      · rw [e]; exact Int.le_refl _
      · exact (List.pairwise_cons.1 h1).1 y e
    have k2 : key y ≤ key x := by
      rcases List.mem_cons.1 (h.perm.mem_iff.1 (List.mem_cons_self (a := x) (l := xs))) with e | e
      · rw [e]; exact Int.le_refl _
      · exact (List.pairwise_cons.1 h2).1 x e
    have ke : key y = key x := Int.le_antisymm k2 k1
    have hf := h.fil (key x)
    rw [List.filter_cons_of_pos (by simp), List.filter_cons_of_pos (by simp [ke])] at hf
    obtain ⟨e, _⟩ := List.cons.inj hf
    subst e
    rw [SP.uniq (List.pairwise_cons.1 h1).2 (List.pairwise_cons.1 h2).2 ⟨List.Perm.cons_inv h.perm, fun k => ?_⟩]
    have := h.fil k
    by_cases hk : key x = k
    · rw [List.filter_cons_of_pos (by simp [hk]), List.filter_cons_of_pos (by simp [hk])] at this
      exact (List.cons.inj this).2
    · rw [List.filter_cons_of_neg (by simp [hk]), List.filter_cons_of_neg (by simp [hk])] at this
      exact this

/-- The stable sort. -/
def sortK (key : α → Int) (l : List α) : List α := l.mergeSort fun x y => decide (key x ≤ key y)
theorem sortK_pw (l : List α) : (sortK key l).Pairwise (fun x y => key x ≤ key y) := by
  have := List.pairwise_mergeSort (le := fun x y => decide (key x ≤ key y)) (fun a b c h1 h2 => by simp at *; omega) (fun a b => by simp; omega) l
  exact this.imp (fun h => by simpa using h)
theorem sortK_perm (l : List α) : (sortK key l).Perm l := List.mergeSort_perm _ _
theorem sortK_length (l : List α) : (sortK key l).length = l.length := (sortK_perm l).length_eq
theorem sortK_SP (l : List α) : SP key l (sortK key l) := by
  refine ⟨(sortK_perm l).symm, fun k => ?_⟩
  have h1 : (l.filter fun x => decide (key x = k)).Pairwise (fun x y => decide (key x ≤ key y) = true) := by
    rw [List.pairwise_iff_forall_sublist]
    intro a b hab
    have ha := hab.subset (List.mem_cons_self (a := a) (l := [b]))
    have hb := hab.subset (List.mem_cons_of_mem a (List.mem_cons_self (a := b) (l := [])))
    simp only [List.mem_filter, decide_eq_true_eq] at ha hb
    simp; omega
  have h2 := List.sublist_mergeSort (le := fun x y => decide (key x ≤ key y)) (fun a b c h1 h2 => by simp at *; omega) (fun a b => by simp; omega) h1 (List.filter_sublist (l := l))
  have h3 := h2.filter (fun x => decide (key x = k))
  rw [List.filter_filter] at h3
  simp only [Bool.and_self] at h3
  refine h3.eq_of_length ?_
  exact (((sortK_perm l).filter _).length_eq).symm

theorem sortK_uniq {xs ys : List α} (h : SP key xs ys) (hp : ys.Pairwise (fun x y => key x ≤ key y)) : ys = sortK key xs :=
  SP.uniq hp (sortK_pw xs) (h.symm.trans (sortK_SP xs))

/-- Sorted from a to b. -/
def Srt (key : α → Int) (d : α) (ys : List α) (a b : Nat) : Prop := ∀ i j, a ≤ i → i < j → j < b → key (ys.getD i d) ≤ key (ys.getD j d)
/-- The part from a to b sorted. -/
def ssort (key : α → Int) (a b : Nat) (xs : List α) : List α := xs.take a ++ sortK key ((xs.drop a).take (b - a)) ++ xs.drop b

theorem three (xs : List α) {a b : Nat} (h : a ≤ b) : xs = xs.take a ++ (xs.drop a).take (b - a) ++ xs.drop b := by
  have h1 : xs.drop b = (xs.drop a).drop (b - a) := by rw [List.drop_drop]; congr 1; omega
  rw [h1, List.append_assoc, List.take_append_drop, List.take_append_drop]
theorem ssort_length {a b : Nat} {xs : List α} (h : a ≤ b) : (ssort key a b xs).length = xs.length := by
  conv => rhs; rw [three xs h]
  simp only [ssort, List.length_append, sortK_length]
theorem getD_eq {l : List α} {i : Nat} (h : i < l.length) : l.getD i d = l[i] := by
  rw [List.getD_eq_getElem?_getD, List.getElem?_eq_getElem h, Option.getD_some]
theorem getD_set (xs : List α) (i p : Nat) (v : α) : (xs.set i v).getD p d = if i = p ∧ i < xs.length then v else xs.getD p d := by
  rw [List.getD_eq_getElem?_getD, List.getElem?_set, List.getD_eq_getElem?_getD]
  by_cases h : i = p
  · subst h
    by_cases h2 : i < xs.length
    · simp [h2]
    · simp [h2]
  · simp [h]
theorem ext_getD {xs ys : List α} (h : xs.length = ys.length) (hp : ∀ i, i < xs.length → xs.getD i d = ys.getD i d) : xs = ys := by
  refine List.ext_getElem h fun i h1 h2 => ?_
  rw [← getD_eq (d := d) h1, ← getD_eq (d := d) h2]; exact hp i h1
theorem getD_take {l : List α} {n i : Nat} (h : i < n) : (l.take n).getD i d = l.getD i d := by
  simp [List.getD_eq_getElem?_getD, List.getElem?_take, h]
theorem getD_drop (l : List α) (n i : Nat) : (l.drop n).getD i d = l.getD (n + i) d := by
  simp [List.getD_eq_getElem?_getD]
theorem ssort_SP {a b : Nat} {xs : List α} (h : a ≤ b) : SP key xs (ssort key a b xs) := by
  conv => lhs; rw [three xs h]
  exact ((SP.refl _).app (sortK_SP _)).app (SP.refl _)
theorem ssort_out {a b : Nat} {xs : List α} (h : a ≤ b) (hb : b ≤ xs.length) {i : Nat} (hi : i < a ∨ b ≤ i) : (ssort key a b xs).getD i d = xs.getD i d := by
  conv => rhs; rw [three xs h]
  simp only [ssort, List.getD_eq_getElem?_getD, List.getElem?_append, List.length_append, sortK_length, List.length_take, List.length_drop]
  rcases hi with hi | hi
  · rw [if_pos (by omega), if_pos (by omega), if_pos (by omega), if_pos (by omega)]
  · rw [if_neg (by omega), if_neg (by omega)]
theorem ssort_srt {a b : Nat} {xs : List α} (h : a ≤ b) (hb : b ≤ xs.length) : Srt key d (ssort key a b xs) a b := by
  intro i j hi hij hj
  have hl : (sortK key ((xs.drop a).take (b - a))).length = b - a := by rw [sortK_length, List.length_take, List.length_drop]; omega
  have e : ∀ p, a ≤ p → p < b → (ssort key a b xs).getD p d = (sortK key ((xs.drop a).take (b - a))).getD (p - a) d := fun p h1 h2 => by
    simp only [ssort, List.getD_eq_getElem?_getD, List.getElem?_append, List.length_append, List.length_take, hl]
    rw [if_pos (by omega), if_neg (by omega), show min a xs.length = a by omega]
  rw [e i hi (by omega), e j (by omega) hj, getD_eq (by omega), getD_eq (by omega)]
  exact List.pairwise_iff_getElem.1 (sortK_pw _) _ _ _ _ (by omega)
theorem pw_of_srt {ys : List α} (h : Srt key d ys 0 ys.length) : ys.Pairwise (fun x y => key x ≤ key y) := by
  rw [List.pairwise_iff_getElem]
  intro i j hi hj hij
  have := h i j (by omega) hij hj
  rwa [getD_eq hi, getD_eq hj] at this
theorem ssort_uniq {a b : Nat} {xs ys : List α} (h : a ≤ b) (hb : b ≤ xs.length) (hl : ys.length = xs.length) (ho : ∀ i, i < a ∨ b ≤ i → ys.getD i d = xs.getD i d) (hs : Srt key d ys a b) (hp : SP key xs ys) : ys = ssort key a b xs := by
  have e1 : ys.take a = xs.take a := ext_getD (d := d) (by simp [hl]) fun i hi => by
    have : i < a := by simp at hi; omega
    rw [getD_take this, getD_take this]; exact ho i (.inl this)
  have e3 : ys.drop b = xs.drop b := ext_getD (d := d) (by simp [hl]) fun i hi => by
    rw [getD_drop, getD_drop]; exact ho _ (.inr (by omega))
  have t := three ys h
  rw [e1, e3] at t
  have hp' := hp
  rw [three xs h, t] at hp'
  rw [t]
  unfold ssort
  rw [← sortK_uniq hp'.cancel ?_]
  refine pw_of_srt (d := d) fun i j hi hij hj => ?_
  have hj' : j < b - a := by simp at hj; omega
  rw [getD_take hj', getD_take (by omega), getD_drop, getD_drop]
  exact hs _ _ (by omega) (by omega) (by omega)

theorem Srt.sub {ys : List α} {a b a' b' : Nat} (h : Srt key d ys a b) (h1 : a ≤ a') (h2 : b' ≤ b) : Srt key d ys a' b' := fun i j hi hij hj => h i j (by omega) hij (by omega)
theorem Srt.congr {xs ys : List α} {a b : Nat} (h : Srt key d xs a b) (he : ∀ i, a ≤ i → i < b → ys.getD i d = xs.getD i d) : Srt key d ys a b := fun i j hi hij hj => by
  rw [he i hi (by omega), he j (by omega) hj]; exact h i j hi hij hj
theorem Srt.one (ys : List α) {a b : Nat} (h : b ≤ a + 1) : Srt key d ys a b := fun i j hi hij hj => by omega

/-- Two neighbours in the other order. -/
def swp (d : α) (xs : List α) (i j : Nat) : List α := (xs.set i (xs.getD j d)).set j (xs.getD i d)
theorem swp_length (xs : List α) (i j : Nat) : (swp d xs i j).length = xs.length := by simp [swp]
theorem swp_getD {xs : List α} {i j : Nat} (hi : i < xs.length) (hj : j < xs.length) (p : Nat) : (swp d xs i j).getD p d = if p = j then xs.getD i d else if p = i then xs.getD j d else xs.getD p d := by
  unfold swp
  rw [getD_set, getD_set]
  by_cases h1 : p = j
  · rw [if_pos ⟨h1.symm, by simpa using hj⟩, if_pos h1]
  · rw [if_neg (fun h => h1 h.1.symm), if_neg h1]
    by_cases h2 : p = i
    · rw [if_pos ⟨h2.symm, hi⟩, if_pos h2]
    · rw [if_neg (fun h => h2 h.1.symm), if_neg h2]
theorem swp_comm (xs : List α) (i j : Nat) : swp d xs i j = swp d xs j i := by
  by_cases h : i = j
  · subst h; rfl
  · unfold swp; exact List.set_comm _ _ h
theorem two (xs : List α) {i : Nat} (h : i + 1 < xs.length) : xs = xs.take i ++ [xs.getD i d, xs.getD (i + 1) d] ++ xs.drop (i + 2) := by
  have h1 := three xs (a := i) (b := i + 2) (by omega)
  have h2 : (xs.drop i).take (i + 2 - i) = [xs.getD i d, xs.getD (i + 1) d] := by
    rw [show i + 2 - i = 2 by omega, List.drop_eq_getElem_cons (by omega), List.take_succ_cons, List.drop_eq_getElem_cons (by omega), List.take_succ_cons, getD_eq (by omega), getD_eq (by omega)]
    simp
  rw [h2] at h1; exact h1
theorem swp_two (xs : List α) {i : Nat} (h : i + 1 < xs.length) : swp d xs i (i + 1) = xs.take i ++ [xs.getD (i + 1) d, xs.getD i d] ++ xs.drop (i + 2) := by
  have hti : (xs.take i).length = i := by simp; omega
  refine ext_getD (d := d) (by simp [swp]; omega) fun p hp => ?_
  rw [swp_getD (by omega) h]
  rw [swp_length] at hp
  simp only [List.getD_eq_getElem?_getD, List.getElem?_append, List.length_append, hti, List.length_cons, List.length_nil]
  by_cases h1 : p < i
  · rw [if_neg (by omega), if_neg (by omega), if_pos (by omega), if_pos h1, List.getElem?_take, if_pos h1]
  · by_cases h2 : p = i
    · subst h2; simp
    · by_cases h3 : p = i + 1
      · subst h3; simp [show ¬ i + 1 < i by omega]
      · rw [if_neg h3, if_neg h2, if_neg (by omega), List.getElem?_drop]
        congr 3; omega
theorem swp_SP {xs : List α} {i : Nat} (h : i + 1 < xs.length) (hk : key (xs.getD i d) ≠ key (xs.getD (i + 1) d)) : SP key xs (swp d xs i (i + 1)) := by
  rw [swp_two xs h]
  conv => lhs; rw [two (d := d) xs h]
  refine ((SP.refl _).app ⟨List.Perm.swap _ _ _, fun k => ?_⟩).app (SP.refl _)
  by_cases h1 : key (xs.getD i d) = k <;> by_cases h2 : key (xs.getD (i + 1) d) = k
  · omega
  · simp only [List.filter_cons, h1, h2, decide_true, decide_false, if_true, List.filter_nil]; simp
  · simp only [List.filter_cons, h1, h2, decide_true, decide_false, if_true, List.filter_nil]; simp
  · simp only [List.filter_cons, h1, h2, decide_false, List.filter_nil]; simp

/-- Two parts in the other order. -/
def rot (xs : List α) (a m b : Nat) : List α := xs.take a ++ (xs.drop m).take (b - m) ++ (xs.drop a).take (m - a) ++ xs.drop b
theorem rot_length {xs : List α} {a m b : Nat} (h1 : a ≤ m) (h2 : m ≤ b) (h3 : b ≤ xs.length) : (rot xs a m b).length = xs.length := by
  simp only [rot, List.length_append, List.length_take, List.length_drop]; omega
theorem rot_getD {xs : List α} {a m b : Nat} (h1 : a ≤ m) (h2 : m ≤ b) (h3 : b ≤ xs.length) (p : Nat) :
    (rot xs a m b).getD p d = xs.getD (if p < a ∨ b ≤ p then p else if p < a + (b - m) then p - a + m else p - (b - m)) d := by
  simp only [rot, List.getD_eq_getElem?_getD, List.getElem?_append, List.length_append, List.length_take, List.length_drop, List.getElem?_take, List.getElem?_drop]
  by_cases c1 : p < a
  · rw [if_pos (by omega), if_pos (by omega), if_pos (by omega), if_pos (by omega), if_pos (by omega)]
  · by_cases c2 : b ≤ p
    · rw [if_neg (by omega), if_pos (by omega)]
      congr 2; omega
    · by_cases c3 : p < a + (b - m)
      · rw [if_pos (by omega), if_pos (by omega), if_neg (by omega), if_pos (by omega), if_neg (by omega), if_pos (by omega)]
        congr 2; omega
      · rw [if_pos (by omega), if_neg (by omega), if_pos (by omega), if_neg (by omega), if_neg (by omega)]
        congr 2; omega
theorem four (xs : List α) {a m b : Nat} (h1 : a ≤ m) (h2 : m ≤ b) : xs = xs.take a ++ ((xs.drop a).take (m - a) ++ (xs.drop m).take (b - m)) ++ xs.drop b := by
  have e1 := three xs (a := a) (b := m) h1
  have e2 := three (xs.drop m) (a := 0) (b := b - m) (by omega)
  simp only [List.take_zero, List.nil_append, List.drop_zero, Nat.sub_zero, Nat.add_zero, List.drop_drop] at e2
  rw [show m + (b - m) = b by omega] at e2
  conv => lhs; rw [e1, e2]
  simp only [List.append_assoc]
theorem mem_part {xs : List α} {a m : Nat} {x : α} (hm : m ≤ xs.length) (h : x ∈ (xs.drop a).take (m - a)) : ∃ i, a ≤ i ∧ i < m ∧ x = xs.getD i d := by
  obtain ⟨i, hi, rfl⟩ := List.getElem_of_mem h
  have : i < m - a := by simp at hi; omega
  refine ⟨a + i, by omega, by omega, ?_⟩
  rw [getD_eq (by omega)]
  simp
theorem rot_SP {xs : List α} {a m b : Nat} (h1 : a ≤ m) (h2 : m ≤ b) (h3 : b ≤ xs.length) (hk : ∀ i j, a ≤ i → i < m → m ≤ j → j < b → key (xs.getD j d) < key (xs.getD i d)) : SP key xs (rot xs a m b) := by
  conv => lhs; rw [four xs h1 h2]
  rw [show rot xs a m b = xs.take a ++ ((xs.drop m).take (b - m) ++ (xs.drop a).take (m - a)) ++ xs.drop b by simp only [rot, List.append_assoc]]
  refine ((SP.refl _).app ⟨List.perm_append_comm, fun k => ?_⟩).app (SP.refl _)
  simp only [List.filter_append]
  by_cases hA : (((xs.drop a).take (m - a)).filter fun x => decide (key x = k)) = []
  · rw [hA]; simp
  · have hB : (((xs.drop m).take (b - m)).filter fun x => decide (key x = k)) = [] := by
      obtain ⟨x, hx⟩ := List.exists_mem_of_ne_nil _ hA
      rw [List.filter_eq_nil_iff]
      intro y hy he
      simp only [List.mem_filter, decide_eq_true_eq] at hx he
      obtain ⟨i, i1, i2, rfl⟩ := mem_part (d := d) (by omega) hx.1
      obtain ⟨j, j1, j2, rfl⟩ := mem_part (d := d) h3 hy
      have := hk i j i1 i2 j1 j2
      omega
    rw [hB]; simp

/-- n elements from a on exchanged for those from b on. -/
def swr (xs : List α) (d : α) (a b n : Nat) : List α := (List.range xs.length).map fun p => xs.getD (if a ≤ p ∧ p < a + n then p - a + b else if b ≤ p ∧ p < b + n then p - b + a else p) d
theorem swr_length (xs : List α) (a b n : Nat) : (swr xs d a b n).length = xs.length := by simp [swr]
theorem swr_getD {xs : List α} {a b n p : Nat} (h : p < xs.length) : (swr xs d a b n).getD p d = xs.getD (if a ≤ p ∧ p < a + n then p - a + b else if b ≤ p ∧ p < b + n then p - b + a else p) d := by
  simp [swr, List.getD_eq_getElem?_getD, h]
theorem swr_zero (xs : List α) (a b : Nat) : swr xs d a b 0 = xs := ext_getD (d := d) (swr_length ..) fun p hp => by
  rw [swr_length] at hp
  rw [swr_getD hp, if_neg (by omega), if_neg (by omega)]
theorem swr_succ {xs : List α} {a b n : Nat} (h1 : a + (n + 1) ≤ b) (h2 : b + (n + 1) ≤ xs.length) : swp d (swr xs d a b n) (a + n) (b + n) = swr xs d a b (n + 1) := ext_getD (d := d) (by rw [swp_length, swr_length, swr_length]) fun p hp => by
  rw [swp_length, swr_length] at hp
  rw [swp_getD (by rw [swr_length]; omega) (by rw [swr_length]; omega), swr_getD hp, swr_getD hp, swr_getD (by omega), swr_getD (by omega)]
  by_cases c1 : p = b + n
  · rw [if_pos c1, if_neg (by omega), if_neg (by omega), if_neg (by omega), if_pos (by omega)]; congr 1; omega
  · rw [if_neg c1]
    by_cases c2 : p = a + n
    · rw [if_pos c2, if_neg (by omega), if_neg (by omega), if_pos (by omega)]; congr 1; omega
    · rw [if_neg c2]
      by_cases c3 : a ≤ p ∧ p < a + n
      · rw [if_pos c3, if_pos (by omega)]
      · rw [if_neg c3]
        by_cases c4 : b ≤ p ∧ p < b + n
        · rw [if_pos c4, if_neg (by omega), if_pos (by omega)]
        · rw [if_neg c4, if_neg (by omega), if_neg (by omega)]
/-- One round of the rotation, the left part being the longer one. -/
theorem rot_left {xs : List α} {m i j : Nat} (h1 : j < i) (h2 : i ≤ m) (h3 : m + j ≤ xs.length) : rot (swr xs d (m - i) m j) (m - (i - j)) m (m + j) = rot xs (m - i) m (m + j) := by
  have hl := swr_length (d := d) xs (m - i) m j
  refine ext_getD (d := d) (by rw [rot_length (by omega) (by omega) (by omega), rot_length (by omega) (by omega) (by omega), hl]) fun p hp => ?_
  rw [rot_length (by omega) (by omega) (by omega), hl] at hp
  rw [rot_getD (by omega) (by omega) (by omega), rot_getD (by omega) (by omega) (by omega), swr_getD (by split <;> (try split) <;> omega)]
  congr 1
  repeat' split
  all_goals omega
theorem rot_right {xs : List α} {m i j : Nat} (h1 : i < j) (h2 : i ≤ m) (h3 : m + j ≤ xs.length) : rot (swr xs d (m - i) (m + j - i) i) (m - i) m (m + (j - i)) = rot xs (m - i) m (m + j) := by
  have hl := swr_length (d := d) xs (m - i) (m + j - i) i
  refine ext_getD (d := d) (by rw [rot_length (by omega) (by omega) (by omega), rot_length (by omega) (by omega) (by omega), hl]) fun p hp => ?_
  rw [rot_length (by omega) (by omega) (by omega), hl] at hp
  rw [rot_getD (by omega) (by omega) (by omega), rot_getD (by omega) (by omega) (by omega), swr_getD (by split <;> (try split) <;> omega)]
  congr 1
  repeat' split
  all_goals omega
theorem rot_both {xs : List α} {m i : Nat} (h2 : i ≤ m) (h3 : m + i ≤ xs.length) : swr xs d (m - i) m i = rot xs (m - i) m (m + i) := by
  refine ext_getD (d := d) (by rw [rot_length (by omega) (by omega) (by omega), swr_length]) fun p hp => ?_
  rw [swr_length] at hp
  rw [rot_getD (by omega) (by omega) (by omega), swr_getD hp]
  congr 1
  repeat' split
  all_goals omega
end
end Go.Eng

/- Plain laws: the merge of two sorted parts. -/
namespace Go.Eng
section
variable {α : Type} {key : α → Int} {d : α}

theorem ssort_mem {a b : Nat} {xs : List α} (h : a ≤ b) (hb : b ≤ xs.length) {i : Nat} (h1 : a ≤ i) (h2 : i < b) : ∃ j, a ≤ j ∧ j < b ∧ (ssort key a b xs).getD i d = xs.getD j d := by
  have hl : (sortK key ((xs.drop a).take (b - a))).length = b - a := by rw [sortK_length, List.length_take, List.length_drop]; omega
  have e : (ssort key a b xs).getD i d = (sortK key ((xs.drop a).take (b - a))).getD (i - a) d := by
    simp only [ssort, List.getD_eq_getElem?_getD, List.getElem?_append, List.length_append, List.length_take, hl]
    rw [if_pos (by omega), if_neg (by omega), show min a xs.length = a by omega]
  rw [e, getD_eq (by omega)]
  exact mem_part hb ((sortK_perm _).mem_iff.1 (List.getElem_mem _))

theorem ssort_id {a b : Nat} {xs : List α} (h : a ≤ b) (hb : b ≤ xs.length) (hs : Srt key d xs a b) : ssort key a b xs = xs :=
  (ssort_uniq h hb rfl (fun _ _ => rfl) hs (SP.refl _)).symm

theorem rot_id {xs : List α} {a m b : Nat} (h1 : a ≤ m) (h2 : m ≤ b) (h : a = m ∨ m = b) : rot xs a m b = xs := by
  unfold rot
  rcases h with rfl | rfl
  · simp only [Nat.sub_self, List.take_zero, List.append_nil]
    exact (three xs h2).symm
  · simp only [Nat.sub_self, List.take_zero, List.append_nil]
    exact (three xs h1).symm

/-- The two halves of a merge. -/
structure Halves (key : α → Int) (d : α) (xs : List α) (a m b mid s e : Nat) : Prop where
  as : a ≤ s
  sm : s ≤ m
  me : m ≤ e
  eb : e ≤ b
  mid : s + (e - m) = mid
  bl : b ≤ xs.length
  am : Srt key d xs a m
  mb : Srt key d xs m b
  low : ∀ i, a ≤ i → i < s → ∀ j, e ≤ j → j < b → key (xs.getD i d) ≤ key (xs.getD j d)
  high : ∀ i, s ≤ i → i < m → ∀ j, m ≤ j → j < e → key (xs.getD j d) < key (xs.getD i d)

theorem Halves.left1 {xs : List α} {a m b mid s e : Nat} (h : Halves key d xs a m b mid s e) : Srt key d (rot xs s m e) a s := by
  obtain ⟨h1, h2, h3, h4, h5, h6, h7, h8, h9, h10⟩ := h
  refine (h7.sub (Nat.le_refl _) h2).congr fun i hi hj => ?_
  rw [rot_getD h2 h3 (by omega), if_pos (by omega)]
theorem Halves.left2 {xs : List α} {a m b mid s e : Nat} (h : Halves key d xs a m b mid s e) : Srt key d (rot xs s m e) s mid := by
  obtain ⟨h1, h2, h3, h4, h5, h6, h7, h8, h9, h10⟩ := h
  intro i j hi hij hj
  rw [rot_getD h2 h3 (by omega), rot_getD h2 h3 (by omega), if_neg (by omega), if_pos (by omega), if_neg (by omega), if_pos (by omega)]
  exact h8 _ _ (by omega) (by omega) (by omega)
theorem Halves.right1 {xs : List α} {a m b mid s e : Nat} (h : Halves key d xs a m b mid s e) : Srt key d (rot xs s m e) mid e := by
  obtain ⟨h1, h2, h3, h4, h5, h6, h7, h8, h9, h10⟩ := h
  intro i j hi hij hj
  rw [rot_getD h2 h3 (by omega), rot_getD h2 h3 (by omega), if_neg (by omega), if_neg (by omega), if_neg (by omega), if_neg (by omega)]
  exact h7 _ _ (by omega) (by omega) (by omega)
theorem Halves.right2 {xs : List α} {a m b mid s e : Nat} (h : Halves key d xs a m b mid s e) : Srt key d (rot xs s m e) e b := by
  obtain ⟨h1, h2, h3, h4, h5, h6, h7, h8, h9, h10⟩ := h
  refine (h8.sub h3 (Nat.le_refl _)).congr fun i hi hj => ?_
  rw [rot_getD h2 h3 (by omega), if_pos (by omega)]
theorem Halves.cross {xs : List α} {a m b mid s e : Nat} (h : Halves key d xs a m b mid s e) {i j : Nat} (hi : a ≤ i) (hi2 : i < mid) (hj : mid ≤ j) (hj2 : j < b) : key ((rot xs s m e).getD i d) ≤ key ((rot xs s m e).getD j d) := by
  obtain ⟨h1, h2, h3, h4, h5, h6, h7, h8, h9, h10⟩ := h
  rw [rot_getD h2 h3 (by omega), rot_getD h2 h3 (by omega)]
  by_cases c1 : i < s
  · rw [if_pos (.inl c1)]
    by_cases c2 : e ≤ j
    · rw [if_pos (.inr c2)]; exact h9 i hi c1 j c2 hj2
    · rw [if_neg (by omega), if_neg (by omega)]; exact h7 _ _ hi (by omega) (by omega)
  · rw [if_neg (by omega), if_pos (by omega)]
    by_cases c2 : e ≤ j
    · rw [if_pos (.inr c2)]; exact h8 _ _ (by omega) (by omega) hj2
    · rw [if_neg (by omega), if_neg (by omega)]; exact Int.le_of_lt (h10 _ (by omega) (by omega) _ (by omega) (by omega))
theorem Halves.done {xs : List α} {a m b mid s e : Nat} (h : Halves key d xs a m b mid s e) : ssort key mid b (ssort key a mid (rot xs s m e)) = ssort key a b xs := by
  have hc := fun i j => h.cross (i := i) (j := j)
  obtain ⟨h1, h2, h3, h4, h5, h6, h7, h8, h9, h10⟩ := h
  have l0 : (rot xs s m e).length = xs.length := rot_length h2 h3 (by omega)
  have l1 : (ssort key a mid (rot xs s m e)).length = xs.length := (ssort_length (by omega)).trans l0
  have hsp : SP key xs (rot xs s m e) := rot_SP h2 h3 (by omega) fun i j a1 a2 a3 a4 => h10 i a1 a2 j a3 a4
  refine ssort_uniq (d := d) (by omega) h6 ((ssort_length (by omega)).trans l1) (fun i hi => ?_) (fun i j hi hij hj => ?_) ((hsp.trans (ssort_SP (by omega))).trans (ssort_SP (by omega)))
  · rw [ssort_out (by omega) (by omega) (by omega), ssort_out (by omega) (by omega) (by omega), rot_getD h2 h3 (by omega), if_pos (by omega)]
  · by_cases c1 : j < mid
    · rw [ssort_out (by omega) (by omega) (.inl c1), ssort_out (by omega) (by omega) (.inl (by omega))]
      exact ssort_srt (by omega) (by omega) i j hi hij c1
    · by_cases c2 : i < mid
      · rw [ssort_out (by omega) (by omega) (.inl c2)]
        obtain ⟨i', i1, i2, e1⟩ := ssort_mem (key := key) (d := d) (xs := rot xs s m e) (a := a) (b := mid) (by omega) (by omega) hi c2
        obtain ⟨j', j1, j2, e2⟩ := ssort_mem (key := key) (d := d) (xs := ssort key a mid (rot xs s m e)) (a := mid) (b := b) (by omega) (by omega) (by omega) hj
        rw [e1, e2, ssort_out (by omega) (by omega) (.inr j1)]
        exact hc i' j' i1 i2 j1 j2
      · exact ssort_srt (by omega) (by omega) i j (by omega) hij hj

/-- One element moved up. -/
theorem ins_up {xs ys : List α} {a b i k : Nat} (ha : a + 1 ≤ b) (hb : b ≤ xs.length) (hs : Srt key d xs (a + 1) b) (h1 : a + 1 ≤ i) (h2 : i ≤ b)
    (hl : ∀ j, a + 1 ≤ j → j < i → key (xs.getD j d) < key (xs.getD a d)) (hh : ∀ j, i ≤ j → j < b → key (xs.getD a d) ≤ key (xs.getD j d))
    (hk : k + 1 = i) (hsp : SP key xs ys) (hlen : ys.length = xs.length) (hy : ∀ p, ys.getD p d = if a ≤ p ∧ p < k then xs.getD (p + 1) d else if p = k then xs.getD a d else xs.getD p d) : ys = ssort key a b xs := by
  refine ssort_uniq (d := d) (by omega) hb hlen (fun p hp => ?_) (fun p q hp hpq hq => ?_) hsp
  · rw [hy]
    by_cases c : p = k
    · omega
    · rw [if_neg (by omega), if_neg c]
  · rw [hy, hy]
    by_cases c1 : q < k
    · rw [if_pos (by omega), if_pos (by omega)]; exact hs _ _ (by omega) (by omega) (by omega)
    · by_cases c2 : q = k
      · rw [if_pos (by omega), if_neg (by omega), if_pos c2]; exact Int.le_of_lt (hl _ (by omega) (by omega))
      · rw [if_neg (show ¬(a ≤ q ∧ q < k) by omega), if_neg c2]
        by_cases c3 : p < k
        · rw [if_pos (by omega)]; exact hs _ _ (by omega) (by omega) (by omega)
        · rw [if_neg (by omega)]
          by_cases c4 : p = k
          · rw [if_pos c4]; exact hh _ (by omega) (by omega)
          · rw [if_neg c4]; exact hs _ _ (by omega) (by omega) (by omega)
/-- One element moved down. -/
theorem ins_down {xs ys : List α} {a m k : Nat} (ha : a ≤ m) (hb : m + 1 ≤ xs.length) (hs : Srt key d xs a m) (h1 : a ≤ k) (h2 : k ≤ m)
    (hl : ∀ j, a ≤ j → j < k → key (xs.getD j d) ≤ key (xs.getD m d)) (hh : ∀ j, k ≤ j → j < m → key (xs.getD m d) < key (xs.getD j d))
    (hsp : SP key xs ys) (hlen : ys.length = xs.length) (hy : ∀ p, ys.getD p d = if k < p ∧ p ≤ m then xs.getD (p - 1) d else if p = k then xs.getD m d else xs.getD p d) : ys = ssort key a (m + 1) xs := by
  refine ssort_uniq (d := d) (by omega) hb hlen (fun p hp => ?_) (fun p q hp hpq hq => ?_) hsp
  · rw [hy]
    by_cases c : p = k
    · omega
    · rw [if_neg (by omega), if_neg c]
  · rw [hy, hy]
    by_cases c1 : q < k
    · rw [if_neg (by omega), if_neg (by omega), if_neg (by omega), if_neg (by omega)]; exact hs _ _ (by omega) (by omega) (by omega)
    · by_cases c2 : q = k
      · rw [if_neg (by omega), if_neg (by omega), if_neg (by omega), if_pos c2]; exact hl _ (by omega) (by omega)
      · rw [if_pos (show k < q ∧ q ≤ m by omega)]
        by_cases c3 : p < k
        · rw [if_neg (by omega), if_neg (by omega)]; exact hs _ _ (by omega) (by omega) (by omega)
        · by_cases c4 : p = k
          · rw [if_neg (by omega), if_pos c4]; exact Int.le_of_lt (hh _ (by omega) (by omega))
          · rw [if_pos (by omega)]; exact hs _ _ (by omega) (by omega) (by omega)
end
end Go.Eng

/- Plain laws: insertion sort, the searches of a merge, blocks that are sorted. -/
namespace Go.Eng
section
variable {α : Type} {key : α → Int} {d : α}

/-! ### Insertion sort -/
structure InsO (key : α → Int) (d : α) (xs ys : List α) (a b i : Nat) : Prop where
  len : ys.length = xs.length
  sp : SP key xs ys
  out : ∀ p, p < a ∨ b ≤ p → ys.getD p d = xs.getD p d
  srt : Srt key d ys a i
structure InsI (key : α → Int) (d : α) (xs ys : List α) (a b i j : Nat) : Prop where
  len : ys.length = xs.length
  sp : SP key xs ys
  out : ∀ p, p < a ∨ b ≤ p → ys.getD p d = xs.getD p d
  srt : ∀ p q, a ≤ p → p < q → q ≤ i → p ≠ j → q ≠ j → key (ys.getD p d) ≤ key (ys.getD q d)
  up : ∀ q, j < q → q ≤ i → key (ys.getD j d) < key (ys.getD q d)
  aj : a ≤ j
  ji : j ≤ i
  ib : i < b
theorem InsO.first (xs : List α) (a b : Nat) : InsO key d xs xs a b (a + 1) := ⟨rfl, SP.refl _, fun _ _ => rfl, Srt.one _ (Nat.le_refl _)⟩
theorem InsO.start {xs ys : List α} {a b i : Nat} (h : InsO key d xs ys a b i) (h1 : a ≤ i) (h2 : i < b) : InsI key d xs ys a b i i :=
  ⟨h.len, h.sp, h.out, fun p q hp hpq hq _ hqi => h.srt p q hp hpq (by omega), fun q hq hq2 => by omega, h1, Nat.le_refl _, h2⟩
theorem InsI.step {xs ys : List α} {a b i j : Nat} (h : InsI key d xs ys a b i (j + 1)) (hb : b ≤ xs.length) (hj : a ≤ j) (hlt : key (ys.getD (j + 1) d) < key (ys.getD j d)) : InsI key d xs (swp d ys (j + 1) j) a b i j := by
  have h1 := h.ji
  have h2 := h.ib
  have h3 := h.len
  have hg : ∀ p, (swp d ys (j + 1) j).getD p d = if p = j then ys.getD (j + 1) d else if p = j + 1 then ys.getD j d else ys.getD p d := swp_getD (by omega) (by omega)
  refine ⟨by rw [swp_length]; exact h3, h.sp.trans ?_, fun p hp => ?_, fun p q hp hpq hq hpj hqj => ?_, fun q hq hqi => ?_, hj, by omega, h2⟩
  · rw [swp_comm]; exact swp_SP (by omega) (by omega)
  · rw [hg, if_neg (by omega), if_neg (by omega)]; exact h.out p hp
  · rw [hg, hg, if_neg hpj, if_neg hqj]
    by_cases e1 : p = j + 1
    · rw [if_pos e1, if_neg (by omega)]
      exact h.srt j q hj (by omega) hq (by omega) (by omega)
    · rw [if_neg e1]
      by_cases e2 : q = j + 1
      · rw [if_pos e2]; exact h.srt p j hp (by omega) (by omega) (by omega) (by omega)
      · rw [if_neg e2]; exact h.srt p q hp hpq hq e1 e2
  · rw [hg, hg, if_pos rfl, if_neg (by omega)]
    by_cases e : q = j + 1
    · rw [if_pos e]; exact hlt
    · rw [if_neg e]; exact h.up q (by omega) hqi
theorem InsI.stop {xs ys : List α} {a b i j : Nat} (h : InsI key d xs ys a b i j) (hs : j = a ∨ key (ys.getD (j - 1) d) ≤ key (ys.getD j d)) : InsO key d xs ys a b (i + 1) := by
  refine ⟨h.len, h.sp, h.out, fun p q hp hpq hq => ?_⟩
  have h1 := h.aj
  by_cases e1 : p = j
  · subst e1; exact Int.le_of_lt (h.up q hpq (by omega))
  · by_cases e2 : q = j
    · subst e2
      rcases hs with hs | hs
      · omega
      · by_cases e3 : p = q - 1
        · rw [e3]; exact hs
        · exact Int.le_trans (h.srt p (q - 1) hp (by omega) (by have := h.ji; omega) e1 (by omega)) hs
    · exact h.srt p q hp hpq (by omega) e1 e2
theorem InsO.done {xs ys : List α} {a b i : Nat} (h : InsO key d xs ys a b i) (hab : a ≤ b) (hb : b ≤ xs.length) (hi : b ≤ i) : ys = ssort key a b xs :=
  ssort_uniq hab hb h.len h.out (h.srt.sub (Nat.le_refl _) hi) h.sp

/-! ### The searches -/
/-- The place of element a among the elements from m on: those below i are smaller, those from j on are not. -/
structure BinA (key : α → Int) (d : α) (xs : List α) (a m b i j : Nat) : Prop where
  mi : m ≤ i
  ij : i ≤ j
  jb : j ≤ b
  low : ∀ p, m ≤ p → p < i → key (xs.getD p d) < key (xs.getD a d)
  high : ∀ p, j ≤ p → p < b → key (xs.getD a d) ≤ key (xs.getD p d)
theorem BinA.start {xs : List α} {a m b : Nat} (h : m ≤ b) : BinA key d xs a m b m b := ⟨Nat.le_refl _, h, Nat.le_refl _, fun p h1 h2 => by omega, fun p h1 h2 => by omega⟩
theorem BinA.up {xs : List α} {a m b i j h : Nat} (hb : BinA key d xs a m b i j) (hs : Srt key d xs m b) (h1 : i ≤ h) (h2 : h < j) (hk : key (xs.getD h d) < key (xs.getD a d)) : BinA key d xs a m b (h + 1) j := by
  obtain ⟨b1, b2, b3, b4, b5⟩ := hb
  refine ⟨by omega, by omega, b3, fun p hp hp2 => ?_, b5⟩
  by_cases e : p = h
  · rw [e]; exact hk
  · exact Int.lt_of_le_of_lt (hs p h hp (by omega) (by omega)) hk
theorem BinA.down {xs : List α} {a m b i j h : Nat} (hb : BinA key d xs a m b i j) (hs : Srt key d xs m b) (h1 : i ≤ h) (h2 : h < j) (hk : key (xs.getD a d) ≤ key (xs.getD h d)) : BinA key d xs a m b i h := by
  obtain ⟨b1, b2, b3, b4, b5⟩ := hb
  refine ⟨b1, h1, by omega, b4, fun p hp hp2 => ?_⟩
  by_cases e : p = h
  · rw [e]; exact hk
  · exact Int.le_trans hk (hs h p (by omega) (by omega) hp2)
/-- The place of element m among the elements from a on: those below i are not greater, those from j on are. -/
structure BinB (key : α → Int) (d : α) (xs : List α) (a m i j : Nat) : Prop where
  ai : a ≤ i
  ij : i ≤ j
  jm : j ≤ m
  low : ∀ p, a ≤ p → p < i → key (xs.getD p d) ≤ key (xs.getD m d)
  high : ∀ p, j ≤ p → p < m → key (xs.getD m d) < key (xs.getD p d)
theorem BinB.start {xs : List α} {a m : Nat} (h : a ≤ m) : BinB key d xs a m a m := ⟨Nat.le_refl _, h, Nat.le_refl _, fun p h1 h2 => by omega, fun p h1 h2 => by omega⟩
theorem BinB.up {xs : List α} {a m i j h : Nat} (hb : BinB key d xs a m i j) (hs : Srt key d xs a m) (h1 : i ≤ h) (h2 : h < j) (hk : key (xs.getD h d) ≤ key (xs.getD m d)) : BinB key d xs a m (h + 1) j := by
  obtain ⟨b1, b2, b3, b4, b5⟩ := hb
  refine ⟨by omega, by omega, b3, fun p hp hp2 => ?_, b5⟩
  by_cases e : p = h
  · rw [e]; exact hk
  · exact Int.le_trans (hs p h hp (by omega) (by omega)) hk
theorem BinB.down {xs : List α} {a m i j h : Nat} (hb : BinB key d xs a m i j) (hs : Srt key d xs a m) (h1 : i ≤ h) (h2 : h < j) (hk : key (xs.getD m d) < key (xs.getD h d)) : BinB key d xs a m i h := by
  obtain ⟨b1, b2, b3, b4, b5⟩ := hb
  refine ⟨b1, h1, by omega, b4, fun p hp hp2 => ?_⟩
  by_cases e : p = h
  · rw [e]; exact hk
  · exact Int.lt_of_lt_of_le hk (hs h p (by omega) (by omega) hp2)

/-- Element a on its way up, at k. -/
structure Up (key : α → Int) (d : α) (xs ys : List α) (a k : Nat) : Prop where
  len : ys.length = xs.length
  sp : SP key xs ys
  at' : ∀ p, ys.getD p d = if a ≤ p ∧ p < k then xs.getD (p + 1) d else if p = k then xs.getD a d else xs.getD p d
theorem Up.start (xs : List α) (a : Nat) : Up key d xs xs a a := ⟨rfl, SP.refl _, fun p => by
  rw [if_neg (by omega)]; split
  · rename_i h; rw [h]
  · rfl⟩
theorem Up.step {xs ys : List α} {a k : Nat} (h : Up key d xs ys a k) (ha : a ≤ k) (hk : k + 1 < xs.length) (hlt : key (xs.getD (k + 1) d) < key (xs.getD a d)) : Up key d xs (swp d ys k (k + 1)) a (k + 1) := by
  obtain ⟨h1, h2, h3⟩ := h
  have e1 : ys.getD k d = xs.getD a d := by rw [h3, if_neg (by omega), if_pos rfl]
  have e2 : ys.getD (k + 1) d = xs.getD (k + 1) d := by rw [h3, if_neg (by omega), if_neg (by omega)]
  refine ⟨by rw [swp_length]; exact h1, h2.trans (swp_SP (by omega) (by rw [e1, e2]; omega)), fun p => ?_⟩
  rw [swp_getD (by omega) (by omega), e1, e2]
  by_cases c1 : p = k + 1
  · rw [if_pos c1, if_neg (by omega), if_pos c1]
  · rw [if_neg c1]
    by_cases c2 : p = k
    · rw [if_pos c2, if_pos (by omega), c2]
    · rw [if_neg c2, h3]
      by_cases c3 : a ≤ p ∧ p < k
      · rw [if_pos c3, if_pos (by omega)]
      · rw [if_neg c3, if_neg c2, if_neg (by omega), if_neg c1]
/-- Element m on its way down, at k. -/
structure Dn (key : α → Int) (d : α) (xs ys : List α) (m k : Nat) : Prop where
  len : ys.length = xs.length
  sp : SP key xs ys
  at' : ∀ p, ys.getD p d = if k < p ∧ p ≤ m then xs.getD (p - 1) d else if p = k then xs.getD m d else xs.getD p d
theorem Dn.start (xs : List α) (m : Nat) : Dn key d xs xs m m := ⟨rfl, SP.refl _, fun p => by
  rw [if_neg (by omega)]; split
  · rename_i h; rw [h]
  · rfl⟩
theorem Dn.step {xs ys : List α} {m k : Nat} (h : Dn key d xs ys m (k + 1)) (hm : k + 1 ≤ m) (hk : m < xs.length) (hlt : key (xs.getD m d) < key (xs.getD k d)) : Dn key d xs (swp d ys (k + 1) k) m k := by
  obtain ⟨h1, h2, h3⟩ := h
  have e1 : ys.getD (k + 1) d = xs.getD m d := by rw [h3, if_neg (by omega), if_pos rfl]
  have e2 : ys.getD k d = xs.getD k d := by rw [h3, if_neg (by omega), if_neg (by omega)]
  refine ⟨by rw [swp_length]; exact h1, h2.trans ?_, fun p => ?_⟩
  · rw [swp_comm]; exact swp_SP (by omega) (by rw [e1, e2]; omega)
  · rw [swp_getD (by omega) (by omega), e1, e2]
    by_cases c1 : p = k
    · rw [if_pos c1, if_neg (by omega), if_pos c1]
    · rw [if_neg c1]
      by_cases c2 : p = k + 1
      · rw [if_pos c2, if_pos (by omega), c2, Nat.add_sub_cancel]
      · rw [if_neg c2, h3]
        by_cases c3 : k + 1 < p ∧ p ≤ m
        · rw [if_pos c3, if_pos (by omega)]
        · rw [if_neg c3, if_neg c2, if_neg (by omega), if_neg c1]
theorem BinA.done {xs ys : List α} {a b i k : Nat} (hb : BinA key d xs a (a + 1) b i i) (hs : Srt key d xs (a + 1) b) (hbl : b ≤ xs.length) (hu : Up key d xs ys a k) (hk : k + 1 = i) : ys = ssort key a b xs :=
  ins_up (by have := hb.mi; have := hb.jb; omega) hbl hs hb.mi hb.jb hb.low hb.high hk hu.sp hu.len hu.at'
theorem BinB.done {xs ys : List α} {a m i : Nat} (hb : BinB key d xs a m i i) (hs : Srt key d xs a m) (hml : m + 1 ≤ xs.length) (hu : Dn key d xs ys m i) : ys = ssort key a (m + 1) xs :=
  ins_down (by have := hb.ai; have := hb.jm; omega) hml hs hb.ai hb.jm hb.low hb.high hu.sp hu.len hu.at'

/-- The search of a merge: from s0 to r0, p - c lies across. -/
structure BinM (key : α → Int) (d : α) (xs : List α) (a m b mid s0 r0 s r : Nat) : Prop where
  as : s0 ≤ s
  sr : s ≤ r
  rr : r ≤ r0
  low : ∀ c, s0 ≤ c → c < s → key (xs.getD c d) ≤ key (xs.getD (mid + m - 1 - c) d)
  high : ∀ c, r ≤ c → c < r0 → key (xs.getD (mid + m - 1 - c) d) < key (xs.getD c d)
structure Mids (a m b mid s0 r0 : Nat) : Prop where
  am : a + 1 ≤ m
  mb : m + 1 ≤ b
  half : mid = (a + b) / 2
  cs : (mid < m ∧ s0 = mid + m - b ∧ r0 = mid) ∨ (m ≤ mid ∧ s0 = a ∧ r0 = m)
theorem Mids.le {a m b mid s0 r0 : Nat} (h : Mids a m b mid s0 r0) : a ≤ s0 ∧ s0 ≤ r0 ∧ r0 ≤ m ∧ r0 ≤ mid ∧ mid + m ≤ b + s0 := by
  obtain ⟨h1, h2, h3, h4⟩ := h; omega
theorem BinM.start {xs : List α} {a m b mid s0 r0 : Nat} (h : Mids a m b mid s0 r0) : BinM key d xs a m b mid s0 r0 s0 r0 := ⟨Nat.le_refl _, h.le.2.1, Nat.le_refl _, fun c h1 h2 => by omega, fun c h1 h2 => by omega⟩
theorem BinM.up {xs : List α} {a m b mid s0 r0 s r c : Nat} (hM : Mids a m b mid s0 r0) (h : BinM key d xs a m b mid s0 r0 s r) (h1 : Srt key d xs a m) (h2 : Srt key d xs m b) (hc : s ≤ c) (hc2 : c < r) (hk : key (xs.getD c d) ≤ key (xs.getD (mid + m - 1 - c) d)) : BinM key d xs a m b mid s0 r0 (c + 1) r := by
  obtain ⟨k1, k2, k3, k4, k5⟩ := h
  obtain ⟨l1, l2, l3, l4, l5⟩ := hM.le
  refine ⟨by omega, by omega, k3, fun q hq hq2 => ?_, k5⟩
  by_cases e : q = c
  · rw [e]; exact hk
  · exact Int.le_trans (h1 q c (by omega) (by omega) (by omega)) (Int.le_trans hk (h2 _ _ (by omega) (by omega) (by omega)))
theorem BinM.down {xs : List α} {a m b mid s0 r0 s r c : Nat} (hM : Mids a m b mid s0 r0) (h : BinM key d xs a m b mid s0 r0 s r) (h1 : Srt key d xs a m) (h2 : Srt key d xs m b) (hc : s ≤ c) (hc2 : c < r) (hk : key (xs.getD (mid + m - 1 - c) d) < key (xs.getD c d)) : BinM key d xs a m b mid s0 r0 s c := by
  obtain ⟨k1, k2, k3, k4, k5⟩ := h
  obtain ⟨l1, l2, l3, l4, l5⟩ := hM.le
  refine ⟨k1, hc, by omega, k4, fun q hq hq2 => ?_⟩
  by_cases e : q = c
  · rw [e]; exact hk
  · have e1 : key (xs.getD (mid + m - 1 - q) d) ≤ key (xs.getD (mid + m - 1 - c) d) := h2 _ _ (by omega) (by omega) (by omega)
    have e2 := h1 c q (by omega) (by omega) (by omega)
    omega
theorem BinM.halves {xs : List α} {a m b mid s0 r0 s : Nat} (hM : Mids a m b mid s0 r0) (h : BinM key d xs a m b mid s0 r0 s s) (h1 : Srt key d xs a m) (h2 : Srt key d xs m b) (hbl : b ≤ xs.length) : Halves key d xs a m b mid s (mid + m - s) := by
  obtain ⟨k1, k2, k3, k4, k5⟩ := h
  obtain ⟨l1, l2, l3, l4, l5⟩ := hM.le
  have hc := hM.cs
  refine ⟨by omega, by omega, by omega, by omega, by omega, hbl, h1, h2, fun i hi hi2 j hj hj2 => ?_, fun i hi hi2 j hj hj2 => ?_⟩
  · have hk := k4 (s - 1) (by omega) (by omega)
    have e1 : key (xs.getD i d) ≤ key (xs.getD (s - 1) d) := by
      by_cases e : i = s - 1
      · rw [e]; exact Int.le_refl _
      · exact h1 i (s - 1) hi (by omega) (by omega)
    have e2 : key (xs.getD (mid + m - 1 - (s - 1)) d) ≤ key (xs.getD j d) := by
      by_cases e : j = mid + m - 1 - (s - 1)
      · rw [e]; exact Int.le_refl _
      · exact h2 _ j (by omega) (by omega) hj2
    omega
  · have hk := k5 s (Nat.le_refl _) (by omega)
    have e1 : key (xs.getD s d) ≤ key (xs.getD i d) := by
      by_cases e : i = s
      · rw [e]; exact Int.le_refl _
      · exact h1 s i (by omega) (by omega) hi2
    have e2 : key (xs.getD j d) ≤ key (xs.getD (mid + m - 1 - s) d) := by
      by_cases e : j = mid + m - 1 - s
      · rw [e]; exact Int.le_refl _
      · exact h2 j _ (by omega) (by omega) (by omega)
    omega

/-! ### Blocks -/
/-- Some blocks are sorted: those of size c below t, and those of size s from there on. -/
structure Blks (key : α → Int) (d : α) (xs ys : List α) (n c t : Nat) : Prop where
  len : ys.length = xs.length
  sp : SP key xs ys
  pre : ∀ s, s < t → Srt key d ys (s * c) (s * c + c)
def AllB (key : α → Int) (d : α) (ys : List α) (n c lo : Nat) : Prop := ∀ s, lo ≤ s * c → Srt key d ys (s * c) (min (s * c + c) n)
theorem Blks.zero (xs : List α) (n c : Nat) {ys : List α} (h : ys.length = xs.length) (hs : SP key xs ys) : Blks key d xs ys n c 0 := ⟨h, hs, fun s hs => by omega⟩
theorem blk_le {s t c : Nat} (h : s < t) : s * c + c ≤ t * c := by rw [← Nat.succ_mul]; exact Nat.mul_le_mul_right c h
theorem Blks.step {xs ys : List α} {n c t : Nat} (h : Blks key d xs ys n c t) (hn : t * c + c ≤ ys.length) : Blks key d xs (ssort key (t * c) (t * c + c) ys) n c (t + 1) := by
  refine ⟨(ssort_length (by omega)).trans h.len, h.sp.trans (ssort_SP (by omega)), fun s hs => ?_⟩
  by_cases e : s = t
  · rw [e]; exact ssort_srt (by omega) hn
  · have := blk_le (c := c) (show s < t by omega)
    exact (h.pre s (by omega)).congr fun i h1 h2 => ssort_out (by omega) hn (.inl (by omega))
theorem Blks.last {xs ys : List α} {n c t : Nat} (h : Blks key d xs ys n c t) (hn : n ≤ ys.length) (h1 : t * c ≤ n) (h2 : n < t * c + c) :
    (ssort key (t * c) n ys).length = xs.length ∧ SP key xs (ssort key (t * c) n ys) ∧ AllB key d (ssort key (t * c) n ys) n c 0 := by
  refine ⟨(ssort_length h1).trans h.len, h.sp.trans (ssort_SP h1), fun s _ => ?_⟩
  rcases Nat.lt_trichotomy s t with e | e | e
  · have := blk_le (c := c) e
    rw [Nat.min_eq_left (by omega)]
    exact (h.pre s e).congr fun i h1 h2 => ssort_out (by omega) hn (.inl (by omega))
  · rw [e, Nat.min_eq_right (by omega)]
    exact ssort_srt h1 hn
  · have := blk_le (c := c) e
    exact fun i j hi hij hj => by have : j < n := Nat.lt_of_lt_of_le hj (Nat.min_le_right _ _); omega
theorem AllB.mono {ys : List α} {n c lo lo' : Nat} (h : AllB key d ys n c lo) (hl : lo ≤ lo') : AllB key d ys n c lo' := fun s hs => h s (by omega)
/-- What is left of the blocks behind a merge. -/
theorem AllB.out {ys : List α} {n c lo b : Nat} {a : Nat} (h : AllB key d ys n c lo) (ha : a ≤ b) (hb : b ≤ ys.length) (hl : lo ≤ b) : AllB key d (ssort key a b ys) n c b := fun s hs =>
  (h s (by omega)).congr fun i h1 h2 => ssort_out ha hb (.inr (by omega))
theorem two_mul (t c : Nat) : t * (2 * c) = 2 * t * c := by rw [← Nat.mul_assoc, Nat.mul_comm t 2]
theorem AllB.left {ys : List α} {n c t : Nat} (h : AllB key d ys n c (t * (2 * c))) : Srt key d ys (t * (2 * c)) (min (t * (2 * c) + c) n) := by
  have := h (2 * t) (by rw [two_mul]; omega)
  rwa [← two_mul] at this
theorem AllB.right {ys : List α} {n c t : Nat} (h : AllB key d ys n c (t * (2 * c))) : Srt key d ys (t * (2 * c) + c) (min (t * (2 * c) + 2 * c) n) := by
  have e : (2 * t + 1) * c = t * (2 * c) + c := by rw [Nat.add_mul, two_mul]; omega
  have := h (2 * t + 1) (by omega)
  rw [e, show t * (2 * c) + c + c = t * (2 * c) + 2 * c by omega] at this
  exact this
theorem AllB.done {xs ys : List α} {n c : Nat} (h : AllB key d ys n c 0) (hn : n ≤ c) (hl : ys.length = n) (hs : SP key xs ys) : ys = sortK key xs := by
  have := h 0 (by omega)
  rw [Nat.zero_mul, Nat.zero_add, Nat.min_eq_right hn] at this
  exact sortK_uniq hs (pw_of_srt (d := d) (by rw [hl]; exact this))
/-- Nothing was left to merge. -/
theorem Blks.skip {xs ys : List α} {n c t : Nat} (h : Blks key d xs ys n (2 * c) t) (hr : AllB key d ys n c (t * (2 * c))) (h2 : n ≤ t * (2 * c) + c) : AllB key d ys n (2 * c) 0 := by
  intro s _
  rcases Nat.lt_trichotomy s t with e | e | e
  · exact (h.pre s e).sub (Nat.le_refl _) (Nat.min_le_left _ _)
  · have := hr.left
    rw [Nat.min_eq_right h2] at this
    rw [e]
    exact this.sub (Nat.le_refl _) (Nat.min_le_right _ _)
  · have := blk_le (c := 2 * c) e
    exact fun i j hi hij hj => by have : j < n := Nat.lt_of_lt_of_le hj (Nat.min_le_right _ _); omega
end
end Go.Eng

/- Plain laws: classes of nodes that edges unite; forests laid in a list. -/
namespace Go.Eng

abbrev NE := Nat × Nat

/-- The classes behind one more edge. -/
def mrg (rt : Nat → Nat) (a b : Nat) : Nat → Nat := fun x => if rt x = rt a then rt b else rt x
def rtOf (E : List NE) : Nat → Nat := E.foldl (fun rt e => mrg rt e.1 e.2) id
theorem rtOf_nil (x : Nat) : rtOf [] x = x := rfl
theorem rtOf_snoc (E : List NE) (e : NE) : rtOf (E ++ [e]) = mrg (rtOf E) e.1 e.2 := by simp [rtOf]

inductive Conn (E : List NE) : Nat → Nat → Prop
  | edge {a b : Nat} (h : (a, b) ∈ E) : Conn E a b
  | refl (a : Nat) : Conn E a a
  | symm {a b : Nat} (h : Conn E a b) : Conn E b a
  | trans {a b c : Nat} (h : Conn E a b) (k : Conn E b c) : Conn E a c

theorem Conn.mono {E E' : List NE} (h : ∀ e ∈ E, e ∈ E') {a b : Nat} (k : Conn E a b) : Conn E' a b := by
  induction k with
  | edge h1 => exact .edge (h _ h1)
  | refl a => exact .refl a
  | symm _ ih => exact .symm ih
  | trans _ _ ih1 ih2 => exact .trans ih1 ih2

theorem list_snoc {α : Type} {motive : List α → Prop} (nil : motive []) (snoc : ∀ l x, motive l → motive (l ++ [x])) (l : List α) : motive l := by
  have h : ∀ l : List α, motive l.reverse := fun l => by
    induction l with
    | nil => exact nil
    | cons x l ih => rw [List.reverse_cons]; exact snoc _ _ ih
  rw [← List.reverse_reverse l]; exact h _

theorem rtOf_iff (E : List NE) : ∀ x y, rtOf E x = rtOf E y ↔ Conn E x y := by
  induction E using list_snoc with
  | nil =>
    intro x y
    refine ⟨fun h => ?_, fun h => ?_⟩
    · rw [rtOf_nil, rtOf_nil] at h; subst h; exact .refl _
    · induction h with
      | edge h => cases h
      | refl => rfl
      | symm _ ih => exact ih.symm
      | trans _ _ ih1 ih2 => exact ih1.trans ih2
  | snoc E e ih =>
    obtain ⟨a, b⟩ := e
    have hm : ∀ p ∈ E, p ∈ E ++ [(a, b)] := fun p hp => List.mem_append_left _ hp
    have hab : Conn (E ++ [(a, b)]) a b := .edge (by simp)
    have up : ∀ {x y}, rtOf E x = rtOf E y → Conn (E ++ [(a, b)]) x y := fun h => ((ih _ _).1 h).mono hm
    intro x y
    rw [rtOf_snoc]
    refine ⟨fun h => ?_, fun h => ?_⟩
    · simp only [mrg] at h
      split at h <;> split at h
      · rename_i h1 h2; exact up (h1.trans h2.symm)
      · rename_i h1 h2; exact ((up h1).trans hab).trans (up h)
      · rename_i h1 h2; exact ((up h).trans hab.symm).trans (up h2.symm)
      · exact up h
    · induction h with
      | edge h1 =>
        rename_i p q
        rcases List.mem_append.1 h1 with h2 | h2
        · have := (ih p q).2 (.edge h2)
          simp only [mrg, this]
        · simp at h2
          obtain ⟨rfl, rfl⟩ := h2
          simp only [mrg, if_true]
          split
          · rfl
          · rfl
      | refl => rfl
      | symm _ ih => exact ih.symm
      | trans _ _ ih1 ih2 => exact ih1.trans ih2

theorem mrg_idem {rt : Nat → Nat} (h : ∀ x, rt (rt x) = rt x) (a b x : Nat) : mrg rt a b (mrg rt a b x) = mrg rt a b x := by
  unfold mrg
  split
  · rw [h b]; split <;> rfl
  · rename_i h1; rw [h x, if_neg h1]
theorem rtOf_idem (E : List NE) : ∀ x, rtOf E (rtOf E x) = rtOf E x := by
  induction E using list_snoc with
  | nil => intro x; rfl
  | snoc E e ih => intro x; rw [rtOf_snoc]; exact mrg_idem ih _ _ _
theorem rtOf_lt {N : Nat} (E : List NE) (h : ∀ e ∈ E, e.1 < N ∧ e.2 < N) : ∀ x, x < N → rtOf E x < N := by
  induction E using list_snoc with
  | nil => intro x hx; exact hx
  | snoc E e ih =>
    intro x hx
    have ih := ih fun e he => h e (List.mem_append_left _ he)
    rw [rtOf_snoc]; unfold mrg
    split
    · exact ih _ (h e (by simp)).2
    · exact ih _ hx
theorem rtOf_congr {E E' : List NE} (h : ∀ e, e ∈ E ↔ e ∈ E') (x y : Nat) : rtOf E x = rtOf E y ↔ rtOf E' x = rtOf E' y := by
  rw [rtOf_iff, rtOf_iff]
  exact ⟨Conn.mono fun e he => (h e).1 he, Conn.mono fun e he => (h e).2 he⟩

/-! ### How many classes -/

def roots (rt : Nat → Nat) (N : Nat) : List Nat := (List.range N).filter fun x => decide (rt x = x)
theorem roots_nodup (rt : Nat → Nat) (N : Nat) : (roots rt N).Nodup := List.nodup_range.sublist List.filter_sublist
theorem mem_roots {rt : Nat → Nat} {N x : Nat} : x ∈ roots rt N ↔ x < N ∧ rt x = x := by simp [roots]
theorem nodup_sub {α : Type} [DecidableEq α] : ∀ {l m : List α}, l.Nodup → (∀ x ∈ l, x ∈ m) → l.length ≤ m.length
  | [], _, _, _ => Nat.zero_le _
  | x :: l, m, h, hs => by
    have hx : x ∈ m := hs x List.mem_cons_self
    obtain ⟨h1, h2⟩ := List.nodup_cons.1 h
    have := nodup_sub (m := m.erase x) h2 fun y hy => by
      have hne : y ≠ x := fun e => h1 (e ▸ hy)
      exact (List.mem_erase_of_ne hne).2 (hs y (List.mem_cons_of_mem _ hy))
    rw [List.length_erase_of_mem hx] at this
    have : 0 < m.length := List.length_pos_of_mem hx
    simp only [List.length_cons]; omega
theorem nodup_map {α β : Type} {f : α → β} : ∀ {l : List α}, l.Nodup → (∀ x ∈ l, ∀ y ∈ l, f x = f y → x = y) → (l.map f).Nodup
  | [], _, _ => by simp
  | x :: l, h, hf => by
    obtain ⟨h1, h2⟩ := List.nodup_cons.1 h
    rw [List.map_cons, List.nodup_cons]
    refine ⟨fun hm => ?_, nodup_map h2 fun a ha b hb => hf a (List.mem_cons_of_mem _ ha) b (List.mem_cons_of_mem _ hb)⟩
    obtain ⟨y, hy, e⟩ := List.mem_map.1 hm
    have := hf y (List.mem_cons_of_mem _ hy) x List.mem_cons_self e
    exact h1 (this ▸ hy)
/-- Coarser classes are no more. -/
theorem roots_coarse {rt rt' : Nat → Nat} {N : Nat} (hi : ∀ x, rt (rt x) = rt x) (hlt : ∀ x, x < N → rt x < N) (h : ∀ x y, rt x = rt y → rt' x = rt' y) : (roots rt' N).length ≤ (roots rt N).length := by
  have h1 : ((roots rt' N).map rt).Nodup := nodup_map (roots_nodup _ _) fun x hx y hy e => by
    have h2 := h x y e
    rw [(mem_roots.1 hx).2, (mem_roots.1 hy).2] at h2
    exact h2
  have := nodup_sub (m := roots rt N) h1 fun y hy => by
    obtain ⟨x, hx, rfl⟩ := List.mem_map.1 hy
    exact mem_roots.2 ⟨hlt x (mem_roots.1 hx).1, hi x⟩
  simpa using this
theorem roots_mrg {rt : Nat → Nat} {N a b : Nat} (hi : ∀ x, rt (rt x) = rt x) (hlt : ∀ x, x < N → rt x < N) (ha : a < N) (hne : rt a ≠ rt b) : (roots (mrg rt a b) N).length + 1 = (roots rt N).length := by
  have hmem : ∀ x, x ∈ roots (mrg rt a b) N ↔ x ∈ (roots rt N).erase (rt a) := fun x => by
    rw [(roots_nodup rt N).mem_erase_iff, mem_roots, mem_roots]
    unfold mrg
    constructor
    · rintro ⟨h1, h2⟩
      split at h2
      · rename_i h3
        exfalso; apply hne
        have := congrArg rt h2
        rw [hi, h3] at this; exact this.symm
      · rename_i h3
        refine ⟨fun e => h3 ?_, h1, h2⟩
        rw [e, hi]
    · rintro ⟨h1, h2, h3⟩
      refine ⟨h2, ?_⟩
      rw [if_neg (fun e => h1 (h3.symm.trans e)), h3]
  have h1 := nodup_sub (roots_nodup (mrg rt a b) N) fun x hx => (hmem x).1 hx
  have h2 := nodup_sub ((roots_nodup rt N).erase (rt a)) fun x hx => (hmem x).2 hx
  have hm : rt a ∈ roots rt N := mem_roots.2 ⟨hlt a ha, hi a⟩
  rw [List.length_erase_of_mem hm] at h1 h2
  have := List.length_pos_of_mem hm
  omega
theorem mrg_same {rt : Nat → Nat} {a b : Nat} (h : rt a = rt b) : mrg rt a b = rt := by
  funext x; unfold mrg; split
  · rename_i h1; rw [h1, h]
  · rfl

/-- Each edge joins what was apart. -/
def Acyc (E : List NE) : Prop := ∀ k, k < E.length → rtOf (E.take k) (E.getD k (0, 0)).1 ≠ rtOf (E.take k) (E.getD k (0, 0)).2
theorem Acyc.nil : Acyc [] := fun k hk => by simp at hk
theorem Acyc.snoc {E : List NE} {e : NE} : Acyc (E ++ [e]) ↔ Acyc E ∧ rtOf E e.1 ≠ rtOf E e.2 := by
  constructor
  · intro h
    refine ⟨fun k hk => ?_, ?_⟩
    · have := h k (by simp; omega)
      rw [List.take_append_of_le_length (by omega)] at this
      simpa [List.getD_eq_getElem?_getD, List.getElem?_append, hk] using this
    · have := h E.length (by simp)
      simpa [List.getD_eq_getElem?_getD] using this
  · rintro ⟨h1, h2⟩ k hk
    simp at hk
    by_cases e1 : k = E.length
    · subst e1; simpa [List.getD_eq_getElem?_getD] using h2
    · have hk' : k < E.length := by omega
      have := h1 k hk'
      rw [List.take_append_of_le_length (by omega)]
      simpa [List.getD_eq_getElem?_getD, List.getElem?_append, hk'] using this
def InN (N : Nat) (E : List NE) : Prop := ∀ e ∈ E, e.1 < N ∧ e.2 < N
theorem InN.left {N : Nat} {E F : List NE} (h : InN N (E ++ F)) : InN N E := fun e he => h e (List.mem_append_left _ he)
theorem roots_len {N : Nat} (E : List NE) : InN N E → N ≤ (roots (rtOf E) N).length + E.length ∧ (Acyc E ↔ (roots (rtOf E) N).length + E.length = N) := by
  induction E using list_snoc with
  | nil =>
    intro _
    have : (roots (rtOf []) N).length = N := by
      have : roots (rtOf []) N = List.range N := List.filter_eq_self.2 fun x _ => by simp [rtOf_nil]
      rw [this, List.length_range]
    rw [this]
    simp [Acyc.nil]
  | snoc E e ih =>
    intro hN
    obtain ⟨i1, i2⟩ := ih hN.left
    have hlt := rtOf_lt E hN.left
    have ha := (hN e (by simp)).1
    rw [Acyc.snoc, rtOf_snoc, List.length_append]
    by_cases h : rtOf E e.1 = rtOf E e.2
    · rw [mrg_same h]
      refine ⟨by simp; omega, ?_⟩
      simp only [List.length_cons, List.length_nil]
      constructor
      · rintro ⟨_, h2⟩; exact absurd h h2
      · intro h3; omega
    · have := roots_mrg (rtOf_idem E) hlt ha h
      simp only [List.length_cons, List.length_nil]
      refine ⟨by omega, ?_⟩
      rw [i2]
      constructor
      · rintro ⟨h1, _⟩; omega
      · intro h1; exact ⟨by omega, h⟩
theorem roots_same {N : Nat} {E E' : List NE} (hN : InN N E) (hN' : InN N E') (h : ∀ x y, rtOf E x = rtOf E y ↔ rtOf E' x = rtOf E' y) : (roots (rtOf E) N).length = (roots (rtOf E') N).length :=
  Nat.le_antisymm (roots_coarse (rtOf_idem E') (rtOf_lt E' hN') fun x y => (h x y).2) (roots_coarse (rtOf_idem E) (rtOf_lt E hN) fun x y => (h x y).1)
theorem Acyc.perm {E E' : List NE} (hp : E.Perm E') (h : Acyc E) : Acyc E' := by
  let N := (E.map fun e => max e.1 e.2 + 1).foldl max 0
  have hmax : ∀ (l : List Nat) (i : Nat), i ≤ l.foldl max i ∧ ∀ x ∈ l, x ≤ l.foldl max i := by
    intro l
    induction l with
    | nil => intro i; simp
    | cons y l ih =>
      intro i
      obtain ⟨a1, a2⟩ := ih (max i y)
      simp only [List.foldl_cons, List.mem_cons]
      refine ⟨by omega, fun x hx => ?_⟩
      rcases hx with rfl | hx
      · omega
      · exact a2 x hx
  have hN : InN N E := fun e he => by
    have := (hmax (E.map fun e => max e.1 e.2 + 1) 0).2 _ (List.mem_map.2 ⟨e, he, rfl⟩)
    show e.1 < (E.map fun e => max e.1 e.2 + 1).foldl max 0 ∧ e.2 < (E.map fun e => max e.1 e.2 + 1).foldl max 0
    omega
  have hN' : InN N E' := fun e he => hN e (hp.mem_iff.2 he)
  have h1 := (roots_len E hN).2.1 h
  rw [(roots_len E' hN').2, ← hp.length_eq, ← roots_same hN hN' (rtOf_congr fun e => hp.mem_iff)]
  exact h1

/-! ### Forests laid in a list -/

structure Forest (f : List Int) (rt : Nat → Nat) (dp : Nat → Nat) : Prop where
  rng : ∀ i, i < f.length → 0 ≤ f.getD i 0 ∧ f.getD i 0 < f.length
  dec : ∀ i, i < f.length → (f.getD i 0).toNat ≠ i → dp (f.getD i 0).toNat < dp i
  cls : ∀ i, i < f.length → rt (f.getD i 0).toNat = rt i
  fix : ∀ i, i < f.length → (f.getD i 0).toNat = i → rt i = i

theorem Forest.root {f : List Int} {rt dp : Nat → Nat} (h : Forest f rt dp) : ∀ (k i : Nat), dp i ≤ k → i < f.length → rt i < f.length ∧ (f.getD (rt i) 0).toNat = rt i := by
  intro k
  induction k with
  | zero =>
    intro i hd hi
    have e : (f.getD i 0).toNat = i := by
      apply Classical.byContradiction; intro hne
      have := h.dec i hi hne; omega
    have := h.fix i hi e
    rw [this]; exact ⟨hi, e⟩
  | succ k ih =>
    intro i hd hi
    by_cases e : (f.getD i 0).toNat = i
    · have := h.fix i hi e
      rw [this]; exact ⟨hi, e⟩
    · have h1 := h.dec i hi e
      have h2 := h.rng i hi
      have := ih (f.getD i 0).toNat (by omega) (by omega)
      rw [h.cls i hi] at this; exact this
theorem Forest.root' {f : List Int} {rt dp : Nat → Nat} (h : Forest f rt dp) {i : Nat} (hi : i < f.length) : rt i < f.length ∧ (f.getD (rt i) 0).toNat = rt i := h.root (dp i) i (Nat.le_refl _) hi
theorem Forest.idem {f : List Int} {rt dp : Nat → Nat} (h : Forest f rt dp) {i : Nat} (hi : i < f.length) : rt (rt i) = rt i := h.fix _ (h.root' hi).1 (h.root' hi).2
/-- The way of a node halved. -/
theorem Forest.halve {f : List Int} {rt dp : Nat → Nat} (h : Forest f rt dp) {i : Nat} (hi : i < f.length) (hne : (f.getD i 0).toNat ≠ i) : Forest (f.set i (f.getD (f.getD i 0).toNat 0)) rt dp := by
  have hr := h.rng i hi
  have hj : (f.getD i 0).toNat < f.length := by omega
  have hr2 := h.rng _ hj
  have hd := h.dec i hi hne
  have hlt : dp (f.getD (f.getD i 0).toNat 0).toNat < dp i := by
    by_cases e : (f.getD (f.getD i 0).toNat 0).toNat = (f.getD i 0).toNat
    · rw [e]; exact hd
    · exact Nat.lt_trans (h.dec _ hj e) hd
  refine ⟨fun k hk => ?_, fun k hk => ?_, fun k hk => ?_, fun k hk => ?_⟩
  all_goals
    rw [List.length_set] at hk
    rw [getD_set]
    by_cases e : i = k
    · subst e
      rw [if_pos ⟨rfl, hi⟩]
      try rw [List.length_set]
      first
        | exact hr2
        | exact fun _ => hlt
        | exact (h.cls _ hj).trans (h.cls _ hi)
        | exact fun e => by rw [e] at hlt; omega
    · rw [if_neg (fun h => e h.1)]
      try rw [List.length_set]
      first
        | exact h.rng k hk
        | exact h.dec k hk
        | exact h.cls k hk
        | exact h.fix k hk
inductive Halve : List Int → Nat → List Int → Prop
  | stop {f : List Int} {i : Nat} (h : (f.getD i 0).toNat = i) : Halve f i f
  | go {f g : List Int} {i : Nat} (h : (f.getD i 0).toNat ≠ i) (k : Halve (f.set i (f.getD (f.getD i 0).toNat 0)) (f.getD (f.getD i 0).toNat 0).toNat g) : Halve f i g
theorem Halve.next {f g : List Int} {i : Nat} (h : Halve f i g) (hne : (f.getD i 0).toNat ≠ i) : Halve (f.set i (f.getD (f.getD i 0).toNat 0)) (f.getD (f.getD i 0).toNat 0).toNat g := by
  cases h with
  | stop h => exact absurd h hne
  | go _ k => exact k
theorem Halve.last {f g : List Int} {i : Nat} (h : Halve f i g) (he : (f.getD i 0).toNat = i) : g = f := by
  cases h with
  | stop _ => rfl
  | go h _ => exact absurd he h
theorem Halve.det {f g g' : List Int} {i : Nat} (h : Halve f i g) (h' : Halve f i g') : g = g' := by
  induction h with
  | stop h => cases h' with
    | stop _ => rfl
    | go k _ => exact absurd h k
  | go h _ ih => cases h' with
    | stop k => exact absurd k h
    | go _ k => exact ih k
theorem Forest.halves {rt dp : Nat → Nat} : ∀ (k : Nat) {f : List Int} {i : Nat}, Forest f rt dp → dp i ≤ k → i < f.length → ∃ g, Halve f i g ∧ Forest g rt dp ∧ g.length = f.length := by
  intro k
  induction k with
  | zero =>
    intro f i h hd hi
    refine ⟨f, .stop ?_, h, rfl⟩
    apply Classical.byContradiction; intro hne
    have := h.dec i hi hne; omega
  | succ k ih =>
    intro f i h hd hi
    by_cases e : (f.getD i 0).toNat = i
    · exact ⟨f, .stop e, h, rfl⟩
    · have hr := h.rng i hi
      have hj : (f.getD i 0).toNat < f.length := by omega
      have hr2 := h.rng _ hj
      have hd2 := h.dec i hi e
      have hlt : dp (f.getD (f.getD i 0).toNat 0).toNat ≤ k := by
        by_cases e : (f.getD (f.getD i 0).toNat 0).toNat = (f.getD i 0).toNat
        · rw [e]; omega
        · have := h.dec _ hj e; omega
      obtain ⟨g, h1, h2, h3⟩ := ih (h.halve hi e) hlt (by rw [List.length_set]; omega)
      exact ⟨g, .go e h1, h2, by rw [h3, List.length_set]⟩
theorem Forest.unite {f : List Int} {rt dp : Nat → Nat} (h : Forest f rt dp) {a b : Nat} (ha : a < f.length) (hb : b < f.length) :
    Forest (f.set (rt a) (rt b : Nat)) (mrg rt a b) (fun x => if rt x = rt a ∧ rt a ≠ rt b then dp x + 1 + dp (rt b) else dp x) := by
  obtain ⟨a1, a2⟩ := h.root' ha
  obtain ⟨b1, b2⟩ := h.root' hb
  have ia := h.idem ha
  have ib := h.idem hb
  by_cases e : rt a = rt b
  · have e2 : f.set (rt a) (rt b : Nat) = f := by
      refine ext_getD (d := 0) (by simp) fun p hp => ?_
      rw [getD_set]
      split
      · rename_i h1
        rw [← h1.1]
        have := h.rng _ a1
        omega
      · rfl
    have e3 : mrg rt a b = rt := by
      funext x; unfold mrg; split
      · rename_i h1; rw [h1, e]
      · rfl
    have e4 : (fun x => if rt x = rt a ∧ rt a ≠ rt b then dp x + 1 + dp (rt b) else dp x) = dp := by
      funext x; rw [if_neg (fun h => h.2 e)]
    rw [e2, e3, e4]; exact h
  · have hdp : ∀ x, (if rt x = rt a ∧ rt a ≠ rt b then dp x + 1 + dp (rt b) else dp x) = if rt x = rt a then dp x + 1 + dp (rt b) else dp x := fun x => by
      by_cases h1 : rt x = rt a
      · rw [if_pos ⟨h1, e⟩, if_pos h1]
      · rw [if_neg (fun h => h1 h.1), if_neg h1]
    refine ⟨fun k hk => ?_, fun k hk => ?_, fun k hk => ?_, fun k hk => ?_⟩
    all_goals rw [List.length_set] at hk
    · rw [getD_set, List.length_set]
      split
      · omega
      · exact h.rng k hk
    · rw [getD_set]
      simp only [hdp]
      split
      · rename_i h1
        obtain ⟨h1, _⟩ := h1
        intro _
        rw [Int.toNat_natCast, ib, if_neg (Ne.symm e), ← h1, ia, if_pos rfl]
        omega
      · intro hne
        have h1 := h.dec k hk hne
        rw [h.cls k hk]
        split <;> omega
    · rw [getD_set]
      split
      · rename_i h1
        obtain ⟨h1, _⟩ := h1
        rw [Int.toNat_natCast, ← h1]
        unfold mrg
        rw [ia, ib, if_pos rfl]
        split <;> rfl
      · unfold mrg; rw [h.cls k hk]
    · rw [getD_set]
      split
      · rename_i h1
        rw [Int.toNat_natCast, ← h1.1]
        intro h2; exact absurd h2.symm e
      · rename_i h1
        intro h2
        have h3 := h.fix k hk h2
        unfold mrg
        rw [if_neg (fun h4 => h1 ⟨h4.symm.trans h3, a1⟩), h3]
/-- The forest at the start. -/
theorem Forest.start (n : Nat) : Forest ((List.range n).map fun (i : Nat) => (i : Int)) (rtOf []) (fun _ => 0) := by
  have e : ∀ i, i < n → ((List.range n).map fun (i : Nat) => (i : Int)).getD i 0 = (i : Int) := fun i hi => by
    simp [List.getD_eq_getElem?_getD, hi]
  refine ⟨fun i hi => ?_, fun i hi => ?_, fun i hi => ?_, fun i hi => ?_⟩
  all_goals
    simp only [List.length_map, List.length_range] at hi ⊢
    rw [e i hi]
  · omega
  · intro h; simp at h
  · simp [rtOf_nil]
  · intro _; rfl
end Go.Eng

/- Plain laws: graphs of blocks, their faults, the edges of control. -/
namespace Go.Eng
abbrev Pr := Int × Int
abbrev Bk := Int × Int × Int × List Pr

def eFault (n i : Int) : List Pr → Option (Int × Int)
  | [] => none
  | x :: l => if 1 ≤ x.1 ∧ x.1 ≤ 3 then (if -1 ≤ x.2 ∧ x.2 < n then eFault n i l else some (3, i)) else some (4, i)
def gGo (n : Int) : List Bk → Int → Int → Int × Int
  | [], _, _ => (0, 0)
  | b :: l, i, c => if 300 < c + (b.2.2.2).length then (2, i) else match eFault n i (b.2.2.2) with
    | some f => f
    | none => gGo n l (i + 1) (c + (b.2.2.2).length)
def gFault (g : List Bk) : Int × Int := if 100 < g.length then (2, -1) else gGo g.length g 0 0
/-- Lists that a machine may hold. -/
def LB {α : Type} (l : List α) : Prop := l.length ≤ 17592186044416
def GB (g : List Bk) : Prop := LB g ∧ ∀ b ∈ g, LB (b.2.2.2)

theorem drop_getD' {α : Type} (d : α) : ∀ {l : List α} {i : Nat}, i < l.length → l.drop i = l.getD i d :: l.drop (i + 1)
  | [], i, h => by simp at h
  | x :: l, 0, h => by simp
  | x :: l, i + 1, h => by simpa using drop_getD' d (l := l) (i := i) (by simpa using h)
theorem eFault_ok {n i : Int} {l : List Pr} {k : Nat} (hk : k < l.length) (h1 : 1 ≤ (l.getD k (0, 0)).1 ∧ (l.getD k (0, 0)).1 ≤ 3) (h2 : -1 ≤ (l.getD k (0, 0)).2 ∧ (l.getD k (0, 0)).2 < n) : eFault n i (l.drop k) = eFault n i (l.drop (k + 1)) := by
  rw [drop_getD' (0, 0) hk]; conv => lhs; unfold eFault
  rw [if_pos h1, if_pos h2]
theorem eFault_kind {n i : Int} {l : List Pr} {k : Nat} (hk : k < l.length) (h1 : ¬(1 ≤ (l.getD k (0, 0)).1 ∧ (l.getD k (0, 0)).1 ≤ 3)) : eFault n i (l.drop k) = some (4, i) := by
  rw [drop_getD' (0, 0) hk]; unfold eFault; rw [if_neg h1]
theorem eFault_to {n i : Int} {l : List Pr} {k : Nat} (hk : k < l.length) (h1 : 1 ≤ (l.getD k (0, 0)).1 ∧ (l.getD k (0, 0)).1 ≤ 3) (h2 : ¬(-1 ≤ (l.getD k (0, 0)).2 ∧ (l.getD k (0, 0)).2 < n)) : eFault n i (l.drop k) = some (3, i) := by
  rw [drop_getD' (0, 0) hk]; unfold eFault; rw [if_pos h1, if_neg h2]
theorem gGo_many {n i c : Int} {g : List Bk} {k : Nat} (hk : k < g.length) (h : 300 < c + ((g.getD k ((0, 0, 0, []) : Bk)).2.2.2).length) : gGo n (g.drop k) i c = (2, i) := by
  rw [drop_getD' ((0, 0, 0, []) : Bk) hk]; unfold gGo; rw [if_pos h]
theorem gGo_bad {n i c : Int} {g : List Bk} {k : Nat} {f : Int × Int} (hk : k < g.length) (h : ¬ 300 < c + ((g.getD k ((0, 0, 0, []) : Bk)).2.2.2).length) (hf : eFault n i ((g.getD k ((0, 0, 0, []) : Bk)).2.2.2) = some f) : gGo n (g.drop k) i c = f := by
  rw [drop_getD' ((0, 0, 0, []) : Bk) hk]; unfold gGo; rw [if_neg h, hf]
theorem gGo_ok {n i c : Int} {g : List Bk} {k : Nat} (hk : k < g.length) (h : ¬ 300 < c + ((g.getD k ((0, 0, 0, []) : Bk)).2.2.2).length) (hf : eFault n i ((g.getD k ((0, 0, 0, []) : Bk)).2.2.2) = none) : gGo n (g.drop k) i c = gGo n (g.drop (k + 1)) (i + 1) (c + ((g.getD k ((0, 0, 0, []) : Bk)).2.2.2).length) := by
  rw [drop_getD' ((0, 0, 0, []) : Bk) hk]; conv => lhs; unfold gGo
  rw [if_neg h, hf]

theorem eFault_none {n i : Int} : ∀ {l : List Pr}, eFault n i l = none → ∀ x ∈ l, (1 ≤ x.1 ∧ x.1 ≤ 3) ∧ -1 ≤ x.2 ∧ x.2 < n
  | [], _, x, hx => by simp at hx
  | y :: l, h, x, hx => by
    unfold eFault at h
    split at h
    · rename_i h1
      split at h
      · rename_i h2
        rcases List.mem_cons.1 hx with rfl | hx
        · exact ⟨h1, h2⟩
        · exact eFault_none h x hx
      · cases h
    · cases h
theorem eFault_code {n i : Int} : ∀ {l : List Pr} {f : Int × Int}, eFault n i l = some f → f.1 ≠ 0
  | [], f, h => by simp [eFault] at h
  | y :: l, f, h => by
    unfold eFault at h
    split at h
    · split at h
      · exact eFault_code h
      · simp only [Option.some.injEq] at h; subst h; simp
    · simp only [Option.some.injEq] at h; subst h; simp
def totE (g : List Bk) : Nat := (g.map fun b => (b.2.2.2).length).sum
theorem gGo_good {n : Int} : ∀ {g : List Bk} {i c : Int}, (gGo n g i c).1 = 0 → gGo n g i c = (0, 0) ∧ (c ≤ 300 → c + totE g ≤ 300) ∧ ∀ b ∈ g, ∀ x ∈ b.2.2.2, (1 ≤ x.1 ∧ x.1 ≤ 3) ∧ -1 ≤ x.2 ∧ x.2 < n
  | [], i, c, _ => ⟨rfl, by simp [totE], by simp⟩
  | b :: g, i, c, h => by
    unfold gGo at h ⊢
    split at h
    · simp at h
    · rename_i h1
      split at h
      · rename_i f hf; exact absurd h (eFault_code hf)
      · rename_i hf
        obtain ⟨k1, k2, k3⟩ := gGo_good h
        rw [if_neg h1]
        refine ⟨k1, fun hc => ?_, fun b' hb' => ?_⟩
        · have := k2 (by omega)
          simp only [totE, List.map_cons, List.sum_cons] at this ⊢
          omega
        · rcases List.mem_cons.1 hb' with rfl | hb'
          · exact eFault_none hf
          · exact k3 b' hb'
structure GoodG (g : List Bk) : Prop where
  n : g.length ≤ 100
  tot : totE g ≤ 300
  ed : ∀ b ∈ g, ∀ x ∈ b.2.2.2, (1 ≤ x.1 ∧ x.1 ≤ 3) ∧ -1 ≤ x.2 ∧ x.2 < g.length
theorem gFault_good {g : List Bk} (h : (gFault g).1 = 0) : gFault g = (0, 0) ∧ GoodG g := by
  unfold gFault at h ⊢
  split at h
  · simp at h
  · rename_i h1
    obtain ⟨k1, k2, k3⟩ := gGo_good h
    rw [if_neg h1]
    have := k2 (by omega)
    exact ⟨k1, by omega, by omega, k3⟩

/-! ### Entries -/
def enGo (n : Int) : Option Int → List Int → Int → Int × Int
  | _, [], _ => (0, 0)
  | p, x :: l, i => if 0 ≤ x ∧ x < n then (match p with
    | none => enGo n (some x) l (i + 1)
    | some y => if x ≤ y then (5, -10 - i) else enGo n (some x) l (i + 1)) else (3, -10 - i)
def entF (g : List Bk) (e : List Int) : Int × Int := if (gFault g).1 = 0 then enGo g.length none e 0 else gFault g
/-- What lies ahead of place k. -/
def prevOf (e : List Int) (k : Nat) : Option Int := if k = 0 then none else some (e.getD (k - 1) 0)
theorem prevOf_succ (e : List Int) (k : Nat) : prevOf e (k + 1) = some (e.getD k 0) := by simp [prevOf]
theorem enGo_range {n : Int} {e : List Int} {k : Nat} (hk : k < e.length) (h : ¬(0 ≤ e.getD k 0 ∧ e.getD k 0 < n)) (i : Int) (p : Option Int) : enGo n p (e.drop k) i = (3, -10 - i) := by
  rw [drop_getD' 0 hk]; unfold enGo; rw [if_neg h]
theorem enGo_order {n : Int} {e : List Int} {k : Nat} (hk : k < e.length) (h : 0 ≤ e.getD k 0 ∧ e.getD k 0 < n) (h0 : 0 < k) (hle : e.getD k 0 ≤ e.getD (k - 1) 0) (i : Int) : enGo n (prevOf e k) (e.drop k) i = (5, -10 - i) := by
  rw [drop_getD' 0 hk]; unfold enGo prevOf; rw [if_pos h, if_neg (by omega)]; simp only; rw [if_pos hle]
theorem enGo_ok {n : Int} {e : List Int} {k : Nat} (hk : k < e.length) (h : 0 ≤ e.getD k 0 ∧ e.getD k 0 < n) (hle : k = 0 ∨ ¬ e.getD k 0 ≤ e.getD (k - 1) 0) (i : Int) : enGo n (prevOf e k) (e.drop k) i = enGo n (prevOf e (k + 1)) (e.drop (k + 1)) (i + 1) := by
  rw [drop_getD' 0 hk, prevOf_succ]; conv => lhs; unfold enGo
  rw [if_pos h]
  unfold prevOf
  by_cases h0 : k = 0
  · rw [if_pos h0]
  · rw [if_neg h0]; simp only; rw [if_neg (by omega)]
structure GoodE (n : Nat) (e : List Int) : Prop where
  rng : ∀ x ∈ e, 0 ≤ x ∧ x < n
  inc : e.Pairwise (· < ·)
theorem enGo_good {n : Int} : ∀ {e : List Int} {p : Option Int} {i : Int}, (enGo n p e i).1 = 0 → enGo n p e i = (0, 0) ∧ (∀ x ∈ e, 0 ≤ x ∧ x < n) ∧ e.Pairwise (· < ·) ∧ ∀ y, p = some y → ∀ x ∈ e, y < x
  | [], p, i, _ => ⟨rfl, by simp, .nil, by simp⟩
  | x :: e, p, i, h => by
    unfold enGo at h ⊢
    split at h
    · rename_i h1
      rw [if_pos h1]
      cases p with
      | none =>
        obtain ⟨k1, k2, k3, k4⟩ := enGo_good (p := some x) h
        refine ⟨k1, fun z hz => ?_, List.pairwise_cons.2 ⟨k4 x rfl, k3⟩, by simp⟩
        rcases List.mem_cons.1 hz with rfl | hz
        · exact h1
        · exact k2 z hz
      | some y =>
        simp only at h ⊢
        split at h
        · simp at h
        · rename_i h2
          rw [if_neg h2]
          obtain ⟨k1, k2, k3, k4⟩ := enGo_good (p := some x) h
          refine ⟨k1, fun z hz => ?_, List.pairwise_cons.2 ⟨k4 x rfl, k3⟩, fun y' hy' z hz => ?_⟩
          · rcases List.mem_cons.1 hz with rfl | hz
            · exact h1
            · exact k2 z hz
          · simp only [Option.some.injEq] at hy'; subst hy'
            rcases List.mem_cons.1 hz with rfl | hz
            · omega
            · have := k4 x rfl z hz; omega
    · simp at h
theorem entF_good {g : List Bk} {e : List Int} (h : (entF g e).1 = 0) : entF g e = (0, 0) ∧ GoodG g ∧ GoodE g.length e := by
  unfold entF at h ⊢
  split at h
  · rename_i h1
    rw [if_pos h1]
    obtain ⟨k1, k2, k3, _⟩ := enGo_good h
    exact ⟨k1, (gFault_good h1).2, k2, k3⟩
  · rename_i h1; exact absurd h h1
theorem inc_len {n : Nat} {e : List Int} (h : GoodE n e) : e.length ≤ n := by
  have h1 : (e.map Int.toNat).Nodup := nodup_map (h.inc.imp fun h => by omega) fun x hx y hy he => by
    have := h.rng x hx; have := h.rng y hy; omega
  have := nodup_sub (m := List.range n) h1 fun y hy => by
    obtain ⟨x, hx, rfl⟩ := List.mem_map.1 hy
    have := h.rng x hx
    simp; omega
  simpa using this

/-! ### The edges of control -/
def notCall (x : Pr) : Bool := decide (x.1 ≠ 3)
def blkP (i : Int) (l : List Pr) : List Pr := (l.filter notCall).map fun x => (i, x.2)
def blkE (i : Int) (b : Bk) : List Pr := if blkP i (b.2.2.2) = [] then [(i, -1)] else blkP i (b.2.2.2)
def bE : Nat → List Bk → List Pr
  | _, [] => []
  | i, b :: l => blkE i b ++ bE (i + 1) l
def entE (e : List Int) : List Pr := e.map fun x => (-1, x)
def edgesL (g : List Bk) (e : List Int) : List Pr := entE e ++ bE 0 g
theorem blkP_take (i : Int) {l : List Pr} {k : Nat} (hk : k < l.length) : blkP i (l.take (k + 1)) = if notCall (l.getD k (0, 0)) then blkP i (l.take k) ++ [(i, (l.getD k (0, 0)).2)] else blkP i (l.take k) := by
  have : l.take (k + 1) = l.take k ++ [l.getD k (0, 0)] := by rw [getD_eq hk, List.take_append_getElem hk]
  rw [this]
  unfold blkP
  rw [List.filter_append, List.map_append]
  by_cases h : notCall (l.getD k (0, 0)) = true
  · rw [if_pos h, List.filter_cons_of_pos h]; rfl
  · rw [if_neg h, List.filter_cons_of_neg h]; simp
theorem blkP_full (i : Int) (l : List Pr) {k : Nat} (hk : l.length ≤ k) : blkP i (l.take k) = blkP i l := by rw [List.take_of_length_le hk]
theorem bE_app (i : Nat) : ∀ (g h : List Bk), bE i (g ++ h) = bE i g ++ bE (i + g.length) h
  | [], h => by simp [bE]
  | b :: g, h => by
    simp only [List.cons_append, bE, List.append_assoc, List.length_cons]
    rw [bE_app (i + 1) g h]
    congr 3; omega
theorem bE_take {g : List Bk} {k : Nat} (hk : k < g.length) : bE 0 (g.take (k + 1)) = bE 0 (g.take k) ++ blkE k (g.getD k ((0, 0, 0, []) : Bk)) := by
  have : g.take (k + 1) = g.take k ++ [g.getD k ((0, 0, 0, []) : Bk)] := by rw [getD_eq hk, List.take_append_getElem hk]
  rw [this, bE_app]
  have : (g.take k).length = k := by simp; omega
  rw [this]; simp [bE]
theorem blkP_len (i : Int) (l : List Pr) : (blkP i l).length ≤ l.length := by
  unfold blkP; rw [List.length_map]; exact List.length_filter_le _ _
theorem blkE_len (i : Int) (b : Bk) : (blkE i b).length ≤ (b.2.2.2).length + 1 := by
  unfold blkE
  split
  · simp
  · have := blkP_len i (b.2.2.2); omega
theorem bE_len : ∀ (g : List Bk) (i : Nat), (bE i g).length ≤ totE g + g.length
  | [], _ => by simp [bE]
  | b :: g, i => by
    have h1 := bE_len g (i + 1)
    have h2 := blkE_len i b
    simp only [bE, List.length_append, totE, List.map_cons, List.sum_cons, List.length_cons] at *
    omega
theorem totE_take (g : List Bk) (k : Nat) : totE (g.take k) ≤ totE g := by
  conv => rhs; rw [← List.take_append_drop k g]
  unfold totE
  rw [List.map_append, List.sum_append]
  omega
theorem len_of_mem {g : List Bk} {b : Bk} (h : b ∈ g) : (b.2.2.2).length ≤ totE g := by
  induction g with
  | nil => simp at h
  | cons x g ih =>
    simp only [totE, List.map_cons, List.sum_cons] at *
    rcases List.mem_cons.1 h with rfl | h
    · omega
    · have := ih h; omega
theorem edgesL_len {g : List Bk} {e : List Int} (hg : GoodG g) (he : GoodE g.length e) : (edgesL g e).length ≤ 500 := by
  have h1 := bE_len g 0
  have h2 := inc_len he
  have h3 := hg.n
  have h4 := hg.tot
  simp only [edgesL, entE, List.length_append, List.length_map]
  omega
theorem mem_bE {x : Pr} : ∀ {g : List Bk} {i : Nat}, x ∈ bE i g → ∃ k, k < g.length ∧ x ∈ blkE ((i + k : Nat) : Int) (g.getD k ((0, 0, 0, []) : Bk))
  | [], i, h => by simp [bE] at h
  | b :: g, i, h => by
    simp only [bE, List.mem_append] at h
    rcases h with h | h
    · exact ⟨0, by simp, by simpa using h⟩
    · obtain ⟨k, h1, h2⟩ := mem_bE h
      refine ⟨k + 1, by simp; omega, ?_⟩
      simp only [List.getD_cons_succ]
      rw [show i + (k + 1) = i + 1 + k by omega]; exact h2
theorem edgesL_rng {g : List Bk} {e : List Int} (hg : GoodG g) (he : GoodE g.length e) {x : Pr} (h : x ∈ edgesL g e) : (-1 ≤ x.1 ∧ x.1 < g.length) ∧ -1 ≤ x.2 ∧ x.2 < g.length := by
  simp only [edgesL, List.mem_append] at h
  rcases h with h | h
  · obtain ⟨y, hy, rfl⟩ := List.mem_map.1 h
    have := he.rng y hy
    simp; omega
  · obtain ⟨k, h1, h2⟩ := mem_bE h
    unfold blkE at h2
    split at h2
    · simp at h2; subst h2; simp; omega
    · obtain ⟨y, hy, rfl⟩ := List.mem_map.1 h2
      have := hg.ed _ (getD_memL ((0, 0, 0, []) : Bk) h1) y (List.mem_filter.1 hy).1
      simp; omega

/-! ### Weights -/
def wtGo : List Int → Int → Int × Int
  | [], _ => (0, 0)
  | x :: l, i => if 0 ≤ x ∧ x ≤ 1000000 then wtGo l (i + 1) else (3, -200 - i)
def wtF (l : List Int) (n : Nat) : Int × Int := if l.length = n then wtGo l 0 else (9, -2)
theorem wtGo_ok {l : List Int} {k : Nat} (hk : k < l.length) (h : 0 ≤ l.getD k 0 ∧ l.getD k 0 ≤ 1000000) (i : Int) : wtGo (l.drop k) i = wtGo (l.drop (k + 1)) (i + 1) := by
  rw [drop_getD' 0 hk]; conv => lhs; unfold wtGo
  rw [if_pos h]
theorem wtGo_bad {l : List Int} {k : Nat} (hk : k < l.length) (h : ¬(0 ≤ l.getD k 0 ∧ l.getD k 0 ≤ 1000000)) (i : Int) : wtGo (l.drop k) i = (3, -200 - i) := by
  rw [drop_getD' 0 hk]; unfold wtGo; rw [if_neg h]
theorem wtGo_good : ∀ {l : List Int} {i : Int}, (wtGo l i).1 = 0 → wtGo l i = (0, 0) ∧ ∀ x ∈ l, 0 ≤ x ∧ x ≤ 1000000
  | [], _, _ => ⟨rfl, by simp⟩
  | x :: l, i, h => by
    unfold wtGo at h ⊢
    split at h
    · rename_i h1
      rw [if_pos h1]
      obtain ⟨k1, k2⟩ := wtGo_good h
      refine ⟨k1, fun y hy => ?_⟩
      rcases List.mem_cons.1 hy with rfl | hy
      · exact h1
      · exact k2 y hy
    · simp at h
theorem wtF_good {l : List Int} {n : Nat} (h : (wtF l n).1 = 0) : wtF l n = (0, 0) ∧ l.length = n ∧ ∀ x ∈ l, 0 ≤ x ∧ x ≤ 1000000 := by
  unfold wtF at h ⊢
  split at h
  · rename_i h1; rw [if_pos h1]; exact ⟨(wtGo_good h).1, h1, (wtGo_good h).2⟩
  · simp at h
theorem wtGo_of : ∀ {l : List Int} {i : Int}, (∀ x ∈ l, 0 ≤ x ∧ x ≤ 1000000) → wtGo l i = (0, 0)
  | [], _, _ => rfl
  | x :: l, i, h => by unfold wtGo; rw [if_pos (h x List.mem_cons_self)]; exact wtGo_of fun y hy => h y (List.mem_cons_of_mem _ hy)
end Go.Eng

/- Plain laws: the search for what is connected. -/
namespace Go.Eng

/-- Node -1 is the outside. -/
def nd (x : Int) : Nat := (x + 1).toNat
def sh (x : Pr) : NE := (nd x.1, nd x.2)
theorem nd_inj {x y : Int} (hx : -1 ≤ x) (hy : -1 ≤ y) (h : nd x = nd y) : x = y := by unfold nd at h; omega

/-- The edges in use. -/
def usedE : List Pr → List Bool → List NE
  | x :: l, u :: us => if u then sh x :: usedE l us else usedE l us
  | _, _ => []
theorem mem_usedE {e : NE} : ∀ {l : List Pr} {us : List Bool}, l.length = us.length → (e ∈ usedE l us ↔ ∃ i, i < l.length ∧ us.getD i false = true ∧ e = sh (l.getD i (0, 0)))
  | [], [], _ => by simp [usedE]
  | [], _ :: _, h => by simp at h
  | _ :: _, [], h => by simp at h
  | x :: l, u :: us, h => by
    have ih := mem_usedE (e := e) (l := l) (us := us) (by simpa using h)
    unfold usedE
    constructor
    · intro hm
      by_cases hu : u = true
      · rw [if_pos hu] at hm
        rcases List.mem_cons.1 hm with rfl | hm
        · exact ⟨0, by simp, by simpa using hu, by simp⟩
        · obtain ⟨i, h1, h2, h3⟩ := ih.1 hm
          exact ⟨i + 1, by simp; omega, by simpa using h2, by simpa using h3⟩
      · rw [if_neg hu] at hm
        obtain ⟨i, h1, h2, h3⟩ := ih.1 hm
        exact ⟨i + 1, by simp; omega, by simpa using h2, by simpa using h3⟩
    · rintro ⟨i, h1, h2, h3⟩
      cases i with
      | zero =>
        simp at h2 h3
        rw [if_pos h2, h3]; exact List.mem_cons_self
      | succ i =>
        have hm := ih.2 ⟨i, by simpa using h1, by simpa using h2, by simpa using h3⟩
        split
        · exact List.mem_cons_of_mem _ hm
        · exact hm

def ends (l : List Pr) : List Int := l.map Prod.fst ++ l.map Prod.snd

/-- The search, within a round. -/
structure BI (l : List Pr) (us : List Bool) (a : Int) (rc : List Int) (k j : Nat) : Prop where
  a0 : rc.getD 0 0 = a
  l0 : 0 < rc.length
  con : ∀ x ∈ rc, Conn (usedE l us) (nd a) (nd x) ∧ -1 ≤ x
  nod : rc.Nodup
  sub : ∀ x ∈ rc, x ∈ a :: ends l
  don : ∀ k' i, k' < rc.length → i < l.length → us.getD i false = true → (k' < k ∨ (k' = k ∧ i < j)) → ((l.getD i (0, 0)).1 = rc.getD k' 0 → (l.getD i (0, 0)).2 ∈ rc) ∧ ((l.getD i (0, 0)).2 = rc.getD k' 0 → (l.getD i (0, 0)).1 ∈ rc)
theorem BI.start (l : List Pr) (us : List Bool) {a : Int} (ha : -1 ≤ a) : BI l us a [a] 0 0 :=
  ⟨rfl, by simp, fun x hx => by simp at hx; subst hx; exact ⟨.refl _, ha⟩, by simp, fun x hx => by simp at hx; subst hx; exact List.mem_cons_self, fun k' i _ _ _ h => by omega⟩
theorem BI.len {l : List Pr} {us : List Bool} {a : Int} {rc : List Int} {k j : Nat} (h : BI l us a rc k j) : rc.length ≤ 2 * l.length + 1 := by
  have := nodup_sub h.nod h.sub
  simp [ends] at this
  omega
theorem BI.next {l : List Pr} {us : List Bool} {a : Int} {rc : List Int} {k j : Nat} (h : BI l us a rc k j) (hj : l.length ≤ j) : BI l us a rc (k + 1) 0 :=
  ⟨h.a0, h.l0, h.con, h.nod, h.sub, fun k' i h1 h2 h3 h4 => h.don k' i h1 h2 h3 (by omega)⟩
theorem BI.skip {l : List Pr} {us : List Bool} {a : Int} {rc : List Int} {k j : Nat} (h : BI l us a rc k j) (hu : ¬ us.getD j false = true) : BI l us a rc k (j + 1) :=
  ⟨h.a0, h.l0, h.con, h.nod, h.sub, fun k' i h1 h2 h3 h4 => h.don k' i h1 h2 h3 (by
    rcases h4 with h4 | ⟨h4, h5⟩
    · exact .inl h4
    · refine .inr ⟨h4, ?_⟩
      by_cases e : i = j
      · subst e; exact absurd h3 hu
      · omega)⟩
theorem BI.add {l : List Pr} {us : List Bool} {a : Int} {rc : List Int} {k j : Nat} {v : Int} (h : BI l us a rc k j) (hv : v ∉ rc) (h1 : -1 ≤ v) (hc : ∃ x ∈ rc, Conn (usedE l us) (nd x) (nd v)) (hs : v ∈ ends l) (hk : k < rc.length) : BI l us a (rc ++ [v]) k j := by
  refine ⟨?_, by simp, fun x hx => ?_, ?_, fun x hx => ?_, fun k' i q1 q2 q3 q4 => ?_⟩
  · have := h.a0
    have := h.l0
    rw [List.getD_eq_getElem?_getD, List.getElem?_append_left (by omega), ← List.getD_eq_getElem?_getD]; exact h.a0
  · rcases List.mem_append.1 hx with hx | hx
    · exact h.con x hx
    · simp at hx; subst hx
      obtain ⟨y, hy, hc⟩ := hc
      exact ⟨(h.con y hy).1.trans hc, h1⟩
  · refine List.nodup_append.2 ⟨h.nod, by simp, fun x hx y hy => ?_⟩
    simp at hy; subst hy
    intro e; subst e; exact hv hx
  · rcases List.mem_append.1 hx with hx | hx
    · exact h.sub x hx
    · simp at hx; subst hx; exact List.mem_cons_of_mem _ hs
  · have hk' : k' < rc.length := by omega
    have e : (rc ++ [v]).getD k' 0 = rc.getD k' 0 := by rw [List.getD_eq_getElem?_getD, List.getElem?_append_left hk', ← List.getD_eq_getElem?_getD]
    rw [e]
    have := h.don k' i hk' q2 q3 q4
    exact ⟨fun h => List.mem_append_left _ (this.1 h), fun h => List.mem_append_left _ (this.2 h)⟩
theorem ends_fst {l : List Pr} {i : Nat} (h : i < l.length) : (l.getD i (0, 0)).1 ∈ ends l := List.mem_append_left _ (List.mem_map.2 ⟨_, getD_memL _ h, rfl⟩)
theorem ends_snd {l : List Pr} {i : Nat} (h : i < l.length) : (l.getD i (0, 0)).2 ∈ ends l := List.mem_append_right _ (List.mem_map.2 ⟨_, getD_memL _ h, rfl⟩)
/-- Edge j done. -/
theorem BI.step {l : List Pr} {us : List Bool} {a : Int} {rc : List Int} {k j : Nat} (h : BI l us a rc k j) (h1 : (l.getD j (0, 0)).1 = rc.getD k 0 → (l.getD j (0, 0)).2 ∈ rc) (h2 : (l.getD j (0, 0)).2 = rc.getD k 0 → (l.getD j (0, 0)).1 ∈ rc) : BI l us a rc k (j + 1) :=
  ⟨h.a0, h.l0, h.con, h.nod, h.sub, fun k' i q1 q2 q3 q4 => by
    by_cases e : k' = k ∧ i = j
    · obtain ⟨rfl, rfl⟩ := e; exact ⟨h1, h2⟩
    · exact h.don k' i q1 q2 q3 (by omega)⟩
theorem getD_app {α : Type} {d : α} {rc : List α} {v : α} {k : Nat} (h : k < rc.length) : (rc ++ [v]).getD k d = rc.getD k d := by
  rw [List.getD_eq_getElem?_getD, List.getElem?_append_left h, ← List.getD_eq_getElem?_getD]
theorem conn_edge {l : List Pr} {us : List Bool} (hl : l.length = us.length) {j : Nat} (hj : j < l.length) (hu : us.getD j false = true) : Conn (usedE l us) (nd (l.getD j (0, 0)).1) (nd (l.getD j (0, 0)).2) :=
  .edge ((mem_usedE hl).2 ⟨j, hj, hu, rfl⟩)
/-- The first half of edge j: its second end laid behind. -/
theorem BI.half1 {l : List Pr} {us : List Bool} {a : Int} {rc : List Int} {k j : Nat} (h : BI l us a rc k j) (hl : l.length = us.length) (hk : k < rc.length) (hj : j < l.length) (hu : us.getD j false = true) (hv : (l.getD j (0, 0)).2 ∉ rc) (he : (l.getD j (0, 0)).1 = rc.getD k 0) (hr : -1 ≤ (l.getD j (0, 0)).2) : BI l us a (rc ++ [(l.getD j (0, 0)).2]) k j :=
  h.add hv hr ⟨_, he ▸ getD_memL 0 hk, conn_edge hl hj hu⟩ (ends_snd hj) hk
theorem BI.half2 {l : List Pr} {us : List Bool} {a : Int} {rc : List Int} {k j : Nat} (h : BI l us a rc k j) (hl : l.length = us.length) (hk : k < rc.length) (hj : j < l.length) (hu : us.getD j false = true) (hv : (l.getD j (0, 0)).1 ∉ rc) (he : (l.getD j (0, 0)).2 = rc.getD k 0) (hr : -1 ≤ (l.getD j (0, 0)).1) : BI l us a (rc ++ [(l.getD j (0, 0)).1]) k j :=
  h.add hv hr ⟨_, he ▸ getD_memL 0 hk, (conn_edge hl hj hu).symm⟩ (ends_fst hj) hk
theorem BI.done {l : List Pr} {us : List Bool} {a : Int} {rc : List Int} {k : Nat} (h : BI l us a rc k 0) (hl : l.length = us.length) (hk : rc.length ≤ k) (hr : ∀ x ∈ l, -1 ≤ x.1 ∧ -1 ≤ x.2) {b : Int} (hb : -1 ≤ b) : b ∈ rc ↔ rtOf (usedE l us) (nd a) = rtOf (usedE l us) (nd b) := by
  rw [rtOf_iff]
  refine ⟨fun hm => (h.con b hm).1, fun hc => ?_⟩
  have cl : ∀ x y, Conn (usedE l us) x y → (((x : Int) - 1) ∈ rc ↔ ((y : Int) - 1) ∈ rc) := fun x y hc => by
    induction hc with
    | edge he =>
      rename_i p q
      obtain ⟨i, h1, h2, h3⟩ := (mem_usedE hl).1 he
      have hri := hr _ (getD_memL (0, 0) h1)
      have e1 : (p : Int) - 1 = (l.getD i (0, 0)).1 := by have := congrArg Prod.fst h3; simp only [sh, nd] at this; omega
      have e2 : (q : Int) - 1 = (l.getD i (0, 0)).2 := by have := congrArg Prod.snd h3; simp only [sh, nd] at this; omega
      rw [e1, e2]
      constructor
      · intro hm
        obtain ⟨k', hk', e⟩ := List.getElem_of_mem hm
        exact (h.don k' i hk' h1 h2 (.inl (by omega))).1 (by rw [getD_eq hk', e])
      · intro hm
        obtain ⟨k', hk', e⟩ := List.getElem_of_mem hm
        exact (h.don k' i hk' h1 h2 (.inl (by omega))).2 (by rw [getD_eq hk', e])
    | refl => exact Iff.rfl
    | symm _ ih => exact ih.symm
    | trans _ _ ih1 ih2 => exact ih1.trans ih2
  have h0 := getD_memL 0 h.l0
  rw [h.a0] at h0
  have ha := (h.con a h0).2
  have := (cl _ _ hc).1 (by rw [show ((nd a : Nat) : Int) - 1 = a by unfold nd; omega]; exact h0)
  rwa [show ((nd b : Nat) : Int) - 1 = b by unfold nd; omega] at this
end Go.Eng

/- Plain laws: which edges get counters. -/
namespace Go.Eng

def insGo (n : Int) : Bool → List Int → List Int
  | dn, [] => if dn then [] else [n]
  | dn, x :: l => (if !dn && decide (n ≤ x) then [n] else []) ++ ((if x ≠ n then [x] else []) ++ insGo n (dn || decide (n ≤ x)) l)
def insL (l : List Int) (n : Int) : List Int := insGo n false l
theorem insGo_true (n : Int) : ∀ {l : List Int}, n ∉ l → insGo n true l = l
  | [], _ => rfl
  | x :: l, h => by
    have hx : x ≠ n := fun e => h (e ▸ List.mem_cons_self)
    have := insGo_true n (l := l) fun hm => h (List.mem_cons_of_mem _ hm)
    simp [insGo, hx, this]
theorem insGo_spec (n : Int) : ∀ {l : List Int}, l.Pairwise (· < ·) → n ∉ l → (insGo n false l).Perm (n :: l) ∧ (insGo n false l).Pairwise (· < ·)
  | [], _, _ => by simp [insGo]
  | x :: l, hp, h => by
    obtain ⟨h1, h2⟩ := List.pairwise_cons.1 hp
    have hx : x ≠ n := fun e => h (e ▸ List.mem_cons_self)
    have hl : n ∉ l := fun hm => h (List.mem_cons_of_mem _ hm)
    by_cases hle : n ≤ x
    · have e : insGo n false (x :: l) = n :: x :: l := by simp [insGo, hle, hx, insGo_true n hl]
      rw [e]
      refine ⟨.refl _, List.pairwise_cons.2 ⟨fun y hy => ?_, hp⟩⟩
      rcases List.mem_cons.1 hy with rfl | hy
      · omega
      · have := h1 y hy; omega
    · have e : insGo n false (x :: l) = x :: insGo n false l := by simp [insGo, hle, hx]
      obtain ⟨k1, k2⟩ := insGo_spec n h2 hl
      rw [e]
      refine ⟨(k1.cons x).trans (List.Perm.swap _ _ _), List.pairwise_cons.2 ⟨fun y hy => ?_, k2⟩⟩
      rcases List.mem_cons.1 (k1.mem_iff.1 hy) with rfl | hy
      · omega
      · exact h1 y hy

/-- Sorted numbers. -/
def srtI (l : List Int) : List Int := l.mergeSort fun x y => decide (x ≤ y)
theorem srtI_perm (l : List Int) : (srtI l).Perm l := List.mergeSort_perm _ _
theorem srtI_le (l : List Int) : (srtI l).Pairwise (· ≤ ·) := by
  have := List.pairwise_mergeSort (le := fun x y : Int => decide (x ≤ y)) (fun a b c h1 h2 => by simp at *; omega) (fun a b => by simp; omega) l
  exact this.imp fun h => by simpa using h
theorem srtI_lt {l : List Int} (h : l.Nodup) : (srtI l).Pairwise (· < ·) := by
  have h1 : (srtI l).Nodup := (srtI_perm l).nodup_iff.2 h
  exact List.Pairwise.imp₂ (fun a b h1 h2 => by omega) (srtI_le l) h1
theorem sorted_eq {a b : List Int} (hp : a.Perm b) (ha : a.Pairwise (· < ·)) (hb : b.Pairwise (· < ·)) : a = b :=
  hp.eq_of_pairwise (fun x y _ _ h1 h2 => by omega) ha hb
theorem insL_srt {l : List Int} {n : Int} (h : (l ++ [n]).Nodup) : insL (srtI l) n = srtI (l ++ [n]) := by
  obtain ⟨h1, h2, h3⟩ := List.nodup_append.1 h
  have hn : n ∉ srtI l := fun hm => h3 n ((srtI_perm l).mem_iff.1 hm) n (by simp) rfl
  obtain ⟨k1, k2⟩ := insGo_spec n (srtI_lt h1) hn
  refine sorted_eq (k1.trans ?_) k2 (srtI_lt h)
  refine ((srtI_perm l).cons n).trans ?_
  exact (List.perm_append_comm (l₁ := [n]) (l₂ := l)).trans (srtI_perm _).symm

/-- One edge after the other: it is united, or it gets a counter. -/
def kstep (l : List Pr) (p : List NE × List Int) (i : Int) : List NE × List Int :=
  if rtOf p.1 (sh (l.getD i.toNat (0, 0))).1 = rtOf p.1 (sh (l.getD i.toNat (0, 0))).2 then (p.1, p.2 ++ [i]) else (p.1 ++ [sh (l.getD i.toNat (0, 0))], p.2)
def kru (l : List Pr) (o : List Int) : List NE × List Int := o.foldl (kstep l) ([], [])
theorem kru_snoc (l : List Pr) (o : List Int) (i : Int) : kru l (o ++ [i]) = kstep l (kru l o) i := by simp [kru]
theorem kru_take (l : List Pr) {o : List Int} {k : Nat} (h : k < o.length) : kru l (o.take (k + 1)) = kstep l (kru l (o.take k)) (o.getD k 0) := by
  have : o.take (k + 1) = o.take k ++ [o.getD k 0] := by rw [getD_eq h, List.take_append_getElem h]
  rw [this, kru_snoc]
/-- What was counted, and what was united. -/
theorem kru_mem (l : List Pr) (o : List Int) : (∀ i ∈ (kru l o).2, i ∈ o) ∧ (∀ e ∈ (kru l o).1, ∃ i ∈ o, e = sh (l.getD i.toNat (0, 0))) ∧ (∀ i ∈ o, i ∈ (kru l o).2 ∨ sh (l.getD i.toNat (0, 0)) ∈ (kru l o).1) := by
  induction o using list_snoc with
  | nil => simp [kru]
  | snoc o i ih =>
    obtain ⟨h1, h2, h3⟩ := ih
    rw [kru_snoc]
    unfold kstep
    split
    · refine ⟨fun j hj => ?_, fun e he => ?_, fun j hj => ?_⟩
      · rcases List.mem_append.1 hj with hj | hj
        · exact List.mem_append_left _ (h1 j hj)
        · exact List.mem_append_right _ hj
      · obtain ⟨j, hj, e⟩ := h2 e he; exact ⟨j, List.mem_append_left _ hj, e⟩
      · rcases List.mem_append.1 hj with hj | hj
        · rcases h3 j hj with h | h
          · exact .inl (List.mem_append_left _ h)
          · exact .inr h
        · exact .inl (List.mem_append_right _ hj)
    · refine ⟨fun j hj => List.mem_append_left _ (h1 j hj), fun e he => ?_, fun j hj => ?_⟩
      · rcases List.mem_append.1 he with he | he
        · obtain ⟨j, hj, e⟩ := h2 e he; exact ⟨j, List.mem_append_left _ hj, e⟩
        · simp at he; exact ⟨i, by simp, he⟩
      · rcases List.mem_append.1 hj with hj | hj
        · rcases h3 j hj with h | h
          · exact .inl h
          · exact .inr (List.mem_append_left _ h)
        · simp at hj; subst hj; exact .inr (by simp)
theorem kru_sub (l : List Pr) (o : List Int) : (kru l o).2.Sublist o := by
  induction o using list_snoc with
  | nil => simp [kru]
  | snoc o i ih =>
    rw [kru_snoc]; unfold kstep
    split
    · exact ih.append_right [i]
    · exact ih.trans (List.sublist_append_left _ _)
theorem kru_acyc (l : List Pr) (o : List Int) : Acyc (kru l o).1 := by
  induction o using list_snoc with
  | nil => exact Acyc.nil
  | snoc o i ih =>
    rw [kru_snoc]; unfold kstep
    split
    · exact ih
    · rename_i h; exact Acyc.snoc.2 ⟨ih, h⟩
/-- The edges that were not counted, as they were united. -/
theorem kru_rest (l : List Pr) (o : List Int) (hn : o.Nodup) : (kru l o).1 = (o.filter fun i => !(kru l o).2.contains i).map fun i => sh (l.getD i.toNat (0, 0)) := by
  induction o using list_snoc with
  | nil => simp [kru]
  | snoc o i ih =>
    obtain ⟨n1, n2, n3⟩ := List.nodup_append.1 hn
    have hni : i ∉ o := fun h => n3 i h i (by simp) rfl
    have ih := ih n1
    have hk := (kru_mem l o).1
    rw [kru_snoc]; unfold kstep
    split
    · rw [List.filter_append, List.map_append]
      have e1 : o.filter (fun j => !((kru l o).2 ++ [i]).contains j) = o.filter fun j => !(kru l o).2.contains j := List.filter_congr fun j hj => by
        have : j ≠ i := fun e => hni (e ▸ hj)
        simp [this]
      simp only [e1]
      rw [← ih]
      simp
    · rw [List.filter_append, List.map_append]
      simp only
      rw [← ih]
      have : i ∉ (kru l o).2 := fun h => hni (hk i h)
      simp [this]

/-- Numbers 0, 1, .. n-1. -/
def idxL (n : Nat) : List Int := (List.range n).map fun (i : Nat) => (i : Int)
theorem mem_idxL {n : Nat} {i : Int} : i ∈ idxL n ↔ 0 ≤ i ∧ i < n := by
  simp only [idxL, List.mem_map, List.mem_range]
  constructor
  · rintro ⟨k, hk, rfl⟩; omega
  · rintro ⟨h1, h2⟩; exact ⟨i.toNat, by omega, by omega⟩
theorem idxL_lt (n : Nat) : (idxL n).Pairwise (· < ·) := by
  unfold idxL
  rw [List.pairwise_map]
  exact List.pairwise_lt_range.imp fun h => by omega
theorem idxL_nodup (n : Nat) : (idxL n).Nodup := (idxL_lt n).imp fun h => by omega
theorem idxL_length (n : Nat) : (idxL n).length = n := by simp [idxL]
def wkey (w : List Int) (i : Int) : Int := -(w.getD i.toNat 0)
def ordW (w : List Int) (n : Nat) : List Int := sortK (wkey w) (idxL n)
theorem ordW_perm (w : List Int) (n : Nat) : (ordW w n).Perm (idxL n) := sortK_perm _
theorem ordW_length (w : List Int) (n : Nat) : (ordW w n).length = n := (ordW_perm w n).length_eq.trans (idxL_length n)
theorem ordW_nodup (w : List Int) (n : Nat) : (ordW w n).Nodup := (ordW_perm w n).nodup_iff.2 (idxL_nodup n)
theorem mem_ordW {w : List Int} {n : Nat} {i : Int} : i ∈ ordW w n ↔ 0 ≤ i ∧ i < n := (ordW_perm w n).mem_iff.trans mem_idxL
theorem ordW_at {w : List Int} {n k : Nat} (hk : k < n) : 0 ≤ (ordW w n).getD k 0 ∧ (ordW w n).getD k 0 < n := mem_ordW.1 (getD_memL 0 (by rw [ordW_length]; exact hk))
/-- The heavier first, then the one of the smaller number. -/
def Lex (w : List Int) (x y : Int) : Prop := w.getD y.toNat 0 < w.getD x.toNat 0 ∨ (w.getD y.toNat 0 = w.getD x.toNat 0 ∧ x < y)
theorem ordW_lex (w : List Int) (n : Nat) : (ordW w n).Pairwise (Lex w) := by
  have h1 := sortK_pw (key := wkey w) (idxL n)
  have h2 := sortK_SP (key := wkey w) (idxL n)
  rw [List.pairwise_iff_forall_sublist]
  intro a b hab
  have hle := List.pairwise_iff_forall_sublist.1 h1 hab
  simp only [wkey] at hle
  by_cases he : w.getD b.toNat 0 = w.getD a.toNat 0
  · refine .inr ⟨he, ?_⟩
    have hf := h2.fil (wkey w a)
    have hs : [a, b].Sublist ((ordW w n).filter fun x => decide (wkey w x = wkey w a)) := by
      have := hab.filter fun x => decide (wkey w x = wkey w a)
      have e : [a, b].filter (fun x => decide (wkey w x = wkey w a)) = [a, b] := by
        have : wkey w b = wkey w a := by simp only [wkey]; omega
        simp [this]
      rw [e] at this; exact this
    have hs2 : [a, b].Sublist ((idxL n).filter fun x => decide (wkey w x = wkey w a)) := by rw [hf]; exact hs
    exact List.pairwise_iff_forall_sublist.1 (idxL_lt n) (hs2.trans List.filter_sublist)
  · exact .inl (by omega)

def placedL (l : List Pr) (w : List Int) : List Int := srtI (kru l (ordW w l.length)).2

/-! ### The choice of the heaviest that is left -/
def bst (w : List Int) (dn : Nat → Bool) : Nat → Int
  | 0 => -1
  | i + 1 => if !dn i && (decide (bst w dn i < 0) || decide (w.getD i 0 > w.getD (bst w dn i).toNat 0)) then i else bst w dn i
theorem bst_spec (w : List Int) (dn : Nat → Bool) : ∀ i : Nat, (bst w dn i = -1 ∧ ∀ j, j < i → dn j = true) ∨ ∃ b : Nat, b < i ∧ bst w dn i = b ∧ dn b = false ∧ ∀ j : Nat, j < i → dn j = false → j ≠ b → Lex w b j
  | 0 => .inl ⟨rfl, fun j hj => by omega⟩
  | i + 1 => by
    unfold bst
    rcases bst_spec w dn i with ⟨h1, h2⟩ | ⟨b, h1, h2, h3, h4⟩
    · cases hd : dn i with
      | true =>
        rw [if_neg (by simp)]
        refine .inl ⟨h1, fun j hj => ?_⟩
        by_cases e : j = i
        · rw [e]; exact hd
        · exact h2 j (by omega)
      | false =>
        rw [if_pos (by simp [h1])]
        refine .inr ⟨i, by omega, rfl, hd, fun j hj hj2 hne => ?_⟩
        rw [h2 j (by omega)] at hj2; cases hj2
    · by_cases hc : (!dn i && (decide (bst w dn i < 0) || decide (w.getD i 0 > w.getD (bst w dn i).toNat 0))) = true
      · rw [if_pos hc]
        have hdi : dn i = false := by
          cases hd : dn i with
          | true => rw [hd] at hc; simp at hc
          | false => rfl
        have hgt : w.getD b 0 < w.getD i 0 := by
          rw [h2, hdi] at hc
          simp at hc
          rcases hc with hc | hc
          · omega
          · simpa [List.getD_eq_getElem?_getD] using hc
        refine .inr ⟨i, by omega, rfl, hdi, fun j hj hj2 hne => ?_⟩
        by_cases e : j = b
        · subst e; left; simpa using hgt
        · left
          have := h4 j (by omega) hj2 e
          simp only [Lex, Int.toNat_natCast] at this ⊢
          omega
      · rw [if_neg hc]
        refine .inr ⟨b, by omega, h2, h3, fun j hj hj2 hne => ?_⟩
        by_cases e : j = i
        · subst e
          rw [h2, hj2] at hc
          simp at hc
          have hc2 : w.getD j 0 ≤ w.getD b 0 := by simpa [List.getD_eq_getElem?_getD] using hc
          simp only [Lex, Int.toNat_natCast]
          omega
        · exact h4 j (by omega) hj2 hne
/-- With the first k of the order done, the next one is chosen. -/
theorem bst_ord {w : List Int} {n k : Nat} (hk : k < n) {dn : Nat → Bool} (hd : ∀ j : Nat, j < n → (dn j = true ↔ (j : Int) ∈ (ordW w n).take k)) : bst w dn n = (ordW w n).getD k 0 := by
  have hl := ordW_length w n
  obtain ⟨hx0, hxn⟩ := ordW_at (w := w) hk
  generalize hx : (ordW w n).getD k 0 = x at *
  have hnd := ordW_nodup w n
  have hxk : x ∉ (ordW w n).take k := fun hm => by
    obtain ⟨i, hi, e⟩ := List.getElem_of_mem hm
    have hik : i < k := by simp at hi; omega
    rw [List.getElem_take] at e
    rw [getD_eq (by omega)] at hx
    exact List.pairwise_iff_getElem.1 hnd i k (by omega) (by omega) hik (e.trans hx.symm)
  have hxd : dn x.toNat = false := by
    cases h : dn x.toNat with
    | false => rfl
    | true =>
      have := (hd x.toNat (by omega)).1 h
      rw [Int.toNat_of_nonneg hx0] at this
      exact absurd this hxk
  rcases bst_spec w dn n with ⟨h1, h2⟩ | ⟨b, h1, h2, h3, h4⟩
  · rw [h2 _ (by omega)] at hxd; cases hxd
  · rw [h2]
    apply Classical.byContradiction
    intro hne
    have hlx := h4 x.toNat (by omega) hxd (by omega)
    -- b lies behind x in the order
    have hbm : (b : Int) ∈ ordW w n := mem_ordW.2 ⟨by omega, by omega⟩
    have hbk : (b : Int) ∉ (ordW w n).take k := fun hm => by
      rw [(hd b h1).2 hm] at h3; cases h3
    obtain ⟨q, hq, e⟩ := List.getElem_of_mem hbm
    have hkq : k < q := by
      rcases Nat.lt_trichotomy q k with h | h | h
      · exfalso; apply hbk
        rw [← e]
        exact List.mem_take_iff_getElem.2 ⟨q, by omega, rfl⟩
      · exfalso; apply hne
        subst h
        rw [← e, ← hx, getD_eq (by omega)]
      · exact h
    have hlx2 := List.pairwise_iff_getElem.1 (ordW_lex w n) k q (by omega) (by omega) hkq
    rw [e] at hlx2
    rw [getD_eq (by omega)] at hx
    rw [hx] at hlx2
    simp only [Lex, Int.toNat_natCast] at hlx hlx2
    have e2 : ((x.toNat : Nat) : Int) = x := by omega
    rw [e2] at hlx
    omega
end Go.Eng
namespace Go.Eng
theorem bst_rng (w : List Int) (dn : Nat → Bool) (i : Nat) : -1 ≤ bst w dn i ∧ bst w dn i < i := by
  rcases bst_spec w dn i with ⟨h1, _⟩ | ⟨b, h1, h2, _⟩ <;> omega
theorem bst_yes {w : List Int} {dn : Nat → Bool} {i : Nat} (h : dn i = false) (h2 : bst w dn i < 0 ∨ w.getD (bst w dn i).toNat 0 < w.getD i 0) : bst w dn (i + 1) = i := by
  conv => lhs; unfold bst
  rw [if_pos]
  rw [h]; simp only [Bool.not_false, Bool.true_and, Bool.or_eq_true, decide_eq_true_eq]
  exact h2
theorem bst_no {w : List Int} {dn : Nat → Bool} {i : Nat} (h : dn i = true ∨ (0 ≤ bst w dn i ∧ w.getD i 0 ≤ w.getD (bst w dn i).toNat 0)) : bst w dn (i + 1) = bst w dn i := by
  conv => lhs; unfold bst
  rw [if_neg]
  rcases h with h | h
  · rw [h]; simp
  · simp only [Bool.and_eq_true, Bool.or_eq_true, decide_eq_true_eq, not_and, not_or]
    intro _; omega

/-- Which of the first n of the order are done, and which are in use. -/
def doneL (w : List Int) (N n : Nat) : List Bool := (List.range N).map fun (i : Nat) => decide ((i : Int) ∈ (ordW w N).take n)
def useL (l : List Pr) (w : List Int) (n : Nat) : List Bool := (List.range l.length).map fun (i : Nat) => decide ((i : Int) ∈ (ordW w l.length).take n ∧ (i : Int) ∉ (kru l ((ordW w l.length).take n)).2)
theorem mapR_getD {f : Nat → Bool} {N i : Nat} (h : i < N) : ((List.range N).map f).getD i false = f i := by simp [List.getD_eq_getElem?_getD, h]
theorem take_snoc {w : List Int} {N n : Nat} (h : n < N) : (ordW w N).take (n + 1) = (ordW w N).take n ++ [(ordW w N).getD n 0] := by
  rw [getD_eq (by rw [ordW_length]; exact h), List.take_append_getElem]
theorem doneL_zero (w : List Int) (N : Nat) : doneL w N 0 = List.replicate N false := by
  refine ext_getD (d := false) (by simp [doneL]) fun i hi => ?_
  have hi' : i < N := by simpa [doneL] using hi
  rw [doneL, mapR_getD hi']; simp [List.getD_eq_getElem?_getD, hi']
theorem useL_zero (l : List Pr) (w : List Int) : useL l w 0 = List.replicate l.length false := by
  refine ext_getD (d := false) (by simp [useL]) fun i hi => ?_
  have hi' : i < l.length := by simpa [useL] using hi
  rw [useL, mapR_getD hi']; simp [List.getD_eq_getElem?_getD, hi']
theorem doneL_set {w : List Int} {N n : Nat} (h : n < N) : (doneL w N n).set ((ordW w N).getD n 0).toNat true = doneL w N (n + 1) := by
  obtain ⟨h1, h2⟩ := ordW_at (w := w) h
  refine ext_getD (d := false) (by simp [doneL]) fun i hi => ?_
  have hi' : i < N := by simpa [doneL] using hi
  rw [getD_set, doneL, doneL, mapR_getD hi', mapR_getD hi', take_snoc h]
  by_cases e : ((ordW w N).getD n 0).toNat = i
  · rw [if_pos ⟨e, by simp only [List.length_map, List.length_range]; omega⟩]
    have : (i : Int) = (ordW w N).getD n 0 := by omega
    simp [this]
  · rw [if_neg (fun h => e h.1)]
    have : ¬ (i : Int) = (ordW w N).getD n 0 := by omega
    simp only [List.mem_append, List.mem_singleton, this, or_false]
theorem ord_new {w : List Int} {N n : Nat} (h : n < N) : (ordW w N).getD n 0 ∉ (ordW w N).take n := fun hm => by
  obtain ⟨i, hi, e⟩ := List.getElem_of_mem hm
  have hl := ordW_length w N
  have hik : i < n := by simp at hi; omega
  rw [List.getElem_take, getD_eq (by omega)] at e
  exact List.pairwise_iff_getElem.1 (ordW_nodup w N) i n (by omega) (by omega) hik e
theorem useL_set {l : List Pr} {w : List Int} {n : Nat} (h : n < l.length) (hne : ¬ rtOf (kru l ((ordW w l.length).take n)).1 (sh (l.getD ((ordW w l.length).getD n 0).toNat (0, 0))).1 = rtOf (kru l ((ordW w l.length).take n)).1 (sh (l.getD ((ordW w l.length).getD n 0).toNat (0, 0))).2) :
    (useL l w n).set ((ordW w l.length).getD n 0).toNat true = useL l w (n + 1) ∧ (kru l ((ordW w l.length).take (n + 1))).2 = (kru l ((ordW w l.length).take n)).2 := by
  obtain ⟨h1, h2⟩ := ordW_at (w := w) h
  have hk : (kru l ((ordW w l.length).take (n + 1))).2 = (kru l ((ordW w l.length).take n)).2 := by
    rw [kru_take l (by rw [ordW_length]; exact h)]; unfold kstep; rw [if_neg hne]
  refine ⟨?_, hk⟩
  refine ext_getD (d := false) (by simp [useL]) fun i hi => ?_
  have hi' : i < l.length := by simpa [useL] using hi
  rw [getD_set, useL, useL, mapR_getD hi', mapR_getD hi', hk, take_snoc h]
  by_cases e : ((ordW w l.length).getD n 0).toNat = i
  · rw [if_pos ⟨e, by simp only [List.length_map, List.length_range]; omega⟩]
    have e2 : (i : Int) = (ordW w l.length).getD n 0 := by omega
    have : (i : Int) ∉ (kru l ((ordW w l.length).take n)).2 := fun hm => ord_new h (e2 ▸ (kru_mem l _).1 _ hm)
    rw [e2] at this ⊢
    symm
    exact decide_eq_true ⟨List.mem_append_right _ (by simp only [List.mem_singleton]), this⟩
  · rw [if_neg (fun h => e h.1)]
    have : ¬ (i : Int) = (ordW w l.length).getD n 0 := by omega
    simp only [List.mem_append, List.mem_singleton, this, or_false]
theorem useL_keep {l : List Pr} {w : List Int} {n : Nat} (h : n < l.length) (he : rtOf (kru l ((ordW w l.length).take n)).1 (sh (l.getD ((ordW w l.length).getD n 0).toNat (0, 0))).1 = rtOf (kru l ((ordW w l.length).take n)).1 (sh (l.getD ((ordW w l.length).getD n 0).toNat (0, 0))).2) :
    useL l w n = useL l w (n + 1) ∧ (kru l ((ordW w l.length).take (n + 1))).2 = (kru l ((ordW w l.length).take n)).2 ++ [(ordW w l.length).getD n 0] := by
  have hk : (kru l ((ordW w l.length).take (n + 1))).2 = (kru l ((ordW w l.length).take n)).2 ++ [(ordW w l.length).getD n 0] := by
    rw [kru_take l (by rw [ordW_length]; exact h)]; unfold kstep; rw [if_pos he]
  refine ⟨?_, hk⟩
  unfold useL
  refine List.map_congr_left fun i hi => ?_
  rw [hk, take_snoc h]
  refine decide_eq_decide.2 ?_
  simp only [List.mem_append, List.mem_singleton, not_or]
  constructor
  · rintro ⟨a1, a2⟩
    exact ⟨.inl a1, a2, fun e => ord_new h (e ▸ a1)⟩
  · rintro ⟨a1, a2, a3⟩
    exact ⟨a1.resolve_right a3, a2⟩
theorem useL_len (l : List Pr) (w : List Int) (n : Nat) : l.length = (useL l w n).length := by simp [useL]
/-- What is in use is what was united. -/
theorem useL_rt (l : List Pr) (w : List Int) (n : Nat) (x y : Nat) : rtOf (usedE l (useL l w n)) x = rtOf (usedE l (useL l w n)) y ↔ rtOf (kru l ((ordW w l.length).take n)).1 x = rtOf (kru l ((ordW w l.length).take n)).1 y := by
  refine rtOf_congr (fun e => ?_) x y
  have hnd : ((ordW w l.length).take n).Nodup := (ordW_nodup w l.length).sublist (List.take_sublist _ _)
  rw [mem_usedE (useL_len l w n), kru_rest l _ hnd]
  simp only [List.mem_map, List.mem_filter, Bool.not_eq_true', List.contains_eq_mem, decide_eq_false_iff_not]
  constructor
  · rintro ⟨i, h1, h2, rfl⟩
    rw [useL, mapR_getD h1] at h2
    simp only [decide_eq_true_eq] at h2
    exact ⟨i, ⟨h2.1, by simpa using h2.2⟩, by simp⟩
  · rintro ⟨i, ⟨h1, h2⟩, rfl⟩
    have hi := mem_ordW.1 (List.mem_of_mem_take h1)
    refine ⟨i.toNat, by omega, ?_, rfl⟩
    rw [useL, mapR_getD (by omega)]
    have e : ((i.toNat : Nat) : Int) = i := by omega
    simp only [decide_eq_true_eq, e]
    exact ⟨h1, by simpa using h2⟩
end Go.Eng

/- Plain laws of the order of functions: joining lists. -/
namespace Go.Eng

def crossW (W : Int → Int → Int) (a b : List Int) : Int := sumBy (fun x => sumBy (fun y => W x y) b) a

def bval (f : Nat × Nat → Int) : Option (Nat × Nat) → Int
  | none => 0
  | some p => f p
def bstep (f : Nat × Nat → Int) (cur : Option (Nat × Nat)) (p : Nat × Nat) : Option (Nat × Nat) := if bval f cur < f p then some p else cur
def rowP (i k : Nat) : List (Nat × Nat) := (List.range' (i + 1) (k - (i + 1))).map (fun j => (i, j))
def preP (m i k : Nat) : List (Nat × Nat) := (List.range i).flatMap (fun j => rowP j m) ++ rowP i k
def bestTo (f : Nat × Nat → Int) (m i k : Nat) : Option (Nat × Nat) := (preP m i k).foldl (bstep f) none
theorem bestTo_zero (f : Nat × Nat → Int) (m : Nat) : bestTo f m 0 1 = none := by simp [bestTo, preP, rowP]
theorem bestTo_succ (f : Nat × Nat → Int) (m i k : Nat) (h : i + 1 ≤ k) : bestTo f m i (k + 1) = bstep f (bestTo f m i k) (i, k) := by
  have : rowP i (k + 1) = rowP i k ++ [(i, k)] := by
    unfold rowP
    rw [show k + 1 - (i + 1) = (k - (i + 1)) + 1 by omega, List.range'_concat, List.map_append]
    simp; omega
  unfold bestTo preP
  rw [this, ← List.append_assoc, List.foldl_append]
  rfl
theorem bestTo_row (f : Nat × Nat → Int) (m i k : Nat) (h : m ≤ k) (h2 : k ≤ m ∨ k ≤ i + 1) : bestTo f m (i + 1) (i + 2) = bestTo f m i k := by
  have e : rowP i k = rowP i m := by
    unfold rowP
    rw [show k - (i + 1) = m - (i + 1) by omega]
  unfold bestTo preP
  rw [e, List.range_succ, List.flatMap_append]
  simp [rowP]
theorem mem_preP {m i k : Nat} {p : Nat × Nat} (hk : k ≤ m ∨ k ≤ i + 1) (h : p ∈ preP m i k) : p.1 < p.2 ∧ p.2 < m := by
  unfold preP rowP at h
  simp only [List.mem_append, List.mem_flatMap, List.mem_range, List.mem_map, List.mem_range'_1] at h
  rcases h with ⟨j, _, x, ⟨h1, h2⟩, rfl⟩ | ⟨x, ⟨h1, h2⟩, rfl⟩
  · simp only; omega
  · simp only; omega
theorem bfold_mem (f : Nat × Nat → Int) : ∀ (l : List (Nat × Nat)) (c : Option (Nat × Nat)) (p : Nat × Nat), l.foldl (bstep f) c = some p → c = some p ∨ p ∈ l
  | [], c, p, h => .inl h
  | q :: l, c, p, h => by
    rcases bfold_mem f l (bstep f c q) p h with h1 | h1
    · unfold bstep at h1
      split at h1
      · cases h1; exact .inr List.mem_cons_self
      · exact .inl h1
    · exact .inr (List.mem_cons_of_mem _ h1)
theorem bestTo_mem {f : Nat × Nat → Int} {m i k : Nat} {p : Nat × Nat} (hk : k ≤ m ∨ k ≤ i + 1) (h : bestTo f m i k = some p) : p.1 < p.2 ∧ p.2 < m := by
  rcases bfold_mem f _ _ _ h with h1 | h1
  · cases h1
  · exact mem_preP hk h1
theorem bfold_pos {f : Nat × Nat → Int} : ∀ {l : List (Nat × Nat)} {c : Option (Nat × Nat)}, (∀ p, c = some p → 0 < f p) → ∀ p, l.foldl (bstep f) c = some p → 0 < f p
  | [], c, hc, p, h => hc p h
  | q :: l, c, hc, p, h => by
    refine bfold_pos (l := l) (c := bstep f c q) ?_ p h
    intro r hr
    unfold bstep at hr
    split at hr
    · rename_i h1
      cases hr
      cases c with
      | none => exact h1
      | some s => have := hc s rfl; simp only [bval] at h1; omega
    · exact hc r hr
theorem bestTo_pos {f : Nat × Nat → Int} {m i k : Nat} {p : Nat × Nat} (h : bestTo f m i k = some p) : 0 < f p := bfold_pos (by intro p h; cases h) p h
theorem bfold_congr {f g : Nat × Nat → Int} : ∀ {l : List (Nat × Nat)} {c : Option (Nat × Nat)}, (∀ p ∈ l, f p = g p) → (∀ p, c = some p → f p = g p) → l.foldl (bstep f) c = l.foldl (bstep g) c
  | [], _, _, _ => rfl
  | q :: l, c, h, hc => by
    have hv : bval f c = bval g c := by
      cases c with
      | none => rfl
      | some s => exact hc s rfl
    have e : bstep f c q = bstep g c q := by unfold bstep; rw [hv, h q List.mem_cons_self]
    show l.foldl (bstep f) (bstep f c q) = l.foldl (bstep g) (bstep g c q)
    rw [e]
    refine bfold_congr (fun p hp => h p (List.mem_cons_of_mem _ hp)) fun p hp => ?_
    unfold bstep at hp
    split at hp
    · cases hp; exact h q List.mem_cons_self
    · exact hc p hp
theorem bestTo_congr {f g : Nat × Nat → Int} {m i k : Nat} (hk : k ≤ m ∨ k ≤ i + 1) (h : ∀ p : Nat × Nat, p.1 < p.2 → p.2 < m → f p = g p) : bestTo f m i k = bestTo g m i k :=
  bfold_congr (fun p hp => h p (mem_preP hk hp).1 (mem_preP hk hp).2) (by intro p h; cases h)
/-- A pair that is greater than all others wins. -/
theorem bfold_top {f : Nat × Nat → Int} {p : Nat × Nat} (h0 : 0 < f p) : ∀ {l : List (Nat × Nat)} {c : Option (Nat × Nat)}, (∀ q ∈ l, q = p ∨ f q < f p) → (c = some p ∨ (p ∈ l ∧ bval f c < f p)) → l.foldl (bstep f) c = some p
  | [], c, _, hc => by rcases hc with h | ⟨h, _⟩
                       · exact h
                       · simp at h
  | q :: l, c, h, hc => by
    refine bfold_top h0 (l := l) (c := bstep f c q) (fun r hr => h r (List.mem_cons_of_mem _ hr)) ?_
    rcases hc with rfl | ⟨hm, hv⟩
    · left
      unfold bstep
      rw [if_neg]
      rcases h q List.mem_cons_self with rfl | hq
      · exact Int.lt_irrefl _
      · simp only [bval]; omega
    · rcases List.mem_cons.1 hm with rfl | hm
      · left; unfold bstep; rw [if_pos hv]
      · by_cases e : q = p
        · subst e; left; unfold bstep; rw [if_pos hv]
        · right
          refine ⟨hm, ?_⟩
          have hq : f q < f p := by
            rcases h q List.mem_cons_self with h1 | h1
            · exact absurd h1 e
            · exact h1
          unfold bstep
          split
          · exact hq
          · exact hv

def best (f : Nat × Nat → Int) (m : Nat) : Option (Nat × Nat) := bestTo f m m (m + 1)
theorem mem_full {m a b : Nat} (h : a < b) (hb : b < m) : (a, b) ∈ preP m m (m + 1) := by
  unfold preP rowP
  simp only [List.mem_append, List.mem_flatMap, List.mem_range, List.mem_map, List.mem_range'_1]
  exact .inl ⟨a, by omega, b, by omega, rfl⟩

/-! ### Joining two lists -/
abbrev Way := List Int × List Int
def seamW (W : Int → Int → Int) (w : Way) : Int := W (w.1.getD (w.1.length - 1) 0) (w.2.getD 0 0)
def waysW (a b : List Int) : List Way := [(a, b), (a, b.reverse), (a.reverse, b), (a.reverse, b.reverse)]
def wstep (W : Int → Int → Int) (c w : Way) : Way := if seamW W c < seamW W w then w else c
def pickW (W : Int → Int → Int) (a b : List Int) : Way := [(a, b.reverse), (a.reverse, b), (a.reverse, b.reverse)].foldl (wstep W) (a, b)
def joinW (W : Int → Int → Int) (a b : List Int) : List Int := (pickW W a b).1 ++ (pickW W a b).2
theorem wfold_mem (W : Int → Int → Int) : ∀ (l : List Way) (c : Way), l.foldl (wstep W) c = c ∨ l.foldl (wstep W) c ∈ l
  | [], c => .inl rfl
  | w :: l, c => by
    have h := wfold_mem W l (wstep W c w)
    show l.foldl (wstep W) (wstep W c w) = c ∨ _
    rcases h with h | h
    · unfold wstep at h
      split at h
      · right
        show l.foldl (wstep W) (wstep W c w) ∈ _
        unfold wstep; rw [if_pos ‹_›, h]; exact List.mem_cons_self
      · left; unfold wstep; rw [if_neg ‹_›]; exact h
    · exact .inr (List.mem_cons_of_mem _ h)
theorem pickW_mem (W : Int → Int → Int) (a b : List Int) : pickW W a b ∈ waysW a b := by
  rcases wfold_mem W [(a, b.reverse), (a.reverse, b), (a.reverse, b.reverse)] (a, b) with h | h
  · unfold pickW; rw [h]; exact List.mem_cons_self
  · exact List.mem_cons_of_mem _ h
theorem joinW_perm (W : Int → Int → Int) (a b : List Int) : (joinW W a b).Perm (a ++ b) := by
  have h := pickW_mem W a b
  unfold joinW
  simp only [waysW, List.mem_cons, List.mem_nil_iff, or_false] at h
  rcases h with h | h | h | h <;> rw [h]
  · exact (List.Perm.refl a).append (List.reverse_perm b)
  · exact (List.reverse_perm a).append (List.Perm.refl b)
  · exact (List.reverse_perm a).append (List.reverse_perm b)

/-! ### The rounds -/
def pairF (W : Int → Int → Int) (l : List (List Int)) (p : Nat × Nat) : Int := crossW W (l.getD p.1 []) (l.getD p.2 [])
def stepL (W : Int → Int → Int) (l : List (List Int)) : Option (List (List Int)) :=
  match best (pairF W l) l.length with
  | none => none
  | some p => some ((l.set p.1 (joinW W (l.getD p.1 []) (l.getD p.2 []))).eraseIdx p.2)
def orderL (W : Int → Int → Int) : Nat → List (List Int) → List Int
  | 0, l => l.flatten
  | n + 1, l => match stepL W l with
    | none => l.flatten
    | some l' => orderL W n l'
def startL (n : Nat) : List (List Int) := (List.range n).map fun (i : Nat) => [(i : Int)]
def orderF (W : Int → Int → Int) (n : Nat) : List Int := orderL W n (startL n)

theorem erase_perm {α : Type} : ∀ {l : List α} {i : Nat} (h : i < l.length), (l[i] :: l.eraseIdx i).Perm l
  | x :: l, 0, _ => by simp
  | x :: l, i + 1, h => by
    simp only [List.getElem_cons_succ, List.eraseIdx_cons_succ]
    exact (List.Perm.swap x _ _).trans ((erase_perm (by simpa using h)).cons x)
theorem perm_merge {l : List (List Int)} {a b : Nat} {z : List Int} (hab : a < b) (hb : b < l.length) (hz : z.Perm (l.getD a [] ++ l.getD b [])) :
    ((l.set a z).eraseIdx b).flatten.Perm l.flatten := by
  have ha : a < l.length := by omega
  have ea : l.getD a [] = l[a] := by simp [List.getD_eq_getElem?_getD, ha]
  have eb : l.getD b [] = l[b] := by simp [List.getD_eq_getElem?_getD, hb]
  rw [ea, eb] at hz
  have hb' : b < (l.set a z).length := by simpa using hb
  have h1 : ((l.set a z)[b] :: (l.set a z).eraseIdx b).Perm (l.set a z) := erase_perm hb'
  have e1 : (l.set a z)[b] = l[b] := List.getElem_set_ne (by omega) _
  rw [e1] at h1
  have ha' : a < (l.set a z).length := by simpa using ha
  have h2 : ((l.set a z)[a] :: (l.set a z).eraseIdx a).Perm (l.set a z) := erase_perm ha'
  rw [List.getElem_set_self] at h2
  have e2 : (l.set a z).eraseIdx a = l.eraseIdx a := by
    rw [List.eraseIdx_set_eq]
  rw [e2] at h2
  have h3 : (l[a] :: l.eraseIdx a).Perm l := erase_perm ha
  have f1 := h1.flatten
  have f2 := h2.flatten
  have f3 := h3.flatten
  simp only [List.flatten_cons] at f1 f2 f3
  -- y ++ R ~ F1 ; z ++ E ~ F1 ; x ++ E ~ F ; z ~ x ++ y
  have g1 : (l[b] ++ ((l.set a z).eraseIdx b).flatten).Perm (z ++ (l.eraseIdx a).flatten) := f1.trans f2.symm
  have g2 : (z ++ (l.eraseIdx a).flatten).Perm (l[b] ++ (l[a] ++ (l.eraseIdx a).flatten)) := by
    refine (hz.append_right _).trans ?_
    rw [← List.append_assoc]
    exact (List.perm_append_comm).append_right _
  exact (List.perm_append_left_iff _).1 ((g1.trans g2).trans ((List.perm_append_left_iff _).2 f3))

def InvL (n : Nat) (l : List (List Int)) : Prop := (∀ x ∈ l, x ≠ []) ∧ l.flatten.Perm ((List.range n).map fun (i : Nat) => (i : Int))
theorem nodup_range (n : Nat) : ((List.range n).map fun (i : Nat) => (i : Int)).Nodup := by
  refine List.Pairwise.map _ (fun a b h => ?_) List.nodup_range
  intro e; exact h (by exact_mod_cast e)
theorem InvL.nodup {n : Nat} {l : List (List Int)} (h : InvL n l) : l.flatten.Nodup := (h.2.nodup_iff).2 (nodup_range n)
theorem InvL.lt {n : Nat} {l : List (List Int)} (h : InvL n l) {x : List Int} (hx : x ∈ l) {i : Int} (hi : i ∈ x) : 0 ≤ i ∧ i < n := by
  have := h.2.mem_iff.1 (List.mem_flatten.2 ⟨x, hx, hi⟩)
  simp only [List.mem_map, List.mem_range] at this
  obtain ⟨k, hk, rfl⟩ := this
  omega
theorem InvL.length {n : Nat} {l : List (List Int)} (h : InvL n l) : l.length ≤ n := by
  have h1 : l.flatten.length = n := by have := h.2.length_eq; simpa using this
  have h2 : ∀ (l : List (List Int)), (∀ x ∈ l, x ≠ []) → l.length ≤ l.flatten.length := by
    intro l
    induction l with
    | nil => intro _; simp
    | cons x l ih =>
      intro hx
      have a := ih fun y hy => hx y (List.mem_cons_of_mem _ hy)
      have b := List.length_pos_iff.2 (hx x List.mem_cons_self)
      simp only [List.length_cons, List.flatten_cons, List.length_append]
      omega
  have := h2 l h.1
  omega
theorem startL_inv (n : Nat) : InvL n (startL n) := by
  refine ⟨fun x hx => ?_, ?_⟩
  · unfold startL at hx
    obtain ⟨i, _, rfl⟩ := List.mem_map.1 hx
    simp
  · have : (startL n).flatten = (List.range n).map fun (i : Nat) => (i : Int) := by
      unfold startL
      induction List.range n with
      | nil => rfl
      | cons a l ih => simp only [List.map_cons, List.flatten_cons, ih]; rfl
    rw [this]
theorem stepL_len {W : Int → Int → Int} {l l' : List (List Int)} (h : stepL W l = some l') : l'.length + 1 = l.length := by
  unfold stepL at h
  split at h
  · cases h
  · rename_i p hp
    cases h
    have := bestTo_mem (.inr (by omega)) hp
    rw [List.length_eraseIdx, List.length_set, if_pos (by omega)]
    omega
theorem joinW_ne {W : Int → Int → Int} {a b : List Int} (h : a ≠ []) : joinW W a b ≠ [] := by
  intro e
  have := (joinW_perm W a b).length_eq
  rw [e] at this
  simp only [List.length_nil, List.length_append] at this
  have := List.length_pos_iff.2 h
  omega
theorem stepL_inv {W : Int → Int → Int} {n : Nat} {l l' : List (List Int)} (hi : InvL n l) (h : stepL W l = some l') : InvL n l' := by
  unfold stepL at h
  split at h
  · cases h
  · rename_i p hp
    cases h
    have hm := bestTo_mem (.inr (by omega)) hp
    refine ⟨fun x hx => ?_, (perm_merge hm.1 hm.2 (joinW_perm W _ _)).trans hi.2⟩
    have h1 := List.mem_of_mem_eraseIdx hx
    rcases List.mem_or_eq_of_mem_set h1 with h2 | rfl
    · exact hi.1 x h2
    · refine joinW_ne (hi.1 _ ?_)
      exact getD_memL [] (by omega)
theorem orderL_perm {W : Int → Int → Int} {n : Nat} : ∀ {k : Nat} {l : List (List Int)}, InvL n l → (orderL W k l).Perm ((List.range n).map fun (i : Nat) => (i : Int))
  | 0, _, h => h.2
  | k + 1, l, h => by
    unfold orderL
    split
    · exact h.2
    · rename_i l' hs
      exact orderL_perm (stepL_inv h hs)
theorem orderF_perm (W : Int → Int → Int) (n : Nat) : (orderF W n).Perm ((List.range n).map fun (i : Nat) => (i : Int)) := orderL_perm (startL_inv n)

/-! ### Sums -/
theorem sumBy_append {α : Type} (f : α → Int) : ∀ (a b : List α), sumBy f (a ++ b) = sumBy f a + sumBy f b
  | [], b => by simp [sumBy]
  | x :: a, b => by simp only [List.cons_append, sumBy, sumBy_append f a b]; omega
theorem sumBy_congr {α : Type} {f g : α → Int} : ∀ {l : List α}, (∀ x ∈ l, f x = g x) → sumBy f l = sumBy g l
  | [], _ => rfl
  | x :: l, h => by simp only [sumBy]; rw [h x List.mem_cons_self, sumBy_congr fun y hy => h y (List.mem_cons_of_mem _ hy)]
theorem sumBy_add {α : Type} (f g : α → Int) : ∀ (l : List α), sumBy (fun x => f x + g x) l = sumBy f l + sumBy g l
  | [] => rfl
  | x :: l => by simp only [sumBy, sumBy_add f g l]; omega
theorem sumBy_zero {α : Type} : ∀ (l : List α), sumBy (fun _ => 0) l = 0
  | [] => rfl
  | x :: l => by simp only [sumBy, sumBy_zero l]; omega
theorem sumBy_map {α β : Type} (f : β → Int) (g : α → β) : ∀ (l : List α), sumBy f (l.map g) = sumBy (fun x => f (g x)) l
  | [] => rfl
  | x :: l => by simp only [List.map_cons, sumBy, sumBy_map f g l]
theorem sumBy_perm {α : Type} {f : α → Int} {a b : List α} (h : a.Perm b) : sumBy f a = sumBy f b := by
  induction h with
  | nil => rfl
  | cons x _ ih => simp only [sumBy, ih]
  | swap x y l => simp only [sumBy]; omega
  | trans _ _ h1 h2 => exact h1.trans h2
theorem sumBy_ind {k : Int} {q : Int} : ∀ {l : List Int}, l.Nodup → sumBy (fun y => if q = y then k else 0) l = if q ∈ l then k else 0
  | [], _ => by simp [sumBy]
  | y :: l, h => by
    have h1 := List.nodup_cons.1 h
    simp only [sumBy]
    rw [sumBy_ind h1.2]
    by_cases e : q = y
    · subst e
      rw [if_pos rfl, if_neg h1.1, if_pos List.mem_cons_self]; omega
    · rw [if_neg e]
      by_cases hm : q ∈ l
      · rw [if_pos hm, if_pos (List.mem_cons_of_mem _ hm)]; omega
      · rw [if_neg hm, if_neg]
        · rfl
        · intro h2
          rcases List.mem_cons.1 h2 with h3 | h3
          · exact e h3
          · exact hm h3
theorem sum2_ind {k : Int} {p q : Int} {a b : List Int} (ha : a.Nodup) (hb : b.Nodup) :
    sumBy (fun x => sumBy (fun y => if p = x ∧ q = y then k else 0) b) a = if p ∈ a ∧ q ∈ b then k else 0 := by
  have h1 : ∀ x ∈ a, sumBy (fun y => if p = x ∧ q = y then k else 0) b = if p = x then (if q ∈ b then k else 0) else 0 := by
    intro x _
    by_cases e : p = x
    · rw [if_pos e, ← sumBy_ind hb]
      exact sumBy_congr fun y _ => by simp [e]
    · rw [if_neg e]
      exact (sumBy_congr (g := fun _ => 0) fun y _ => by simp [e]).trans (sumBy_zero b)
  rw [sumBy_congr h1, sumBy_ind ha]
  by_cases h2 : p ∈ a <;> by_cases h3 : q ∈ b <;> simp [h2, h3]
/-- The sum of the weights over two lists without a common number is the sum over the calls between them. -/
theorem cross_betw {a b : List Int} (h : (a ++ b).Nodup) : ∀ (c : List Near), crossW (wt c) a b = betw c a b := by
  have ha := (List.nodup_append.1 h).1
  have hb := (List.nodup_append.1 h).2.1
  have hd : ∀ x ∈ a, ∀ y ∈ b, x ≠ y := (List.nodup_append.1 h).2.2
  intro c
  have e1 : crossW (wt c) a b = sumBy (fun x => sumBy (fun y => sumBy (wt1 x y) c) b) a :=
    sumBy_congr fun x hx => sumBy_congr fun y hy => by unfold wt; rw [if_neg (hd x hx y hy)]
  rw [e1]
  unfold betw
  induction c with
  | nil => simp only [sumBy]; rw [sumBy_congr (g := fun _ => 0) fun x _ => sumBy_zero b]; exact sumBy_zero a
  | cons z c ih =>
    simp only [sumBy]
    have e2 : crossW (wt c) a b = sumBy (fun x => sumBy (fun y => sumBy (wt1 x y) c) b) a :=
      sumBy_congr fun x hx => sumBy_congr fun y hy => by unfold wt; rw [if_neg (hd x hx y hy)]
    rw [sumBy_congr (g := fun x => sumBy (fun y => wt1 x y z) b + sumBy (fun y => sumBy (wt1 x y) c) b) fun x _ => sumBy_add _ _ b, sumBy_add, ih e2]
    congr 1
    have e3 : ∀ x ∈ a, sumBy (fun y => wt1 x y z) b = sumBy (fun y => if z.1 = x ∧ z.2.1 = y then z.2.2 else 0) b + sumBy (fun y => if z.1 = y ∧ z.2.1 = x then z.2.2 else 0) b := by
      intro x hx
      rw [← sumBy_add]
      refine sumBy_congr fun y hy => ?_
      have := hd x hx y hy
      unfold wt1
      by_cases p1 : z.1 = x ∧ z.2.1 = y
      · rw [if_pos (.inl p1), if_pos p1, if_neg]
        · omega
        · intro p2; exact this (p1.1.symm.trans p2.1)
      · rw [if_neg p1]
        by_cases p2 : z.1 = y ∧ z.2.1 = x
        · rw [if_pos (.inr p2), if_pos p2]; omega
        · rw [if_neg p2, if_neg]
          · rfl
          · intro h; rcases h with h | h
            · exact p1 h
            · exact p2 h
    have e4 : ∀ x ∈ a, sumBy (fun y => if z.1 = y ∧ z.2.1 = x then z.2.2 else 0) b = sumBy (fun y => if z.2.1 = x ∧ z.1 = y then z.2.2 else 0) b := fun x _ => sumBy_congr fun y _ => by
      by_cases p1 : z.1 = y <;> by_cases p2 : z.2.1 = x <;> simp [p1, p2]
    rw [sumBy_congr e3, sumBy_add, sumBy_congr e4, sum2_ind ha hb, sum2_ind ha hb]
    unfold betw1
    by_cases p1 : z.1 ∈ a ∧ z.2.1 ∈ b
    · have p2 : ¬ (z.2.1 ∈ a ∧ z.1 ∈ b) := fun p2 => hd _ p1.1 _ p2.2 rfl
      rw [if_pos p1, if_neg p2, if_pos (.inl p1)]; omega
    · rw [if_neg p1]
      by_cases p2 : z.2.1 ∈ a ∧ z.1 ∈ b
      · rw [if_pos p2, if_pos (.inr ⟨p2.2, p2.1⟩)]; omega
      · have p3 : ¬ ((z.1 ∈ a ∧ z.2.1 ∈ b) ∨ (z.1 ∈ b ∧ z.2.1 ∈ a)) := by
          rintro (h | h)
          · exact p1 h
          · exact p2 ⟨h.2, h.1⟩
        rw [if_neg p2, if_neg p3]; omega

/-- Two lists of a state have no common number. -/
theorem InvL.two {n : Nat} {l : List (List Int)} (h : InvL n l) {a b : Nat} (hab : a < b) (hb : b < l.length) : (l.getD a [] ++ l.getD b []).Nodup := by
  have hp := perm_merge (l := l) (z := l.getD a [] ++ l.getD b []) hab hb (.refl _)
  have h1 : (((l.set a (l.getD a [] ++ l.getD b [])).eraseIdx b).flatten).Nodup := (hp.nodup_iff).2 h.nodup
  have h2 : (l.getD a [] ++ l.getD b []) ∈ (l.set a (l.getD a [] ++ l.getD b [])).eraseIdx b := by
    rw [List.mem_eraseIdx_iff_getElem]
    exact ⟨a, by simp; omega, by omega, by simp⟩
  exact (List.pairwise_flatten.1 h1).1 _ h2

/-! ### The calls turned round -/
def turnC (c : List Near) : List Near := (c.map fun x => (x.2.1, x.1, x.2.2)).reverse
theorem wt_turn (c : List Near) (a b : Int) : wt (turnC c) a b = wt c a b := by
  unfold wt turnC
  split
  · rfl
  · rw [sumBy_perm (List.reverse_perm _), sumBy_map]
    refine sumBy_congr fun x _ => ?_
    unfold wt1
    simp only
    by_cases p1 : x.1 = a <;> by_cases p2 : x.2.1 = b <;> by_cases p3 : x.1 = b <;> by_cases p4 : x.2.1 = a <;> simp [p1, p2, p3, p4]
theorem wt_turn' (c : List Near) : wt (turnC c) = wt c := funext fun a => funext fun b => wt_turn c a b

/-! ### The closest two are next to each other -/
def NextTo (a b : Int) (l : List Int) : Prop := ∃ p s, l = p ++ a :: b :: s ∨ l = p ++ b :: a :: s
theorem NextTo.rev {a b : Int} {l : List Int} (h : NextTo a b l) : NextTo a b l.reverse := by
  obtain ⟨p, s, rfl | rfl⟩ := h
  · exact ⟨s.reverse, p.reverse, .inr (by simp)⟩
  · exact ⟨s.reverse, p.reverse, .inl (by simp)⟩
theorem NextTo.left {a b : Int} {l : List Int} (h : NextTo a b l) (m : List Int) : NextTo a b (l ++ m) := by
  obtain ⟨p, s, rfl | rfl⟩ := h
  · exact ⟨p, s ++ m, .inl (by simp)⟩
  · exact ⟨p, s ++ m, .inr (by simp)⟩
theorem NextTo.right {a b : Int} {l : List Int} (h : NextTo a b l) (m : List Int) : NextTo a b (m ++ l) := by
  obtain ⟨p, s, rfl | rfl⟩ := h
  · exact ⟨m ++ p, s, .inl (by simp)⟩
  · exact ⟨m ++ p, s, .inr (by simp)⟩
theorem NextTo.join {W : Int → Int → Int} {a b : Int} {x y : List Int} (h : NextTo a b x ∨ NextTo a b y) : NextTo a b (joinW W x y) := by
  have hp := pickW_mem W x y
  unfold joinW
  simp only [waysW, List.mem_cons, List.mem_nil_iff, or_false] at hp
  rcases h with h | h <;> rcases hp with e | e | e | e <;> rw [e]
  · exact h.left _
  · exact h.left _
  · exact h.rev.left _
  · exact h.rev.left _
  · exact h.right _
  · exact h.rev.right _
  · exact h.right _
  · exact h.rev.right _
theorem NextTo.flat {a b : Int} {l : List (List Int)} {x : List Int} (hx : x ∈ l) (h : NextTo a b x) : NextTo a b l.flatten := by
  obtain ⟨p, s, rfl⟩ := List.append_of_mem hx
  simp only [List.flatten_append, List.flatten_cons]
  exact (h.left _).right _
theorem next_step {W : Int → Int → Int} {a b : Int} {l l' : List (List Int)} (h : stepL W l = some l') (hx : ∃ x ∈ l, NextTo a b x) : ∃ x ∈ l', NextTo a b x := by
  obtain ⟨x, hx, hn⟩ := hx
  unfold stepL at h
  split at h
  · cases h
  · rename_i p hp
    cases h
    have hm := bestTo_mem (.inr (by omega)) hp
    obtain ⟨i, hi, rfl⟩ := List.getElem_of_mem hx
    by_cases e : i = p.1 ∨ i = p.2
    · refine ⟨joinW W (l.getD p.1 []) (l.getD p.2 []), ?_, NextTo.join ?_⟩
      · rw [List.mem_eraseIdx_iff_getElem]
        exact ⟨p.1, by simp; omega, by omega, by simp⟩
      · rcases e with e | e
        · left; rw [← e]; simpa [List.getD_eq_getElem?_getD, hi] using hn
        · right; rw [← e]; simpa [List.getD_eq_getElem?_getD, hi] using hn
    · refine ⟨l[i], ?_, hn⟩
      rw [List.mem_eraseIdx_iff_getElem]
      exact ⟨i, by simpa using hi, by omega, by rw [List.getElem_set_ne (by omega)]⟩
theorem next_order {W : Int → Int → Int} {a b : Int} : ∀ {k : Nat} {l : List (List Int)}, (∃ x ∈ l, NextTo a b x) → NextTo a b (orderL W k l)
  | 0, _, ⟨_, hx, h⟩ => h.flat hx
  | k + 1, l, h => by
    unfold orderL
    split
    · obtain ⟨x, hx, hn⟩ := h; exact hn.flat hx
    · rename_i l' hs
      exact next_order (next_step hs h)
theorem start_getD {n i : Nat} (h : i < n) : (startL n).getD i [] = [(i : Int)] := by simp [startL, List.getD_eq_getElem?_getD, h]
/-- Two functions whose weight is greater than that of every other pair are next to each other. -/
theorem closest {W : Int → Int → Int} {n a b : Nat} (hab : a < b) (hb : b < n) (h0 : 0 < W a b)
    (h : ∀ x y : Nat, x < y → y < n → ¬ (x = a ∧ y = b) → W x y < W a b) : NextTo a b (orderF W n) := by
  have hf : ∀ p : Nat × Nat, p.1 < p.2 → p.2 < n → pairF W (startL n) p = W p.1 p.2 := by
    intro p h1 h2
    unfold pairF crossW
    rw [start_getD (show p.1 < n by omega), start_getD h2]
    simp [sumBy]
  have hl : (startL n).length = n := by simp [startL]
  have hb1 : best (pairF W (startL n)) (startL n).length = some (a, b) := by
    rw [hl]
    unfold best bestTo
    refine bfold_top (by rw [hf (a, b) hab hb]; exact h0) (fun q hq => ?_) (.inr ⟨mem_full hab hb, ?_⟩)
    · have hm := mem_preP (.inr (by omega)) hq
      by_cases e : q.1 = a ∧ q.2 = b
      · left; exact Prod.ext e.1 e.2
      · right; rw [hf q hm.1 hm.2, hf (a, b) hab hb]; exact h _ _ hm.1 hm.2 e
    · rw [hf (a, b) hab hb]; exact h0
  unfold orderF
  obtain ⟨m, rfl⟩ : ∃ m, n = m + 1 := ⟨n - 1, by omega⟩
  unfold orderL stepL
  rw [hb1]
  simp only
  refine next_order ⟨joinW W ((startL (m + 1)).getD a []) ((startL (m + 1)).getD b []), ?_, ?_⟩
  · rw [List.mem_eraseIdx_iff_getElem]
    exact ⟨a, by simp [hl]; omega, by omega, by simp⟩
  · rw [start_getD (show a < m + 1 by omega), start_getD hb]
    have hp := pickW_mem W [(a : Int)] [(b : Int)]
    unfold joinW
    simp only [waysW, List.mem_cons, List.mem_nil_iff, or_false, List.reverse_singleton, or_self] at hp
    rw [hp]
    exact ⟨[], [], .inl rfl⟩

end Go.Eng

/- Plain laws: counts that are computed from the counts of other edges. -/
namespace Go.Eng

/-! ### Sums -/
def sumN (f : Nat → Int) : Nat → Int
  | 0 => 0
  | n + 1 => sumN f n + f n
theorem sumN_congr {f g : Nat → Int} : ∀ {n : Nat}, (∀ i, i < n → f i = g i) → sumN f n = sumN g n
  | 0, _ => rfl
  | n + 1, h => by
    simp only [sumN]
    rw [sumN_congr fun i hi => h i (by omega), h n (by omega)]
theorem sumN_zero {f : Nat → Int} {n : Nat} (h : ∀ i, i < n → f i = 0) : sumN f n = 0 := by
  induction n with
  | zero => rfl
  | succ n ih => simp only [sumN]; rw [ih fun i hi => h i (by omega), h n (by omega)]; rfl
theorem sumN_add (f g : Nat → Int) : ∀ n, sumN (fun i => f i + g i) n = sumN f n + sumN g n
  | 0 => rfl
  | n + 1 => by simp only [sumN]; rw [sumN_add f g n]; omega
theorem sumN_sub (f g : Nat → Int) : ∀ n, sumN (fun i => f i - g i) n = sumN f n - sumN g n
  | 0 => rfl
  | n + 1 => by simp only [sumN]; rw [sumN_sub f g n]; omega
theorem sumN_mul (f : Nat → Int) (c : Int) : ∀ n, sumN (fun i => f i * c) n = sumN f n * c
  | 0 => by simp [sumN]
  | n + 1 => by simp only [sumN]; rw [sumN_mul f c n, Int.add_mul]
theorem sumN_swap (F : Nat → Nat → Int) (n : Nat) : ∀ m, sumN (fun v => sumN (fun i => F v i) n) m = sumN (fun i => sumN (fun v => F v i) m) n
  | 0 => by simp only [sumN]; exact (sumN_zero fun _ _ => rfl).symm
  | m + 1 => by
    simp only [sumN]
    rw [sumN_swap F n m, ← sumN_add]
theorem sumN_le {f g : Nat → Int} : ∀ {n : Nat}, (∀ i, i < n → f i ≤ g i) → sumN f n ≤ sumN g n
  | 0, _ => Int.le_refl _
  | n + 1, h => by
    have := sumN_le (n := n) fun i hi => h i (by omega)
    have := h n (by omega)
    simp only [sumN]; omega
theorem sumN_bd {f g : Nat → Int} : ∀ {n : Nat}, (∀ i, i < n → -(g i) ≤ f i ∧ f i ≤ g i) → -(sumN g n) ≤ sumN f n ∧ sumN f n ≤ sumN g n
  | 0, _ => ⟨Int.le_refl _, Int.le_refl _⟩
  | n + 1, h => by
    have := sumN_bd (n := n) fun i hi => h i (by omega)
    have := h n (by omega)
    simp only [sumN]; omega
theorem sumN_const (c : Int) : ∀ n : Nat, sumN (fun _ => c) n = n * c
  | 0 => by simp [sumN]
  | n + 1 => by simp only [sumN]; rw [sumN_const c n, Int.natCast_add, Int.add_mul]; simp
theorem sumN_one {f : Nat → Int} {a : Nat} : ∀ {n : Nat}, a < n → (∀ i, i < n → i ≠ a → f i = 0) → sumN f n = f a
  | 0, h, _ => by omega
  | n + 1, h, h2 => by
    simp only [sumN]
    by_cases e : a = n
    · rw [sumN_zero fun i hi => h2 i (by omega) (by omega), e]; omega
    · rw [sumN_one (show a < n by omega) fun i hi => h2 i (by omega), h2 n (by omega) (by omega)]; omega
/-- One place written anew. -/
theorem sumN_upd {f g : Nat → Int} {a n : Nat} (ha : a < n) (h : ∀ i, i < n → i ≠ a → g i = f i) : sumN g n = sumN f n - f a + g a := by
  have := sumN_sub g f n
  have h2 := sumN_one (f := fun i => g i - f i) ha fun i hi hne => by rw [h i hi hne]; omega
  omega

/-- What an edge does at a node: it leaves, or it enters. -/
def cfN (v : Nat) (e : NE) : Int := (if e.1 = v then 1 else 0) - (if e.2 = v then 1 else 0)
theorem sum_ind (p : Nat → Bool) (a : Nat) (m : Nat) (ha : a < m) : sumN (fun v => if p v = true then (if a = v then (1 : Int) else 0) else 0) m = if p a = true then 1 else 0 := by
  rw [sumN_one ha fun i hi hne => by
    split
    · rw [if_neg (Ne.symm hne)]
    · rfl]
  simp
/-- Over a set of nodes an edge counts by its ends. -/
theorem sum_cf (p : Nat → Bool) (e : NE) (m : Nat) (h1 : e.1 < m) (h2 : e.2 < m) : sumN (fun v => if p v = true then cfN v e else 0) m = (if p e.1 = true then 1 else 0) - (if p e.2 = true then 1 else 0) := by
  rw [← sum_ind p e.1 m h1, ← sum_ind p e.2 m h2, ← sumN_sub]
  refine sumN_congr fun v _ => ?_
  unfold cfN
  split
  · rfl
  · rfl

/-- What leaves a node more than enters it, over the edges that are known. -/
def res (E : Nat → NE) (n : Nat) (kn : Nat → Bool) (c : Nat → Int) (v : Nat) : Int := sumN (fun i => if kn i = true then cfN v (E i) * c i else 0) n
/-- Over a set of nodes. -/
theorem res_sum (E : Nat → NE) (n M : Nat) (kn : Nat → Bool) (c : Nat → Int) (hE : ∀ i, i < n → (E i).1 < M ∧ (E i).2 < M) (p : Nat → Bool) :
    sumN (fun v => if p v = true then res E n kn c v else 0) M = sumN (fun i => if kn i = true then ((if p (E i).1 = true then 1 else 0) - (if p (E i).2 = true then 1 else 0)) * c i else 0) n := by
  have h1 : sumN (fun v => if p v = true then res E n kn c v else 0) M = sumN (fun v => sumN (fun i => if p v = true then (if kn i = true then cfN v (E i) * c i else 0) else 0) n) M := sumN_congr fun v _ => by
    split
    · rfl
    · exact (sumN_zero fun _ _ => rfl).symm
  rw [h1, sumN_swap]
  refine sumN_congr fun i hi => ?_
  obtain ⟨e1, e2⟩ := hE i hi
  split
  · rw [← sum_cf p (E i) M e1 e2, ← sumN_mul]
    refine sumN_congr fun v _ => ?_
    split
    · rfl
    · simp
  · exact sumN_zero fun v _ => by split <;> rfl

def updF {α : Type} (f : Nat → α) (i : Nat) (x : α) : Nat → α := fun j => if j = i then x else f j
theorem updF_same {α : Type} (f : Nat → α) (i : Nat) (x : α) : updF f i x i = x := if_pos rfl
theorem updF_ne {α : Type} (f : Nat → α) {i j : Nat} (x : α) (h : j ≠ i) : updF f i x j = f j := if_neg h

/-- Counts on all edges are balanced. -/
def Bal (E : Nat → NE) (n M : Nat) (c : Nat → Int) : Prop := ∀ v, v < M → res E n (fun _ => true) c v = 0

/-! ### The state of the computation -/
structure InvS (E : Nat → NE) (n M : Nat) (k0 : Nat → Bool) (c0 : Nat → Int) (kn : Nat → Bool) (c : Nat → Int) (rt : Nat → Nat) : Prop where
  old : ∀ i, i < n → k0 i = true → kn i = true ∧ c i = c0 i
  same : ∀ i, i < n → kn i = true → k0 i = false → rt (E i).1 = rt (E i).2
  zero : ∀ v, v < M → rt v ≠ v → res E n kn c v = 0
  open' : ∀ i, i < n → kn i = false → rt (E i).1 = (E i).1 ∧ rt (E i).2 = (E i).2
  bd : ∀ i, i < n → -(sumN (fun i => max (c0 i) (-(c0 i))) n) ≤ c i ∧ c i ≤ sumN (fun i => max (c0 i) (-(c0 i))) n
  agree : ∀ d : Nat → Int, Bal E n M d → (∀ i, i < n → k0 i = true → d i = c0 i) → ∀ i, i < n → kn i = true → c i = d i

theorem InvS.resBd {E : Nat → NE} {n M : Nat} {k0 : Nat → Bool} {c0 : Nat → Int} {kn : Nat → Bool} {c : Nat → Int} {rt : Nat → Nat} (h : InvS E n M k0 c0 kn c rt) (hE : ∀ i, i < n → (E i).1 < M ∧ (E i).2 < M) {v : Nat} (hv : v < M) :
    -(sumN (fun i => max (c0 i) (-(c0 i))) n) ≤ res E n kn c v ∧ res E n kn c v ≤ sumN (fun i => max (c0 i) (-(c0 i))) n := by
  have hB : 0 ≤ sumN (fun i => max (c0 i) (-(c0 i))) n := by
    have := sumN_le (f := fun _ => 0) (g := fun i => max (c0 i) (-(c0 i))) (n := n) fun i _ => by omega
    rwa [sumN_zero fun _ _ => rfl] at this
  by_cases hr : rt v = v
  · have h1 := res_sum E n M kn c hE (fun u => decide (rt u = v))
    have h2 : sumN (fun u => if decide (rt u = v) = true then res E n kn c u else 0) M = res E n kn c v := by
      rw [sumN_one hv fun u hu hne => ?_]
      · simp [hr]
      · by_cases e : rt u = v
        · rw [if_pos (by simpa using e)]
          exact h.zero u hu (by omega)
        · rw [if_neg (by simpa using e)]
    rw [h2] at h1
    rw [h1]
    refine sumN_bd fun i hi => ?_
    by_cases hk : kn i = true
    · rw [if_pos hk]
      cases hk0 : k0 i with
      | true =>
        rw [(h.old i hi hk0).2]
        generalize c0 i = x
        split <;> split <;> omega
      | false =>
        have := h.same i hi hk hk0
        rw [this]
        split <;> simp <;> omega
    · rw [if_neg hk]; omega
  · rw [h.zero v hv hr]; omega

/-- One edge solved at node v. -/
theorem InvS.step {E : Nat → NE} {n M : Nat} {k0 : Nat → Bool} {c0 : Nat → Int} {kn : Nat → Bool} {c : Nat → Int} {rt : Nat → Nat} (h : InvS E n M k0 c0 kn c rt) (hE : ∀ i, i < n → (E i).1 < M ∧ (E i).2 < M) {v o : Nat} (hv : v < M) (ho : o < n)
    (hk : kn o = false) (hcf : cfN v (E o) ≠ 0) (hu : ∀ i, i < n → kn i = false → i ≠ o → cfN v (E i) = 0) (hnl : ∀ i, i < n → k0 i = false → (E i).1 ≠ (E i).2) :
    ∃ rt', InvS E n M k0 c0 (updF kn o true) (updF c o (-(cfN v (E o)) * res E n kn c v)) rt' := by
  have hk0 : k0 o = false := by
    cases h0 : k0 o with
    | false => rfl
    | true => rw [(h.old o ho h0).1] at hk; cases hk
  obtain ⟨r1, r2⟩ := h.open' o ho hk
  have hne := hnl o ho hk0
  -- the other end
  have hends : ((E o).1 = v ∧ cfN v (E o) = 1 ∧ (E o).2 ≠ v) ∨ ((E o).2 = v ∧ cfN v (E o) = -1 ∧ (E o).1 ≠ v) := by
    unfold cfN at hcf ⊢
    by_cases a1 : (E o).1 = v <;> by_cases a2 : (E o).2 = v
    · exfalso; exact hne (a1.trans a2.symm)
    · left; simp [a1, a2]
    · right; simp [a1, a2]
    · exfalso; simp [a1, a2] at hcf
  have hw : ∃ w, w ≠ v ∧ rt w = w ∧ rt v = v ∧ ((E o).1 = v ∧ (E o).2 = w ∨ (E o).1 = w ∧ (E o).2 = v) := by
    rcases hends with ⟨a, b, d⟩ | ⟨a, b, d⟩
    · exact ⟨(E o).2, d, r2, a ▸ r1, .inl ⟨a, rfl⟩⟩
    · exact ⟨(E o).1, d, r1, a ▸ r2, .inr ⟨rfl, a⟩⟩
  obtain ⟨w, hwv, hrw, hrv, hwe⟩ := hw
  have hcfo : cfN v (E o) * cfN v (E o) = 1 := by rcases hends with ⟨_, b, _⟩ | ⟨_, b, _⟩ <;> rw [b] <;> rfl
  have hcfu : ∀ u, u ≠ v → u ≠ w → cfN u (E o) = 0 := fun u h1 h2 => by
    unfold cfN
    rcases hwe with ⟨a, b⟩ | ⟨a, b⟩ <;> rw [a, b, if_neg (Ne.symm ‹_›), if_neg (Ne.symm ‹_›)] <;> rfl
  -- what leaves the nodes
  have hres : ∀ u, res E n (updF kn o true) (updF c o (-(cfN v (E o)) * res E n kn c v)) u = res E n kn c u + cfN u (E o) * (-(cfN v (E o)) * res E n kn c v) := fun u => by
    unfold res
    rw [sumN_upd (f := fun i => if kn i = true then cfN u (E i) * c i else 0) ho fun i hi hne => by rw [updF_ne _ _ hne, updF_ne _ _ hne]]
    rw [updF_same, updF_same, hk]
    simp
  have hresv : res E n (updF kn o true) (updF c o (-(cfN v (E o)) * res E n kn c v)) v = 0 := by
    rw [hres]
    have : cfN v (E o) * (-(cfN v (E o)) * res E n kn c v) = -(res E n kn c v) := by
      rw [← Int.mul_assoc, Int.mul_neg, hcfo]; omega
    omega
  refine ⟨mrg rt v w, fun i hi h0 => ?_, fun i hi h1 h0 => ?_, fun u hu2 hne2 => ?_, fun i hi h1 => ?_, fun i hi => ?_, fun d hd hd0 i hi h1 => ?_⟩
  · have hio : i ≠ o := fun e => by rw [e, hk0] at h0; cases h0
    rw [updF_ne _ _ hio, updF_ne _ _ hio]
    exact h.old i hi h0
  · by_cases e : i = o
    · subst e
      unfold mrg
      rcases hwe with ⟨a, b⟩ | ⟨a, b⟩ <;> rw [a, b, hrv, hrw, if_pos rfl, if_neg hwv]
    · rw [updF_ne _ _ e] at h1
      have := h.same i hi h1 h0
      unfold mrg; rw [this]
  · by_cases e : u = v
    · rw [e]; exact hresv
    · unfold mrg at hne2
      have hru : rt u ≠ u := fun e2 => by
        rw [hrv, e2, if_neg e] at hne2; exact hne2 rfl
      have huw : u ≠ w := fun e2 => hru (e2 ▸ hrw)
      rw [hres, hcfu u e huw, h.zero u hu2 hru]; simp
  · have hio : i ≠ o := fun e => by rw [e, updF_same] at h1; cases h1
    rw [updF_ne _ _ hio] at h1
    obtain ⟨q1, q2⟩ := h.open' i hi h1
    have hc := hu i hi h1 hio
    have hi0 : k0 i = false := by
      cases h0 : k0 i with
      | false => rfl
      | true => rw [(h.old i hi h0).1] at h1; cases h1
    have hnl2 := hnl i hi hi0
    have hnv : (E i).1 ≠ v ∧ (E i).2 ≠ v := by
      unfold cfN at hc
      by_cases a1 : (E i).1 = v <;> by_cases a2 : (E i).2 = v
      · exact absurd (a1.trans a2.symm) hnl2
      · simp [a1, a2] at hc
      · simp [a1, a2] at hc
      · exact ⟨a1, a2⟩
    unfold mrg
    rw [hrv, q1, q2, if_neg hnv.1, if_neg hnv.2]
    exact ⟨rfl, rfl⟩
  · by_cases e : i = o
    · rw [e, updF_same]
      have := h.resBd hE hv
      rcases hends with ⟨_, b, _⟩ | ⟨_, b, _⟩ <;> rw [b] <;> omega
    · rw [updF_ne _ _ e]; exact h.bd i hi
  · by_cases e : i = o
    · rw [e, updF_same]
      have hb := hd v hv
      have e1 : res E n (fun _ => true) d v = res E n kn c v + cfN v (E o) * d o := by
        unfold res
        have e2 : sumN (fun i => if kn i = true then cfN v (E i) * c i else 0) n = sumN (fun i => if i = o then 0 else cfN v (E i) * d i) n := sumN_congr fun j hj => by
          by_cases e3 : j = o
          · rw [if_pos e3, e3, hk]; rfl
          · rw [if_neg e3]
            cases h4 : kn j with
            | true => rw [if_pos rfl, h.agree d hd hd0 j hj h4]
            | false => rw [if_neg (by simp), hu j hj h4 e3]; simp
        rw [e2, sumN_upd (f := fun i => if i = o then 0 else cfN v (E i) * d i) (a := o) ho fun j hj hne => by simp [hne]]
        simp
      rw [e1] at hb
      rcases hends with ⟨_, b, _⟩ | ⟨_, b, _⟩ <;> rw [b] at hb ⊢ <;> omega
    · rw [updF_ne _ _ e] at h1 ⊢
      exact h.agree d hd hd0 i hi h1
end Go.Eng
