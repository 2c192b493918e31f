/- Plain laws of the order of functions: joining lists. -/
import Derived.Test.YtmbodncejejceaaBPS
set_option linter.all false

namespace Go.Eng

def crossW (W : Int → Int → Int) (a b : List Int) : Int := sumBy (fun x => sumBy (fun y => W x y) b) a

def bval (f : Nat × Nat → Int) : Option (Nat × Nat) → Int
  | none => 0
  | some p => f p
def bstep (f : Nat × Nat → Int) (cur : Option (Nat × Nat)) (p : Nat × Nat) : Option (Nat × Nat) := if bval f cur < f p then some p else cur
def rowP (i k : Nat) : List (Nat × Nat) := (List.range' (i + 1) (k - (i + 1))).map (fun j => (i, j))
def preP (m i k : Nat) : List (Nat × Nat) := (List.range i).flatMap (fun j => rowP j m) ++ rowP i k
def bestTo (f : Nat × Nat → Int) (m i k : Nat) : Option (Nat × Nat) := (preP m i k).foldl (bstep f) none
theorem bestTo_zero (f : Nat × Nat → Int) (m : Nat) : bestTo f m 0 1 = none := by simp [bestTo, preP, rowP]
theorem bestTo_succ (f : Nat × Nat → Int) (m i k : Nat) (h : i + 1 ≤ k) : bestTo f m i (k + 1) = bstep f (bestTo f m i k) (i, k) := by
  have : rowP i (k + 1) = rowP i k ++ [(i, k)] := by
    unfold rowP
    rw [show k + 1 - (i + 1) = (k - (i + 1)) + 1 by omega, List.range'_concat, List.map_append]
    simp; omega
  unfold bestTo preP
  rw [this, ← List.append_assoc, List.foldl_append]
  rfl
theorem bestTo_row (f : Nat × Nat → Int) (m i k : Nat) (h : m ≤ k) (h2 : k ≤ m ∨ k ≤ i + 1) : bestTo f m (i + 1) (i + 2) = bestTo f m i k := by
  have e : rowP i k = rowP i m := by
    unfold rowP
    rw [show k - (i + 1) = m - (i + 1) by omega]
  unfold bestTo preP
  rw [e, List.range_succ, List.flatMap_append]
  simp [rowP]
theorem mem_preP {m i k : Nat} {p : Nat × Nat} (hk : k ≤ m ∨ k ≤ i + 1) (h : p ∈ preP m i k) : p.1 < p.2 ∧ p.2 < m := by
  unfold preP rowP at h
  simp only [List.mem_append, List.mem_flatMap, List.mem_range, List.mem_map, List.mem_range'_1] at h
  rcases h with ⟨j, _, x, ⟨h1, h2⟩, rfl⟩ | ⟨x, ⟨h1, h2⟩, rfl⟩
  · simp only; omega
  · simp only; omega
theorem bfold_mem (f : Nat × Nat → Int) : ∀ (l : List (Nat × Nat)) (c : Option (Nat × Nat)) (p : Nat × Nat), l.foldl (bstep f) c = some p → c = some p ∨ p ∈ l
  | [], c, p, h => .inl h
  | q :: l, c, p, h => by
    rcases bfold_mem f l (bstep f c q) p h with h1 | h1
    · unfold bstep at h1
      split at h1
      · cases h1; exact .inr List.mem_cons_self
      · exact .inl h1
    · exact .inr (List.mem_cons_of_mem _ h1)
theorem bestTo_mem {f : Nat × Nat → Int} {m i k : Nat} {p : Nat × Nat} (hk : k ≤ m ∨ k ≤ i + 1) (h : bestTo f m i k = some p) : p.1 < p.2 ∧ p.2 < m := by
  rcases bfold_mem f _ _ _ h with h1 | h1
  · cases h1
  · exact mem_preP hk h1
theorem bfold_pos {f : Nat × Nat → Int} : ∀ {l : List (Nat × Nat)} {c : Option (Nat × Nat)}, (∀ p, c = some p → 0 < f p) → ∀ p, l.foldl (bstep f) c = some p → 0 < f p
  | [], c, hc, p, h => hc p h
  | q :: l, c, hc, p, h => by
    refine bfold_pos (l := l) (c := bstep f c q) ?_ p h
    intro r hr
    unfold bstep at hr
    split at hr
    · rename_i h1
      cases hr
      cases c with
      | none => exact h1
      | some s => have := hc s rfl; simp only [bval] at h1; omega
    · exact hc r hr
theorem bestTo_pos {f : Nat × Nat → Int} {m i k : Nat} {p : Nat × Nat} (h : bestTo f m i k = some p) : 0 < f p := bfold_pos (by intro p h; cases h) p h
theorem bfold_congr {f g : Nat × Nat → Int} : ∀ {l : List (Nat × Nat)} {c : Option (Nat × Nat)}, (∀ p ∈ l, f p = g p) → (∀ p, c = some p → f p = g p) → l.foldl (bstep f) c = l.foldl (bstep g) c
  | [], _, _, _ => rfl
  | q :: l, c, h, hc => by
    have hv : bval f c = bval g c := by
      cases c with
      | none => rfl
      | some s => exact hc s rfl
    have e : bstep f c q = bstep g c q := by unfold bstep; rw [hv, h q List.mem_cons_self]
    show l.foldl (bstep f) (bstep f c q) = l.foldl (bstep g) (bstep g c q)
    rw [e]
    refine bfold_congr (fun p hp => h p (List.mem_cons_of_mem _ hp)) fun p hp => ?_
    unfold bstep at hp
    split at hp
    · cases hp; exact h q List.mem_cons_self
    · exact hc p hp
theorem bestTo_congr {f g : Nat × Nat → Int} {m i k : Nat} (hk : k ≤ m ∨ k ≤ i + 1) (h : ∀ p : Nat × Nat, p.1 < p.2 → p.2 < m → f p = g p) : bestTo f m i k = bestTo g m i k :=
  bfold_congr (fun p hp => h p (mem_preP hk hp).1 (mem_preP hk hp).2) (by intro p h; cases h)
/-- A pair that is greater than all others wins. -/
theorem bfold_top {f : Nat × Nat → Int} {p : Nat × Nat} (h0 : 0 < f p) : ∀ {l : List (Nat × Nat)} {c : Option (Nat × Nat)}, (∀ q ∈ l, q = p ∨ f q < f p) → (c = some p ∨ (p ∈ l ∧ bval f c < f p)) → l.foldl (bstep f) c = some p
  | [], c, _, hc => by rcases hc with h | ⟨h, _⟩
                       · exact h
                       · simp at h
  | q :: l, c, h, hc => by
    refine bfold_top h0 (l := l) (c := bstep f c q) (fun r hr => h r (List.mem_cons_of_mem _ hr)) ?_
    rcases hc with rfl | ⟨hm, hv⟩
    · left
      unfold bstep
      rw [if_neg]
      rcases h q List.mem_cons_self with rfl | hq
      · exact Int.lt_irrefl _
      · simp only [bval]; omega
    · rcases List.mem_cons.1 hm with rfl | hm
      · left; unfold bstep; rw [if_pos hv]
      · by_cases e : q = p
        · subst e; left; unfold bstep; rw [if_pos hv]
        · right
          refine ⟨hm, ?_⟩
          have hq : f q < f p := by
            rcases h q List.mem_cons_self with h1 | h1
            · exact absurd h1 e
            · exact h1
          unfold bstep
          split
          · exact hq
          · exact hv

def best (f : Nat × Nat → Int) (m : Nat) : Option (Nat × Nat) := bestTo f m m (m + 1)
theorem mem_full {m a b : Nat} (h : a < b) (hb : b < m) : (a, b) ∈ preP m m (m + 1) := by
  unfold preP rowP
  simp only [List.mem_append, List.mem_flatMap, List.mem_range, List.mem_map, List.mem_range'_1]
  exact .inl ⟨a, by omega, b, by omega, rfl⟩

/-! ### Joining two lists -/
abbrev Way := List Int × List Int
def seamW (W : Int → Int → Int) (w : Way) : Int := W (w.1.getD (w.1.length - 1) 0) (w.2.getD 0 0)
def waysW (a b : List Int) : List Way := [(a, b), (a, b.reverse), (a.reverse, b), (a.reverse, b.reverse)]
def wstep (W : Int → Int → Int) (c w : Way) : Way := if seamW W c < seamW W w then w else c
def pickW (W : Int → Int → Int) (a b : List Int) : Way := [(a, b.reverse), (a.reverse, b), (a.reverse, b.reverse)].foldl (wstep W) (a, b)
def joinW (W : Int → Int → Int) (a b : List Int) : List Int := (pickW W a b).1 ++ (pickW W a b).2
theorem wfold_mem (W : Int → Int → Int) : ∀ (l : List Way) (c : Way), l.foldl (wstep W) c = c ∨ l.foldl (wstep W) c ∈ l
  | [], c => .inl rfl
  | w :: l, c => by
    have h := wfold_mem W l (wstep W c w)
    show l.foldl (wstep W) (wstep W c w) = c ∨ _
    rcases h with h | h
    · unfold wstep at h
      split at h
      · right
        show l.foldl (wstep W) (wstep W c w) ∈ _
        unfold wstep; rw [if_pos ‹_›, h]; exact List.mem_cons_self
      · left; unfold wstep; rw [if_neg ‹_›]; exact h
    · exact .inr (List.mem_cons_of_mem _ h)
theorem pickW_mem (W : Int → Int → Int) (a b : List Int) : pickW W a b ∈ waysW a b := by
  rcases wfold_mem W [(a, b.reverse), (a.reverse, b), (a.reverse, b.reverse)] (a, b) with h | h
  · unfold pickW; rw [h]; exact List.mem_cons_self
  · exact List.mem_cons_of_mem _ h
theorem joinW_perm (W : Int → Int → Int) (a b : List Int) : (joinW W a b).Perm (a ++ b) := by
  have h := pickW_mem W a b
  unfold joinW
  simp only [waysW, List.mem_cons, List.mem_nil_iff, or_false] at h
  rcases h with h | h | h | h <;> rw [h]
  · exact (List.Perm.refl a).append (List.reverse_perm b)
  · exact (List.reverse_perm a).append (List.Perm.refl b)
  · exact (List.reverse_perm a).append (List.reverse_perm b)

/-! ### The rounds -/
def pairF (W : Int → Int → Int) (l : List (List Int)) (p : Nat × Nat) : Int := crossW W (l.getD p.1 []) (l.getD p.2 [])
def stepL (W : Int → Int → Int) (l : List (List Int)) : Option (List (List Int)) :=
  match best (pairF W l) l.length with
  | none => none
  | some p => some ((l.set p.1 (joinW W (l.getD p.1 []) (l.getD p.2 []))).eraseIdx p.2)
def orderL (W : Int → Int → Int) : Nat → List (List Int) → List Int
  | 0, l => l.flatten
  | n + 1, l => match stepL W l with
    | none => l.flatten
    | some l' => orderL W n l'
def startL (n : Nat) : List (List Int) := (List.range n).map fun (i : Nat) => [(i : Int)]
def orderF (W : Int → Int → Int) (n : Nat) : List Int := orderL W n (startL n)

theorem erase_perm {α : Type} : ∀ {l : List α} {i : Nat} (h : i < l.length), (l[i] :: l.eraseIdx i).Perm l
  | x :: l, 0, _ => by simp
  | x :: l, i + 1, h => by
    simp only [List.getElem_cons_succ, List.eraseIdx_cons_succ]
    exact (List.Perm.swap x _ _).trans ((erase_perm (by simpa using h)).cons x)
theorem perm_merge {l : List (List Int)} {a b : Nat} {z : List Int} (hab : a < b) (hb : b < l.length) (hz : z.Perm (l.getD a [] ++ l.getD b [])) :
    ((l.set a z).eraseIdx b).flatten.Perm l.flatten := by
  have ha : a < l.length := by omega
  have ea : l.getD a [] = l[a] := by simp [List.getD_eq_getElem?_getD, ha]
  have eb : l.getD b [] = l[b] := by simp [List.getD_eq_getElem?_getD, hb]
  rw [ea, eb] at hz
  have hb' : b < (l.set a z).length := by simpa using hb
  have h1 : ((l.set a z)[b] :: (l.set a z).eraseIdx b).Perm (l.set a z) := erase_perm hb'
  have e1 : (l.set a z)[b] = l[b] := List.getElem_set_ne (by omega) _
  rw [e1] at h1
  have ha' : a < (l.set a z).length := by simpa using ha
  have h2 : ((l.set a z)[a] :: (l.set a z).eraseIdx a).Perm (l.set a z) := erase_perm ha'
  rw [List.getElem_set_self] at h2
  have e2 : (l.set a z).eraseIdx a = l.eraseIdx a := by
    rw [List.eraseIdx_set_eq]
  rw [e2] at h2
  have h3 : (l[a] :: l.eraseIdx a).Perm l := erase_perm ha
  have f1 := h1.flatten
  have f2 := h2.flatten
  have f3 := h3.flatten
  simp only [List.flatten_cons] at f1 f2 f3
  -- y ++ R ~ F1 ; z ++ E ~ F1 ; x ++ E ~ F ; z ~ x ++ y
  have g1 : (l[b] ++ ((l.set a z).eraseIdx b).flatten).Perm (z ++ (l.eraseIdx a).flatten) := f1.trans f2.symm
  have g2 : (z ++ (l.eraseIdx a).flatten).Perm (l[b] ++ (l[a] ++ (l.eraseIdx a).flatten)) := by
    refine (hz.append_right _).trans ?_
    rw [← List.append_assoc]
    exact (List.perm_append_comm).append_right _
  exact (List.perm_append_left_iff _).1 ((g1.trans g2).trans ((List.perm_append_left_iff _).2 f3))

def InvL (n : Nat) (l : List (List Int)) : Prop := (∀ x ∈ l, x ≠ []) ∧ l.flatten.Perm ((List.range n).map fun (i : Nat) => (i : Int))
theorem nodup_range (n : Nat) : ((List.range n).map fun (i : Nat) => (i : Int)).Nodup := by
  refine List.Pairwise.map _ (fun a b h => ?_) List.nodup_range
  intro e; exact h (by exact_mod_cast e)
theorem InvL.nodup {n : Nat} {l : List (List Int)} (h : InvL n l) : l.flatten.Nodup := (h.2.nodup_iff).2 (nodup_range n)
theorem InvL.lt {n : Nat} {l : List (List Int)} (h : InvL n l) {x : List Int} (hx : x ∈ l) {i : Int} (hi : i ∈ x) : 0 ≤ i ∧ i < n := by
  have := h.2.mem_iff.1 (List.mem_flatten.2 ⟨x, hx, hi⟩)
  simp only [List.mem_map, List.mem_range] at this
  obtain ⟨k, hk, rfl⟩ := this
  omega
theorem InvL.length {n : Nat} {l : List (List Int)} (h : InvL n l) : l.length ≤ n := by
  have h1 : l.flatten.length = n := by have := h.2.length_eq; simpa using this
  have h2 : ∀ (l : List (List Int)), (∀ x ∈ l, x ≠ []) → l.length ≤ l.flatten.length := by
    intro l
    induction l with
    | nil => intro _; simp
    | cons x l ih =>
      intro hx
      have a := ih fun y hy => hx y (List.mem_cons_of_mem _ hy)
      have b := List.length_pos_iff.2 (hx x List.mem_cons_self)
      simp only [List.length_cons, List.flatten_cons, List.length_append]
      omega
  have := h2 l h.1
  omega
theorem startL_inv (n : Nat) : InvL n (startL n) := by
  refine ⟨fun x hx => ?_, ?_⟩
  · unfold startL at hx
    obtain ⟨i, _, rfl⟩ := List.mem_map.1 hx
    simp
  · have : (startL n).flatten = (List.range n).map fun (i : Nat) => (i : Int) := by
      unfold startL
      induction List.range n with
      | nil => rfl
      | cons a l ih => simp only [List.map_cons, List.flatten_cons, ih]; rfl
    rw [this]
theorem stepL_len {W : Int → Int → Int} {l l' : List (List Int)} (h : stepL W l = some l') : l'.length + 1 = l.length := by
  unfold stepL at h
  split at h
  · cases h
  · rename_i p hp
    cases h
    have := bestTo_mem (.inr (by omega)) hp
    rw [List.length_eraseIdx, List.length_set, if_pos (by omega)]
    omega
theorem joinW_ne {W : Int → Int → Int} {a b : List Int} (h : a ≠ []) : joinW W a b ≠ [] := by
  intro e
  have := (joinW_perm W a b).length_eq
  rw [e] at this
  simp only [List.length_nil, List.length_append] at this
  have := List.length_pos_iff.2 h
  omega
theorem stepL_inv {W : Int → Int → Int} {n : Nat} {l l' : List (List Int)} (hi : InvL n l) (h : stepL W l = some l') : InvL n l' := by
  unfold stepL at h
  split at h
  · cases h
  · rename_i p hp
    cases h
    have hm := bestTo_mem (.inr (by omega)) hp
    refine ⟨fun x hx => ?_, (perm_merge hm.1 hm.2 (joinW_perm W _ _)).trans hi.2⟩
    have h1 := List.mem_of_mem_eraseIdx hx
    rcases List.mem_or_eq_of_mem_set h1 with h2 | rfl
    · exact hi.1 x h2
    · refine joinW_ne (hi.1 _ ?_)
      exact getD_memL [] (by omega)
theorem orderL_perm {W : Int → Int → Int} {n : Nat} : ∀ {k : Nat} {l : List (List Int)}, InvL n l → (orderL W k l).Perm ((List.range n).map fun (i : Nat) => (i : Int))
  | 0, _, h => h.2
  | k + 1, l, h => by
    unfold orderL
    split
    · exact h.2
    · rename_i l' hs
      exact orderL_perm (stepL_inv h hs)
theorem orderF_perm (W : Int → Int → Int) (n : Nat) : (orderF W n).Perm ((List.range n).map fun (i : Nat) => (i : Int)) := orderL_perm (startL_inv n)

/-! ### Sums -/
theorem sumBy_append {α : Type} (f : α → Int) : ∀ (a b : List α), sumBy f (a ++ b) = sumBy f a + sumBy f b
  | [], b => by simp [sumBy]
  | x :: a, b => by simp only [List.cons_append, sumBy, sumBy_append f a b]; omega
theorem sumBy_congr {α : Type} {f g : α → Int} : ∀ {l : List α}, (∀ x ∈ l, f x = g x) → sumBy f l = sumBy g l
  | [], _ => rfl
  | x :: l, h => by simp only [sumBy]; rw [h x List.mem_cons_self, sumBy_congr fun y hy => h y (List.mem_cons_of_mem _ hy)]
theorem sumBy_add {α : Type} (f g : α → Int) : ∀ (l : List α), sumBy (fun x => f x + g x) l = sumBy f l + sumBy g l
  | [] => rfl
  | x :: l => by simp only [sumBy, sumBy_add f g l]; omega
theorem sumBy_zero {α : Type} : ∀ (l : List α), sumBy (fun _ => 0) l = 0
  | [] => rfl
  | x :: l => by simp only [sumBy, sumBy_zero l]; omega
theorem sumBy_map {α β : Type} (f : β → Int) (g : α → β) : ∀ (l : List α), sumBy f (l.map g) = sumBy (fun x => f (g x)) l
  | [] => rfl
  | x :: l => by simp only [List.map_cons, sumBy, sumBy_map f g l]
theorem sumBy_perm {α : Type} {f : α → Int} {a b : List α} (h : a.Perm b) : sumBy f a = sumBy f b := by
  induction h with
  | nil => rfl
  | cons x _ ih => simp only [sumBy, ih]
  | swap x y l => simp only [sumBy]; omega
  | trans _ _ h1 h2 => exact h1.trans h2
theorem sumBy_ind {k : Int} {q : Int} : ∀ {l : List Int}, l.Nodup → sumBy (fun y => if q = y then k else 0) l = if q ∈ l then k else 0
  | [], _ => by simp [sumBy]
  | y :: l, h => by
    have h1 := List.nodup_cons.1 h
    simp only [sumBy]
    rw [sumBy_ind h1.2]
    by_cases e : q = y
    · subst e
      rw [if_pos rfl, if_neg h1.1, if_pos List.mem_cons_self]; omega
    · rw [if_neg e]
      by_cases hm : q ∈ l
      · rw [if_pos hm, if_pos (List.mem_cons_of_mem _ hm)]; omega
      · rw [if_neg hm, if_neg]
        · rfl
        · intro h2
          rcases List.mem_cons.1 h2 with h3 | h3
          · exact e h3
          · exact hm h3
theorem sum2_ind {k : Int} {p q : Int} {a b : List Int} (ha : a.Nodup) (hb : b.Nodup) :
    sumBy (fun x => sumBy (fun y => if p = x ∧ q = y then k else 0) b) a = if p ∈ a ∧ q ∈ b then k else 0 := by
  have h1 : ∀ x ∈ a, sumBy (fun y => if p = x ∧ q = y then k else 0) b = if p = x then (if q ∈ b then k else 0) else 0 := by
    intro x _
    by_cases e : p = x
    · rw [if_pos e, ← sumBy_ind hb]
      exact sumBy_congr fun y _ => by simp [e]
    · rw [if_neg e]
      exact (sumBy_congr (g := fun _ => 0) fun y _ => by simp [e]).trans (sumBy_zero b)
  rw [sumBy_congr h1, sumBy_ind ha]
  by_cases h2 : p ∈ a <;> by_cases h3 : q ∈ b <;> simp [h2, h3]
/-- The sum of the weights over two lists without a common number is the sum over the calls between them. -/
theorem cross_betw {a b : List Int} (h : (a ++ b).Nodup) : ∀ (c : List Near), crossW (wt c) a b = betw c a b := by
  have ha := (List.nodup_append.1 h).1
  have hb := (List.nodup_append.1 h).2.1
  have hd : ∀ x ∈ a, ∀ y ∈ b, x ≠ y := (List.nodup_append.1 h).2.2
  intro c
  have e1 : crossW (wt c) a b = sumBy (fun x => sumBy (fun y => sumBy (wt1 x y) c) b) a :=
    sumBy_congr fun x hx => sumBy_congr fun y hy => by unfold wt; rw [if_neg (hd x hx y hy)]
  rw [e1]
  unfold betw
  induction c with
  | nil => simp only [sumBy]; rw [sumBy_congr (g := fun _ => 0) fun x _ => sumBy_zero b]; exact sumBy_zero a
  | cons z c ih =>
    simp only [sumBy]
    have e2 : crossW (wt c) a b = sumBy (fun x => sumBy (fun y => sumBy (wt1 x y) c) b) a :=
      sumBy_congr fun x hx => sumBy_congr fun y hy => by unfold wt; rw [if_neg (hd x hx y hy)]
    rw [sumBy_congr (g := fun x => sumBy (fun y => wt1 x y z) b + sumBy (fun y => sumBy (wt1 x y) c) b) fun x _ => sumBy_add _ _ b, sumBy_add, ih e2]
    congr 1
    have e3 : ∀ x ∈ a, sumBy (fun y => wt1 x y z) b = sumBy (fun y => if z.1 = x ∧ z.2.1 = y then z.2.2 else 0) b + sumBy (fun y => if z.1 = y ∧ z.2.1 = x then z.2.2 else 0) b := by
      intro x hx
      rw [← sumBy_add]
      refine sumBy_congr fun y hy => ?_
      have := hd x hx y hy
      unfold wt1
      by_cases p1 : z.1 = x ∧ z.2.1 = y
      · rw [if_pos (.inl p1), if_pos p1, if_neg]
        · omega
        · intro p2; exact this (p1.1.symm.trans p2.1)
      · rw [if_neg p1]
        by_cases p2 : z.1 = y ∧ z.2.1 = x
        · rw [if_pos (.inr p2), if_pos p2]; omega
        · rw [if_neg p2, if_neg]
          · rfl
          · intro h; rcases h with h | h
            · exact p1 h
            · exact p2 h
    have e4 : ∀ x ∈ a, sumBy (fun y => if z.1 = y ∧ z.2.1 = x then z.2.2 else 0) b = sumBy (fun y => if z.2.1 = x ∧ z.1 = y then z.2.2 else 0) b := fun x _ => sumBy_congr fun y _ => by
      by_cases p1 : z.1 = y <;> by_cases p2 : z.2.1 = x <;> simp [p1, p2]
    rw [sumBy_congr e3, sumBy_add, sumBy_congr e4, sum2_ind ha hb, sum2_ind ha hb]
    unfold betw1
    by_cases p1 : z.1 ∈ a ∧ z.2.1 ∈ b
    · have p2 : ¬ (z.2.1 ∈ a ∧ z.1 ∈ b) := fun p2 => hd _ p1.1 _ p2.2 rfl
      rw [if_pos p1, if_neg p2, if_pos (.inl p1)]; omega
    · rw [if_neg p1]
      by_cases p2 : z.2.1 ∈ a ∧ z.1 ∈ b
      · rw [if_pos p2, if_pos (.inr ⟨p2.2, p2.1⟩)]; omega
      · have p3 : ¬ ((z.1 ∈ a ∧ z.2.1 ∈ b) ∨ (z.1 ∈ b ∧ z.2.1 ∈ a)) := by
          rintro (h | h)
          · exact p1 h
          · exact p2 ⟨h.2, h.1⟩
        rw [if_neg p2, if_neg p3]; omega

/-- Two lists of a state have no common number. -/
theorem InvL.two {n : Nat} {l : List (List Int)} (h : InvL n l) {a b : Nat} (hab : a < b) (hb : b < l.length) : (l.getD a [] ++ l.getD b []).Nodup := by
  have hp := perm_merge (l := l) (z := l.getD a [] ++ l.getD b []) hab hb (.refl _)
  have h1 : (((l.set a (l.getD a [] ++ l.getD b [])).eraseIdx b).flatten).Nodup := (hp.nodup_iff).2 h.nodup
  have h2 : (l.getD a [] ++ l.getD b []) ∈ (l.set a (l.getD a [] ++ l.getD b [])).eraseIdx b := by
    rw [List.mem_eraseIdx_iff_getElem]
    exact ⟨a, by simp; omega, by omega, by simp⟩
  exact (List.pairwise_flatten.1 h1).1 _ h2

/-! ### The calls turned round -/
def turnC (c : List Near) : List Near := (c.map fun x => (x.2.1, x.1, x.2.2)).reverse
theorem wt_turn (c : List Near) (a b : Int) : wt (turnC c) a b = wt c a b := by
  unfold wt turnC
  split
  · rfl
  · rw [sumBy_perm (List.reverse_perm _), sumBy_map]
    refine sumBy_congr fun x _ => ?_
    unfold wt1
    simp only
    by_cases p1 : x.1 = a <;> by_cases p2 : x.2.1 = b <;> by_cases p3 : x.1 = b <;> by_cases p4 : x.2.1 = a <;> simp [p1, p2, p3, p4]
theorem wt_turn' (c : List Near) : wt (turnC c) = wt c := funext fun a => funext fun b => wt_turn c a b

/-! ### The closest two are next to each other -/
def NextTo (a b : Int) (l : List Int) : Prop := ∃ p s, l = p ++ a :: b :: s ∨ l = p ++ b :: a :: s
theorem NextTo.rev {a b : Int} {l : List Int} (h : NextTo a b l) : NextTo a b l.reverse := by
  obtain ⟨p, s, rfl | rfl⟩ := h
  · exact ⟨s.reverse, p.reverse, .inr (by simp)⟩
  · exact ⟨s.reverse, p.reverse, .inl (by simp)⟩
theorem NextTo.left {a b : Int} {l : List Int} (h : NextTo a b l) (m : List Int) : NextTo a b (l ++ m) := by
  obtain ⟨p, s, rfl | rfl⟩ := h
  · exact ⟨p, s ++ m, .inl (by simp)⟩
  · exact ⟨p, s ++ m, .inr (by simp)⟩
theorem NextTo.right {a b : Int} {l : List Int} (h : NextTo a b l) (m : List Int) : NextTo a b (m ++ l) := by
  obtain ⟨p, s, rfl | rfl⟩ := h
  · exact ⟨m ++ p, s, .inl (by simp)⟩
  · exact ⟨m ++ p, s, .inr (by simp)⟩
theorem NextTo.join {W : Int → Int → Int} {a b : Int} {x y : List Int} (h : NextTo a b x ∨ NextTo a b y) : NextTo a b (joinW W x y) := by
  have hp := pickW_mem W x y
  unfold joinW
  simp only [waysW, List.mem_cons, List.mem_nil_iff, or_false] at hp
  rcases h with h | h <;> rcases hp with e | e | e | e <;> rw [e]
  · exact h.left _
  · exact h.left _
  · exact h.rev.left _
  · exact h.rev.left _
  · exact h.right _
  · exact h.rev.right _
  · exact h.right _
  · exact h.rev.right _
theorem NextTo.flat {a b : Int} {l : List (List Int)} {x : List Int} (hx : x ∈ l) (h : NextTo a b x) : NextTo a b l.flatten := by
  obtain ⟨p, s, rfl⟩ := List.append_of_mem hx
  simp only [List.flatten_append, List.flatten_cons]
  exact (h.left _).right _
theorem next_step {W : Int → Int → Int} {a b : Int} {l l' : List (List Int)} (h : stepL W l = some l') (hx : ∃ x ∈ l, NextTo a b x) : ∃ x ∈ l', NextTo a b x := by
  obtain ⟨x, hx, hn⟩ := hx
  unfold stepL at h
  split at h
  · cases h
  · rename_i p hp
    cases h
    have hm := bestTo_mem (.inr (by omega)) hp
    obtain ⟨i, hi, rfl⟩ := List.getElem_of_mem hx
    by_cases e : i = p.1 ∨ i = p.2
    · refine ⟨joinW W (l.getD p.1 []) (l.getD p.2 []), ?_, NextTo.join ?_⟩
      · rw [List.mem_eraseIdx_iff_getElem]
        exact ⟨p.1, by simp; omega, by omega, by simp⟩
      · rcases e with e | e
        · left; rw [← e]; simpa [List.getD_eq_getElem?_getD, hi] using hn
        · right; rw [← e]; simpa [List.getD_eq_getElem?_getD, hi] using hn
    · refine ⟨l[i], ?_, hn⟩
      rw [List.mem_eraseIdx_iff_getElem]
      exact ⟨i, by simpa using hi, by omega, by rw [List.getElem_set_ne (by omega)]⟩
theorem next_order {W : Int → Int → Int} {a b : Int} : ∀ {k : Nat} {l : List (List Int)}, (∃ x ∈ l, NextTo a b x) → NextTo a b (orderL W k l)
  | 0, _, ⟨_, hx, h⟩ => h.flat hx
  | k + 1, l, h => by
    unfold orderL
    split
    · obtain ⟨x, hx, hn⟩ := h; exact hn.flat hx
    · rename_i l' hs
      exact next_order (next_step hs h)
theorem start_getD {n i : Nat} (h : i < n) : (startL n).getD i [] = [(i : Int)] := by simp [startL, List.getD_eq_getElem?_getD, h]
/-- Two functions whose weight is greater than that of every other pair are next to each other. -/
theorem closest {W : Int → Int → Int} {n a b : Nat} (hab : a < b) (hb : b < n) (h0 : 0 < W a b)
    (h : ∀ x y : Nat, x < y → y < n → ¬ (x = a ∧ y = b) → W x y < W a b) : NextTo a b (orderF W n) := by
  have hf : ∀ p : Nat × Nat, p.1 < p.2 → p.2 < n → pairF W (startL n) p = W p.1 p.2 := by
    intro p h1 h2
    unfold pairF crossW
    rw [start_getD (show p.1 < n by omega), start_getD h2]
    simp [sumBy]
  have hl : (startL n).length = n := by simp [startL]
  have hb1 : best (pairF W (startL n)) (startL n).length = some (a, b) := by
    rw [hl]
    unfold best bestTo
    refine bfold_top (by rw [hf (a, b) hab hb]; exact h0) (fun q hq => ?_) (.inr ⟨mem_full hab hb, ?_⟩)
    · have hm := mem_preP (.inr (by omega)) hq
      by_cases e : q.1 = a ∧ q.2 = b
      · left; exact Prod.ext e.1 e.2
      · right; rw [hf q hm.1 hm.2, hf (a, b) hab hb]; exact h _ _ hm.1 hm.2 e
    · rw [hf (a, b) hab hb]; exact h0
  unfold orderF
  obtain ⟨m, rfl⟩ : ∃ m, n = m + 1 := ⟨n - 1, by omega⟩
  unfold orderL stepL
  rw [hb1]
  simp only
  refine next_order ⟨joinW W ((startL (m + 1)).getD a []) ((startL (m + 1)).getD b []), ?_, ?_⟩
  · rw [List.mem_eraseIdx_iff_getElem]
    exact ⟨a, by simp [hl]; omega, by omega, by simp⟩
  · rw [start_getD (show a < m + 1 by omega), start_getD hb]
    have hp := pickW_mem W [(a : Int)] [(b : Int)]
    unfold joinW
    simp only [waysW, List.mem_cons, List.mem_nil_iff, or_false, List.reverse_singleton, or_self] at hp
    rw [hp]
    exact ⟨[], [], .inl rfl⟩

end Go.Eng
