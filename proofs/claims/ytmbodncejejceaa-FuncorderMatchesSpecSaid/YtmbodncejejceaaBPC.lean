/- Plain laws: faults of functions and calls, the cost of an order. -/
import Derived.Test.YtmbodncejejceaaBF9
set_option linter.all false

namespace Go.Eng

structure goodF (s : List Int) (c : List Near) : Prop where
  n : s.length ≤ 60
  m : c.length ≤ 200
  sz : ∀ x ∈ s, 0 ≤ x ∧ x ≤ 1500
  ca : ∀ x ∈ c, (0 ≤ x.1 ∧ x.1 < s.length) ∧ (0 ≤ x.2.1 ∧ x.2.1 < s.length) ∧ 0 ≤ x.2.2 ∧ x.2.2 ≤ 1000000
theorem sizesFault_none : ∀ {l : List Int} {i : Int}, sizesFault l i = none → ∀ x ∈ l, 0 ≤ x ∧ x ≤ 1500
  | [], _, _, x, hx => by cases hx
  | y :: l, i, h, x, hx => by
    unfold sizesFault at h
    split at h
    · rcases List.mem_cons.1 hx with rfl | hx
      · assumption
      · exact sizesFault_none h x hx
    · cases h
theorem callsFault_none {n : Int} : ∀ {l : List Near} {i : Int}, callsFault' n l i = none → ∀ x ∈ l, (0 ≤ x.1 ∧ x.1 < n) ∧ (0 ≤ x.2.1 ∧ x.2.1 < n) ∧ 0 ≤ x.2.2 ∧ x.2.2 ≤ 1000000
  | [], _, _, x, hx => by cases hx
  | (a, b, c) :: l, i, h, x, hx => by
    unfold callsFault' at h
    split at h
    · rename_i hc
      rcases List.mem_cons.1 hx with rfl | hx
      · simp only; omega
      · exact callsFault_none h x hx
    · cases h
theorem funFault_good {s : List Int} {c : List Near} (h : (funFault s c).1 = 0) : goodF s c := by
  unfold funFault at h
  split at h
  · simp at h
  split at h
  · simp at h
  split at h
  · simp at h
  rename_i h1 h2 h3
  split at h
  · simp at h
  rename_i h4
  exact ⟨by omega, by omega, sizesFault_none h3, callsFault_none h4⟩
theorem funFault_zero {s : List Int} {c : List Near} (h : (funFault s c).1 = 0) : (funFault s c).2 = 0 := by
  unfold funFault at *
  split at h
  · simp at h
  rw [if_neg ‹_›]
  split at h
  · simp at h
  rw [if_neg ‹_›]
  split at h
  · simp at h
  generalize callsFault' (s.length : Int) c 0 = r at *
  cases r with
  | none => rfl
  | some i => simp at h
theorem sizesFault_some : ∀ {l : List Int} {i : Int}, (∀ x ∈ l, 0 ≤ x ∧ x ≤ 1500) → sizesFault l i = none
  | [], _, _ => rfl
  | y :: l, i, h => by
    unfold sizesFault
    rw [if_pos (h y List.mem_cons_self)]
    exact sizesFault_some fun x hx => h x (List.mem_cons_of_mem _ hx)
theorem callsFault_some {n : Int} : ∀ {l : List Near} {i : Int}, (∀ x ∈ l, (0 ≤ x.1 ∧ x.1 < n) ∧ (0 ≤ x.2.1 ∧ x.2.1 < n) ∧ 0 ≤ x.2.2 ∧ x.2.2 ≤ 1000000) → callsFault' n l i = none
  | [], _, _ => rfl
  | (a, b, c) :: l, i, h => by
    unfold callsFault'
    have h1 := h (a, b, c) List.mem_cons_self
    simp only at h1
    rw [if_pos (by omega)]
    exact callsFault_some fun x hx => h x (List.mem_cons_of_mem _ hx)
theorem goodF.fault {s : List Int} {c : List Near} (h : goodF s c) : funFault s c = (0, 0) := by
  unfold funFault
  rw [if_neg (by have := h.n; omega), if_neg (by have := h.m; omega), sizesFault_some h.sz]
  simp only
  rw [callsFault_some h.ca]
theorem goodF.calls {s : List Int} {c : List Near} (h : goodF s c) : goodCalls c := ⟨h.m, fun x hx => (h.ca x hx).2.2⟩

/-! ### Cost -/
def szOf (s : List Int) (i : Int) : Int := s.getD i.toNat 0
def preS (s o : List Int) (k : Nat) : Int := sumBy (szOf s) (o.take k)
def pl (o : List Int) (x : Int) : Nat := (placeOf o 0 x).toNat
def absI (d : Int) : Int := max d (-d)
def cost1 (s o : List Int) (x : Near) : Int := x.2.2 * absI (preS s o (pl o x.1) - preS s o (pl o x.2.1))
def costOf (s : List Int) (c : List Near) (o : List Int) : Int := sumBy (cost1 s o) c
def costF (s : List Int) (c : List Near) (o : List Int) : Int × Int := if (funFault s c).1 = 0 then (if permOf o s.length then (0, 0) else (5, -3)) else funFault s c
def costR (s : List Int) (c : List Near) (o : List Int) : Int := if (costF s c o).1 = 0 then costOf s c o else 0

theorem getD_memI {l : List Int} {i : Nat} (h : i < l.length) : l.getD i 0 ∈ l := by
  rw [getD_lt h]; exact List.getElem_mem h
theorem szOf_bd {s : List Int} (h : ∀ x ∈ s, 0 ≤ x ∧ x ≤ 1500) (i : Int) : 0 ≤ szOf s i ∧ szOf s i ≤ 1500 := by
  unfold szOf
  by_cases hl : i.toNat < s.length
  · exact h _ (getD_memI hl)
  · rw [List.getD_eq_getElem?_getD, List.getElem?_eq_none (by omega)]; simp
theorem preS_bd {s o : List Int} {c : List Near} (h : goodF s c) (ho : o.length = s.length) (k : Nat) : 0 ≤ preS s o k ∧ preS s o k ≤ 90000 := by
  have h1 := sumBy_le (f := szOf s) (B := 1500) (l := o.take k) fun x _ => szOf_bd h.sz x
  have h2 : ((o.take k).length : Int) ≤ 60 := by
    have := List.length_take_le' k o
    have := h.n
    omega
  unfold preS
  omega
theorem preS_succ {s o : List Int} {k : Nat} (hk : k < o.length) : preS s o (k + 1) = preS s o k + szOf s (o.getD k 0) := sumBy_take (szOf s) 0 hk
theorem preS_mono {s o : List Int} (hs : ∀ x ∈ s, 0 ≤ x ∧ x ≤ 1500) {i : Nat} : ∀ {j : Nat}, i ≤ j → preS s o i ≤ preS s o j
  | 0, h => by rw [show i = 0 by omega]; exact Int.le_refl _
  | j + 1, h => by
    by_cases e : i = j + 1
    · subst e; exact Int.le_refl _
    · have h1 := preS_mono (s := s) (o := o) hs (i := i) (j := j) (by omega)
      by_cases hj : j < o.length
      · rw [preS_succ hj]
        have := szOf_bd hs (o.getD j 0)
        omega
      · have : preS s o (j + 1) = preS s o j := by unfold preS; rw [List.take_of_length_le (by omega), List.take_of_length_le (by omega)]
        omega
theorem cost1_bd {s o : List Int} {c : List Near} (h : goodF s c) (ho : o.length = s.length) {x : Near} (hx : x ∈ c) : 0 ≤ cost1 s o x ∧ cost1 s o x ≤ 90000000000 := by
  have h1 := preS_bd h ho (pl o x.1)
  have h2 := preS_bd h ho (pl o x.2.1)
  have h3 := (h.ca x hx).2.2
  have h4 : 0 ≤ absI (preS s o (pl o x.1) - preS s o (pl o x.2.1)) ∧ absI (preS s o (pl o x.1) - preS s o (pl o x.2.1)) ≤ 90000 := by unfold absI; omega
  unfold cost1
  generalize absI (preS s o (pl o x.1) - preS s o (pl o x.2.1)) = d at h4
  refine ⟨Int.mul_nonneg h3.1 h4.1, ?_⟩
  have := Int.mul_le_mul h3.2 h4.2 h4.1 (by omega)
  omega
theorem costOf_bd {s o : List Int} {c : List Near} (h : goodF s c) (ho : o.length = s.length) (k : Nat) : 0 ≤ sumBy (cost1 s o) (c.take k) ∧ sumBy (cost1 s o) (c.take k) ≤ 18000000000000 := by
  have h1 := sumBy_le (f := cost1 s o) (B := 90000000000) (l := c.take k) fun x hx => cost1_bd h ho (List.mem_of_mem_take hx)
  have h2 : ((c.take k).length : Int) ≤ 200 := by
    have := List.length_take_le' k c
    have := h.m
    omega
  omega
theorem placeOf_at {l : List Int} (hn : l.Nodup) {i : Nat} (hi : i < l.length) : placeOf l 0 (l.getD i 0) = i := by
  rw [placeOf_some l 0 (l.getD i 0) i hi (fun j hj e => ?_) rfl]
  · omega
  · rw [getD_lt (show j < l.length by omega), getD_lt hi] at e
    have := (List.getElem_inj (hn)).1 e
    omega
theorem placeOf_mem {l : List Int} {x : Int} (hx : x ∈ l) : ∃ i : Nat, i < l.length ∧ placeOf l 0 x = i ∧ l.getD i 0 = x := by
  have h : ∀ (l : List Int) (k : Int), x ∈ l → ∃ i : Nat, i < l.length ∧ placeOf l k x = k + i ∧ l.getD i 0 = x := by
    intro l
    induction l with
    | nil => intro k h; cases h
    | cons y l ih =>
      intro k h
      unfold placeOf
      by_cases e : y = x
      · exact ⟨0, by simp, by rw [if_pos e]; simp, by simpa using e⟩
      · rw [if_neg e]
        obtain ⟨i, h1, h2, h3⟩ := ih (k + 1) (by rcases List.mem_cons.1 h with rfl | h; exact absurd rfl e; exact h)
        exact ⟨i + 1, by simpa using h1, by rw [h2]; omega, by simpa using h3⟩
  obtain ⟨i, h1, h2, h3⟩ := h l 0 hx
  exact ⟨i, h1, by omega, h3⟩
theorem perm_facts {o : List Int} {n : Nat} (h : permOf o n = true) : o.length = n ∧ o.Nodup ∧ ∀ x, x ∈ o ↔ (0 ≤ x ∧ x < n) := by
  have hp := permOf_iff.1 h
  refine ⟨by have := hp.length_eq; rwa [idL_len] at this, hp.nodup_iff.2 (idL_nodup n), fun x => ?_⟩
  rw [hp.mem_iff, mem_idL]
  constructor
  · rintro ⟨k, hk, rfl⟩; omega
  · rintro ⟨h1, h2⟩; exact ⟨x.toNat, by omega, by omega⟩
end Go.Eng
