/- Plain laws: sums over lists, weights of calls. -/

set_option linter.all false

namespace Go.Eng
abbrev Near := Int × Int × Int

def sumBy {α : Type} (f : α → Int) : List α → Int
  | [] => 0
  | x :: l => f x + sumBy f l
theorem sumBy_take {α : Type} (f : α → Int) (d : α) : ∀ {l : List α} {i : Nat}, i < l.length → sumBy f (l.take (i + 1)) = sumBy f (l.take i) + f (l.getD i d)
  | [], i, h => by simp at h
  | x :: l, 0, h => by simp [sumBy]
  | x :: l, i + 1, h => by
    have := sumBy_take f d (l := l) (i := i) (by simpa using h)
    simp only [List.take_succ_cons, sumBy, List.getD_cons_succ] at *
    omega
theorem sumBy_le {α : Type} {f : α → Int} {B : Int} : ∀ {l : List α}, (∀ x ∈ l, 0 ≤ f x ∧ f x ≤ B) → 0 ≤ sumBy f l ∧ sumBy f l ≤ B * l.length
  | [], _ => by simp [sumBy]
  | x :: l, h => by
    have h1 := h x List.mem_cons_self
    have h2 := sumBy_le (l := l) fun y hy => h y (List.mem_cons_of_mem _ hy)
    simp only [sumBy, List.length_cons, Int.natCast_add, Int.mul_add]
    omega
theorem getD_memL {α : Type} (d : α) {l : List α} {i : Nat} (h : i < l.length) : l.getD i d ∈ l := by
  rw [List.getD_eq_getElem?_getD, List.getElem?_eq_getElem h]; exact List.getElem_mem h

def goodCalls (c : List Near) : Prop := c.length ≤ 200 ∧ ∀ x ∈ c, 0 ≤ x.2.2 ∧ x.2.2 ≤ 1000000
def betw1 (a b : List Int) (x : Near) : Int := if (x.1 ∈ a ∧ x.2.1 ∈ b) ∨ (x.1 ∈ b ∧ x.2.1 ∈ a) then x.2.2 else 0
def betw (c : List Near) (a b : List Int) : Int := sumBy (betw1 a b) c

theorem betw_bound {c : List Near} (h : goodCalls c) (a b : List Int) (i : Nat) : 0 ≤ sumBy (betw1 a b) (c.take i) ∧ sumBy (betw1 a b) (c.take i) ≤ 200000000 := by
  have h1 := sumBy_le (f := betw1 a b) (B := 1000000) (l := c.take i) fun x hx => by
    have := h.2 x (List.mem_of_mem_take hx)
    unfold betw1; split <;> omega
  have h2 : ((c.take i).length : Int) ≤ 200 := by have := List.length_take_le' i c; have := h.1; omega
  omega

def wt1 (a b : Int) (x : Near) : Int := if (x.1 = a ∧ x.2.1 = b) ∨ (x.1 = b ∧ x.2.1 = a) then x.2.2 else 0
def wt (c : List Near) (a b : Int) : Int := if a = b then 0 else sumBy (wt1 a b) c

theorem wt_bound {c : List Near} (h : goodCalls c) (a b : Int) (i : Nat) : 0 ≤ sumBy (wt1 a b) (c.take i) ∧ sumBy (wt1 a b) (c.take i) ≤ 200000000 := by
  have h1 := sumBy_le (f := wt1 a b) (B := 1000000) (l := c.take i) fun x hx => by
    have := h.2 x (List.mem_of_mem_take hx)
    unfold wt1; split <;> omega
  have h2 : ((c.take i).length : Int) ≤ 200 := by have := List.length_take_le' i c; have := h.1; omega
  omega

end Go.Eng
