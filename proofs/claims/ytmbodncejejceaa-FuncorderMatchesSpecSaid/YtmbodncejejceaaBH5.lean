/- funcorder.weights: a grid of the call's own. -/
import Derived.Test.YtmbodncejejceaaChecked
import Derived.Test.YtmbodncejejceaaBPF
import Derived.WalkKit
import Derived.Deep.LoopGhost
import Derived.Deep.OwnRows
import Derived.Deep.Light
import Derived.CellFam
import Derived.RegionTactic
import Derived.ChangeAlike
import Derived.Lib.Hide
set_option linter.all false

namespace Go.Proofs.Wts
open Go.RowKit Go.Eng

theorem info3 : (Try.prog.info? 3).map (fun i => (i.zero, i.size, i.bytes)) = some (some (.int .i64 0), 1, 8) := by kernel_rfl
theorem info22 : (Try.prog.info? 22).map (fun i => (i.zero, i.size, i.bytes)) = some (some (.slice none 0 0), 1, 24) := by kernel_rfl

def top (N n : Nat) (r : Nat) : Nat → Value := fun j => if j < r then .slice (some ⟨N + 1 + j, 0, none⟩) n n else .slice none 0 0

/-- r rows are made. -/
structure Outer (w wr : World) (n r : Nat) : Prop where
  since : w.Since w.heap.size wr
  size : wr.heap.size = w.heap.size + 1 + r
  top : wr.rowIs w.heap.size 22 n (top w.heap.size n r)
  done : ∀ j, j < r → wr.rowIs (w.heap.size + 1 + j) 3 n (fun _ => .int .i64 0)
/-- All rows are made; cell c of row j holds Z j c. -/
structure Grid (w wr : World) (n : Nat) (Z : Nat → Nat → Int) : Prop where
  since : w.Since w.heap.size wr
  size : w.heap.size + 1 + n ≤ wr.heap.size
  top : wr.rowIs w.heap.size 22 n (Wts.top w.heap.size n n)
  done : ∀ j, j < n → wr.rowIs (w.heap.size + 1 + j) 3 n (fun c => .int .i64 (Z j c))

theorem outer_start (w : World) (n : Nat) : Outer w (w.alloc (.cells (madeCells #[.slice none 0 0] n) 22)) n 0 :=
  ⟨(World.Since.refl _ _).alloc (Nat.le_refl _) _, by simp, (World.rowIs_made w _ n 22).congr (fun j _ => by simp [top]), fun j hj => absurd hj (Nat.not_lt_zero _)⟩
theorem outer_step {w wr : World} {n r : Nat} (h : Outer w wr n r) :
    Outer w ((wr.alloc (.cells (madeCells #[.int .i64 0] n) 3)).setCell ⟨w.heap.size, r, none⟩ (.slice (some ⟨w.heap.size + 1 + r, 0, none⟩) n n)) n (r + 1) := by
  have hnew := World.rowIs_made wr (.int .i64 0) n 3
  rw [h.size] at hnew
  refine ⟨(h.since.alloc (by rw [h.size]; omega) _).setCell (Nat.le_refl _) _, by simp [h.size]; omega, ((h.top.alloc _).set r _).congr (fun j _ => ?_), fun j hj => ?_⟩
  · simp only [top]
    by_cases e : j = r
    · subst e; simp
    · rw [if_neg e]
      by_cases hlt : j < r
      · rw [if_pos hlt, if_pos (by omega)]
      · rw [if_neg hlt, if_neg (by omega)]
  · by_cases e : j = r
    · subst e
      exact hnew.setOther (by show w.heap.size + 1 + j ≠ w.heap.size; omega) _
    · exact ((h.done j (by omega)).alloc _).setOther (by show w.heap.size + 1 + j ≠ w.heap.size; omega) _
theorem grid_start {w wr : World} {n : Nat} (h : Outer w wr n n) : Grid w wr n (fun _ _ => 0) := ⟨h.since, by rw [h.size]; omega, h.top, h.done⟩
theorem Grid.alloc {w wr : World} {n : Nat} {Z : Nat → Nat → Int} (h : Grid w wr n Z) (o : Obj) : Grid w (wr.alloc o) n Z :=
  ⟨h.since.alloc (by have := h.size; omega) _, by have := h.size; simp; omega, h.top.alloc _, fun j hj => (h.done j hj).alloc _⟩
theorem Grid.drew {w wr : World} {n : Nat} {Z : Nat → Nat → Int} (h : Grid w wr n Z) : Grid w wr.drew n Z :=
  ⟨h.since.drew, h.size, h.top.drew, fun j hj => (h.done j hj).drew⟩
theorem Grid.set {w wr : World} {n : Nat} {Z : Nat → Nat → Int} (h : Grid w wr n Z) {a b : Nat} (v : Int) :
    Grid w (wr.setCell ⟨w.heap.size + 1 + a, b, none⟩ (.int .i64 v)) n (fun i j => if i = a ∧ j = b then v else Z i j) := by
  refine ⟨h.since.setCell (by show w.heap.size ≤ w.heap.size + 1 + a; omega) _, by have := h.size; simp; omega, h.top.setOther (by show w.heap.size ≠ w.heap.size + 1 + a; omega) _, fun j hj => ?_⟩
  by_cases e : j = a
  · subst e
    refine ((h.done j hj).set b _).congr fun i _ => ?_
    by_cases e : i = b
    · subst e; simp
    · rw [if_neg e, if_neg (by simp [e])]
  · refine ((h.done j hj).setOther (by show w.heap.size + 1 + j ≠ w.heap.size + 1 + a; omega) _).congr fun i _ => ?_
    rw [if_neg (by simp [e])]
theorem Grid.other {w wr : World} {n : Nat} {Z : Nat → Nat → Int} (h : Grid w wr n Z) {p : Addr} (hp : w.heap.size + 1 + n ≤ p.block) (v : Value) : Grid w (wr.setCell p v) n Z :=
  ⟨h.since.setCell (by omega) _, by have := h.size; simp; omega, h.top.setOther (by omega) _, fun j hj => (h.done j hj).setOther (by omega) _⟩
theorem Grid.congr {w wr : World} {n : Nat} {Z Z' : Nat → Nat → Int} (h : Grid w wr n Z) (e : ∀ i j, i < n → j < n → Z i j = Z' i j) : Grid w wr n Z' :=
  ⟨h.since, h.size, h.top, fun j hj => (h.done j hj).congr fun c hc => by rw [e j c hj hc]⟩

/-- The weights of the first k calls. -/
def wz (c : List Near) (k i j : Nat) : Int := wt (c.take k) i j

theorem wz_self (c : List Near) (k i : Nat) : wz c k i i = 0 := by unfold wz wt; rw [if_pos rfl]
theorem wz_succ {c : List Near} {k f t : Nat} {q : Int} (hk : k < c.length) (hx : c.getD k (0, 0, 0) = ((f : Int), (t : Int), q)) (i j : Nat) :
    wz c (k + 1) i j = if i = j then 0 else wz c k i j + (if (f = i ∧ t = j) ∨ (f = j ∧ t = i) then q else 0) := by
  by_cases e : i = j
  · subst e; rw [wz_self, if_pos rfl]
  · rw [if_neg e]
    unfold wz wt
    have e' : ¬ (i : Int) = (j : Int) := by omega
    rw [if_neg e', if_neg e', sumBy_take (wt1 i j) (0, 0, 0) hk, hx]
    congr 1
    unfold wt1
    simp only
    by_cases p : (f = i ∧ t = j) ∨ (f = j ∧ t = i)
    · rw [if_pos p, if_pos (by omega)]
    · rw [if_neg p, if_neg (by omega)]
theorem wz_bd {c : List Near} (h : goodCalls c) (k i j : Nat) : 0 ≤ wz c k i j ∧ wz c k i j ≤ 200000000 := by
  unfold wz wt
  split
  · omega
  · exact wt_bound h _ _ k

set_option maxHeartbeats 3200000 in
set_option maxRecDepth 1000000 in
theorem walk (n m cap : Nat) (ca : Option Addr) (cb co : Nat) (c : List Near) (w : World) (hca : 0 < m → ca = some ⟨cb, co, none⟩) (hm : m = c.length) (hn : n ≤ 60) (hgc : goodCalls c)
    (hr : ∀ k, k < m → 0 ≤ (c.getD k (0, 0, 0)).1 ∧ (c.getD k (0, 0, 0)).1 < n ∧ 0 ≤ (c.getD k (0, 0, 0)).2.1 ∧ (c.getD k (0, 0, 0)).2.1 < n)
    (h0 : ∀ k, k < m → w.cell? ⟨cb, co + k * 3, none⟩ = some (.int .i64 (c.getD k (0, 0, 0)).1))
    (h1 : ∀ k, k < m → w.cell? ⟨cb, co + k * 3 + 1, none⟩ = some (.int .i64 (c.getD k (0, 0, 0)).2.1))
    (h2 : ∀ k, k < m → w.cell? ⟨cb, co + k * 3 + 2, none⟩ = some (.int .i64 (c.getD k (0, 0, 0)).2.2)) :
    Calls Try.prog 53 #[.int .i64 (n : Int), .slice ca m cap] w fun e w' => e = .returned (.slice (some ⟨w.heap.size, 0, none⟩) n n) ∧ Grid w w' n (wz c m) := by
  have hm200 : m ≤ 200 := by rw [hm]; exact hgc.1
  have HM := Lib.hid hm
  clear hm
  have hmk22 := run_make_row' (P := Try.prog) 63 22 (.slice none 0 0) 24 Try.underlying63 info22 rfl .i64 .i64 n (by omega) (by omega)
  go_enter Try.func53, Try.ntmps53
  go_wp2
  clear hmk22
  go_loopg [13] n (fun g i wr => ∃ r : Nat, r ≤ n ∧ g = n - r ∧ i = .int .i64 r ∧ Outer w wr n r)
  case atStart => exact ⟨0, Nat.zero_le _, rfl, rfl, outer_start w n⟩
  case round =>
    obtain ⟨r, hrn, rfl, rfl, hO⟩ := hrel
    by_cases hrG : r < n
    · have hrz : (r : Int) < (n : Int) := by omega
      have hsize := hO.size
      have hmk23 := run_make_row' (P := Try.prog) 22 3 (.int .i64 0) 8 Try.underlying22 info3 rfl .i64 .i64 n (by omega) (by omega)
      have hst1 : ∀ o, (wr.alloc o).cell? ⟨w.heap.size, r, none⟩ = some (top w.heap.size n r r) := fun o => (hO.top.alloc o).cell hrG
      have hst2 : ∀ o, (wr.alloc o).frozen? ⟨w.heap.size, r, none⟩ = false := fun o => (hO.top.alloc o).frozen r
      go_wp2
      have hO1 := outer_step hO
      clear hmk23 hst1 hst2
      go_roundg (n - (r + 1))
      case measure => go_light; omega
      case rel => go_light; exact ⟨r + 1, by omega, rfl, by simp, hO1⟩
    · have hrz : ¬ ((r : Int) < (n : Int)) := by omega
      obtain rfl : r = n := by omega
      have hG0 := grid_start hO
      clear hO
      go_wp2
      go_loopg [24] m (fun g i wi => ∃ k : Nat, k ≤ m ∧ g = m - k ∧ i = .int .i64 k ∧ Grid w wi r (wz c k))
      case atStart => exact ⟨0, Nat.zero_le _, rfl, rfl, hG0.congr fun i j _ _ => by simp [wz, wt, sumBy]⟩
      case round =>
        obtain ⟨k, hk, rfl, rfl, hI⟩ := hrel
        clear hG0
        by_cases hkm : k < m
        · obtain rfl := hca (by omega)
          have hkz : (k : Int) < (m : Int) := by omega
          have hcb : cb < w.heap.size := World.block_lt_of_cell? _ _ (h0 k hkm)
          obtain ⟨f, t, q, hx, hf, ht, hq0, hq1⟩ : ∃ (f t : Nat) (q : Int), c.getD k (0, 0, 0) = ((f : Int), (t : Int), q) ∧ f < r ∧ t < r ∧ 0 ≤ q ∧ q ≤ 1000000 := by
            obtain ⟨q1, q2, q3, q4⟩ := hr k hkm
            have q5 := hgc.2 _ (getD_memL (0, 0, 0) (show k < c.length by have := HM.out; omega))
            refine ⟨(c.getD k (0, 0, 0)).1.toNat, (c.getD k (0, 0, 0)).2.1.toNat, (c.getD k (0, 0, 0)).2.2, Prod.ext (by simp only; omega) (Prod.ext (by simp only; omega) rfl), by omega, by omega, by omega, by omega⟩
          have g0 : wr.cell? ⟨cb, co + k * 3, none⟩ = some (.int .i64 (f : Int)) := by rw [hI.since.cell (a := ⟨cb, co + k * 3, none⟩) hcb, h0 k hkm, hx]
          have g1 : wr.cell? ⟨cb, co + k * 3 + 1, none⟩ = some (.int .i64 (t : Int)) := by rw [hI.since.cell (a := ⟨cb, co + k * 3 + 1, none⟩) hcb, h1 k hkm, hx]
          have g2 : wr.cell? ⟨cb, co + k * 3 + 2, none⟩ = some (.int .i64 q) := by rw [hI.since.cell (a := ⟨cb, co + k * 3 + 2, none⟩) hcb, h2 k hkm, hx]
          have HX : Hid (c.getD k (0, 0, 0) = ((f : Int), (t : Int), q)) := Lib.hid hx
          clear hx
          have HG := hI.alloc (.cells #[.int .i64 f, .int .i64 t, .int .i64 q] 40)
          by_cases hft : f = t
          · subst hft
            go_wp2
            go_roundg (m - (k + 1))
            case measure => go_light; omega
            case rel =>
              go_light
              have hx := HX.out
              refine ⟨k + 1, by omega, rfl, by simp, HG.congr fun i j _ _ => ?_⟩
              have hkl : k < c.length := by have := HM.out; omega
              rw [wz_succ hkl hx i j]
              by_cases p3 : i = j
              · subst p3; rw [if_pos rfl]; exact wz_self c k i
              · rw [if_neg p3, if_neg (by omega)]; omega
          · have hne : (f : Int) ≠ (t : Int) := by omega
            have hz1 : 0 ≤ wz c k f t ∧ wz c k f t ≤ 200000000 := wz_bd hgc k f t
            have hz2 : 0 ≤ wz c k t f ∧ wz c k t f ≤ 200000000 := wz_bd hgc k t f
            obtain ⟨z1, hz1'⟩ : ∃ z, z = wz c k f t := ⟨_, rfl⟩
            obtain ⟨z2, hz2'⟩ : ∃ z, z = wz c k t f := ⟨_, rfl⟩
            rw [← hz1'] at hz1
            rw [← hz2'] at hz2
            have HZ1 := Lib.hid hz1'
            have HZ2 := Lib.hid hz2'
            clear hz1' hz2'
            have n1 : wr.heap.size ≠ w.heap.size + 1 + f := by have := hI.size; omega
            go_wp2
            generalize hw1 : wr.alloc (.cells #[.int .i64 f, .int .i64 t, .int .i64 q] 40) = w1 at HG
            have b0 : w1.cell? ⟨wr.heap.size, 0, none⟩ = some (.int .i64 f) := by rw [← hw1]; simp
            have b1 : w1.cell? ⟨wr.heap.size, 1, none⟩ = some (.int .i64 t) := by rw [← hw1]; simp
            have b2 : w1.cell? ⟨wr.heap.size, 2, none⟩ = some (.int .i64 q) := by rw [← hw1]; simp
            have HW1 := Lib.hid hw1
            clear hw1 g0 g1 g2
            have c1 : w1.cell? ⟨w.heap.size, f, none⟩ = some (.slice (some ⟨w.heap.size + 1 + f, 0, none⟩) r r) := by simpa [top, hf] using HG.top.cell hf
            have c2 : w1.cell? ⟨w.heap.size + 1 + f, t, none⟩ = some (.int .i64 z1) := by rw [HZ1.out]; exact (HG.done f hf).cell ht
            have c3 : w1.frozen? ⟨w.heap.size + 1 + f, t, none⟩ = false := (HG.done f hf).frozen t
            go_region
            have HG2 := (HG.set (a := f) (b := t) (z1 + q)).drew
            generalize hw2 : (w1.setCell ⟨w.heap.size + 1 + f, t, none⟩ (.int .i64 (z1 + q))).drew = w2 at HG2
            have d0 : w2.cell? ⟨wr.heap.size, 0, none⟩ = some (.int .i64 f) := by rw [← hw2]; simpa [World.cell?_setCell_other, n1] using b0
            have d1 : w2.cell? ⟨wr.heap.size, 1, none⟩ = some (.int .i64 t) := by rw [← hw2]; simpa [World.cell?_setCell_other, n1] using b1
            have d2 : w2.cell? ⟨wr.heap.size, 2, none⟩ = some (.int .i64 q) := by rw [← hw2]; simpa [World.cell?_setCell_other, n1] using b2
            have HW2 := Lib.hid hw2
            clear hw2 b0 b1 b2 c1 c2 c3 n1
            have c1 : w2.cell? ⟨w.heap.size, t, none⟩ = some (.slice (some ⟨w.heap.size + 1 + t, 0, none⟩) r r) := by simpa [top, ht] using HG2.top.cell ht
            have c2 : w2.cell? ⟨w.heap.size + 1 + t, f, none⟩ = some (.int .i64 z2) := by
              rw [HZ2.out, (HG2.done t ht).cell hf, if_neg (by omega)]
            have c3 : w2.frozen? ⟨w.heap.size + 1 + t, f, none⟩ = false := (HG2.done t ht).frozen f
            go_wp2
            have HG3 := (HG2.set (a := t) (b := f) (z2 + q)).drew
            go_region
            generalize hw3 : (w2.setCell ⟨w.heap.size + 1 + t, f, none⟩ (.int .i64 (z2 + q))).drew = w3 at HG3
            have HW3 := Lib.hid hw3
            clear hw3 d0 d1 d2 c1 c2 c3
            go_wp2
            go_roundg (m - (k + 1))
            case measure => go_light; omega
            case rel =>
              go_light
              have hx := HX.out
              have hkl : k < c.length := by have := HM.out; omega
              refine ⟨k + 1, by omega, rfl, by simp, HG3.congr fun i j _ _ => ?_⟩
              rw [wz_succ hkl hx i j, HZ1.out, HZ2.out]
              by_cases p1 : i = t ∧ j = f
              · rw [if_pos p1, if_neg (by omega), if_pos (.inr (by omega)), p1.1, p1.2]
              · rw [if_neg p1]
                by_cases p2 : i = f ∧ j = t
                · rw [if_pos p2, if_neg (by omega), if_pos (.inl (by omega)), p2.1, p2.2]
                · rw [if_neg p2]
                  by_cases p3 : i = j
                  · subst p3; rw [if_pos rfl]; exact wz_self c k i
                  · rw [if_neg p3, if_neg (by omega)]; omega
        · have hkz : ¬ ((k : Int) < (m : Int)) := by omega
          have HK : Hid (k = m) := Lib.hid (by omega)
          go_wp2
          go_ret
          have hkm := HK.out
          subst hkm
          exact ⟨rfl, hI⟩
end Go.Proofs.Wts
