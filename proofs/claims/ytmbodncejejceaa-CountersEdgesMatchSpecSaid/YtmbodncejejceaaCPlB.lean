/- A text of the engine or of the contracts. -/
import Derived.Test.YtmbodncejejceaaCPlA
set_option linter.all false
/- Plain laws: a forest has a leaf; the computation ends with all counts known. -/
namespace Go.Eng

/-! ### A forest has a leaf -/
theorem Acyc.pre {A B : List NE} (h : Acyc (A ++ B)) : Acyc A := by
  induction B using list_snoc with
  | nil => simpa using h
  | snoc B e ih => rw [← List.append_assoc] at h; exact ih (Acyc.snoc.1 h).1
theorem Acyc.filter {A : List NE} (q : NE → Bool) (h : Acyc A) : Acyc (A.filter q) := (h.perm (List.filter_append_perm q A).symm).pre
theorem Acyc.nonloop {A : List NE} (h : Acyc A) {e : NE} (he : e ∈ A) : e.1 ≠ e.2 := by
  obtain ⟨k, hk, rfl⟩ := List.getElem_of_mem he
  have := h k hk
  rw [getD_eq hk] at this
  exact fun e => this (by rw [e])
/-- A node that no edge touches is its own class. -/
theorem rtOf_free {v : Nat} (E : List NE) (h : ∀ e ∈ E, e.1 ≠ v ∧ e.2 ≠ v) : ∀ x, rtOf E x = v ↔ x = v := by
  induction E using list_snoc with
  | nil => intro x; rw [rtOf_nil]
  | snoc E e ih =>
    have ih := ih fun e he => h e (List.mem_append_left _ he)
    obtain ⟨h1, h2⟩ := h e (by simp)
    intro x
    rw [rtOf_snoc]; unfold mrg
    by_cases hx : rtOf E x = rtOf E e.1
    · rw [if_pos hx]
      constructor
      · intro h3; exact absurd ((ih _).1 h3) h2
      · intro h3
        rw [h3, (ih v).2 rfl] at hx
        exact absurd ((ih _).1 hx.symm) h1
    · rw [if_neg hx]; exact ih x
def deg (U : List NE) (v : Nat) : Int := (U.filter fun e => decide (cfN v e ≠ 0)).length
theorem deg_cons (e : NE) (U : List NE) (v : Nat) : deg (e :: U) v = deg U v + if cfN v e ≠ 0 then 1 else 0 := by
  unfold deg
  by_cases h : cfN v e ≠ 0
  · rw [List.filter_cons_of_pos (by simpa using h), if_pos h]; simp
  · rw [List.filter_cons_of_neg (by simpa using h), if_neg h]; simp
theorem touch_sum {e : NE} {M : Nat} (h1 : e.1 < M) (h2 : e.2 < M) (hne : e.1 ≠ e.2) : sumN (fun v => if cfN v e ≠ 0 then (1 : Int) else 0) M = 2 := by
  have : ∀ v, (if cfN v e ≠ 0 then (1 : Int) else 0) = (if (fun _ : Nat => true) v = true then (if e.1 = v then 1 else 0) else 0) + (if (fun _ : Nat => true) v = true then (if e.2 = v then 1 else 0) else 0) := fun v => by
    unfold cfN
    by_cases a : e.1 = v <;> by_cases b : e.2 = v
    · exact absurd (a.trans b.symm) hne
    · simp [a, b]
    · simp [a, b]
    · simp [a, b]
  rw [sumN_congr fun v _ => this v, sumN_add, sum_ind _ _ _ h1, sum_ind _ _ _ h2]
  simp
theorem deg_sum {M : Nat} : ∀ {U : List NE}, InN M U → (∀ e ∈ U, e.1 ≠ e.2) → sumN (deg U) M = 2 * U.length
  | [], _, _ => by rw [sumN_zero (f := deg []) fun _ _ => rfl]; rfl
  | e :: U, hN, hl => by
    have hn := hN e List.mem_cons_self
    rw [sumN_congr fun v _ => deg_cons e U v, sumN_add, deg_sum (fun x hx => hN x (List.mem_cons_of_mem _ hx)) (fun x hx => hl x (List.mem_cons_of_mem _ hx)), touch_sum hn.1 hn.2 (hl e List.mem_cons_self)]
    simp only [List.length_cons, Int.natCast_add]; omega
theorem len_filter_sum (p : Nat → Bool) : ∀ M : Nat, (((List.range M).filter p).length : Int) = sumN (fun v => if p v = true then 1 else 0) M
  | 0 => rfl
  | M + 1 => by
    rw [List.range_succ, List.filter_append, List.length_append, Int.natCast_add, len_filter_sum p M]
    simp only [sumN]
    by_cases h : p M = true
    · simp [h]
    · simp [h]
theorem leaf {M : Nat} {U : List NE} (hN : InN M U) (hA : Acyc U) (hne : U ≠ []) : ∃ v, v < M ∧ deg U v = 1 := by
  apply Classical.byContradiction
  intro hno
  have hnl : ∀ e ∈ U, e.1 ≠ e.2 := fun e he => hA.nonloop he
  have hdeg0 : ∀ v, 0 ≤ deg U v := fun v => by unfold deg; omega
  have hdeg : ∀ v, v < M → deg U v ≠ 1 := fun v hv h => hno ⟨v, hv, h⟩
  -- nodes that are touched
  have hfree : ∀ v, deg U v = 0 → ∀ e ∈ U, e.1 ≠ v ∧ e.2 ≠ v := fun v h e he => by
    have : (U.filter fun e => decide (cfN v e ≠ 0)) = [] := List.length_eq_zero_iff.1 (by unfold deg at h; omega)
    have h2 := List.filter_eq_nil_iff.1 this e he
    have h3 : cfN v e = 0 := by simpa using h2
    have h4 := hnl e he
    unfold cfN at h3
    by_cases a : e.1 = v <;> by_cases b : e.2 = v
    · exact absurd (a.trans b.symm) h4
    · simp [a, b] at h3
    · simp [a, b] at h3
    · exact ⟨a, b⟩
  have hs := deg_sum hN hnl
  have h2 : sumN (fun v => if decide (deg U v ≠ 0) = true then (2 : Int) else 0) M ≤ sumN (deg U) M := sumN_le fun v hv => by
    have := hdeg0 v
    have := hdeg v hv
    by_cases e : deg U v = 0
    · simp [e]
    · simp [e]; omega
  have h3 : sumN (fun v => if decide (deg U v ≠ 0) = true then (2 : Int) else 0) M = 2 * (((List.range M).filter fun v => decide (deg U v ≠ 0)).length : Int) := by
    rw [len_filter_sum, Int.mul_comm, ← sumN_mul]
    exact sumN_congr fun v _ => by split <;> rfl
  -- the classes
  obtain ⟨e, he⟩ := List.exists_mem_of_ne_nil _ hne
  have hr := (roots_len U hN).2.1 hA
  have hrt : rtOf U e.1 < M := rtOf_lt U hN _ (hN e he).1
  have hrd : deg U (rtOf U e.1) ≠ 0 := fun h0 => by
    have hf := hfree _ h0
    have := (rtOf_free U hf e.1).1 rfl
    exact (hf e he).1 this
  have h4 : ((List.range M).filter fun v => decide (deg U v = 0)).length + 1 ≤ (roots (rtOf U) M).length := by
    have hnd : (rtOf U e.1 :: (List.range M).filter fun v => decide (deg U v = 0)).Nodup := List.nodup_cons.2 ⟨fun hm => by
      simp only [List.mem_filter, decide_eq_true_eq] at hm; exact hrd hm.2, List.nodup_range.sublist List.filter_sublist⟩
    have := nodup_sub (m := roots (rtOf U) M) hnd fun x hx => by
      rcases List.mem_cons.1 hx with rfl | hx
      · exact mem_roots.2 ⟨hrt, rtOf_idem U _⟩
      · simp only [List.mem_filter, List.mem_range, decide_eq_true_eq] at hx
        exact mem_roots.2 ⟨hx.1, (rtOf_free U (hfree x hx.2) x).2 rfl⟩
    simpa using this
  have h5 : ((List.range M).filter fun v => decide (deg U v = 0)).length + ((List.range M).filter fun v => decide (deg U v ≠ 0)).length = M := by
    have := (List.filter_append_perm (fun v => decide (deg U v = 0)) (List.range M)).length_eq
    rw [List.length_append, List.length_range] at this
    have e2 : ((List.range M).filter fun v => !decide (deg U v = 0)) = (List.range M).filter fun v => decide (deg U v ≠ 0) := List.filter_congr fun v _ => by simp
    rw [e2] at this; exact this
  omega

/-! ### The scan of the edges at a node -/
def scanS (E : Nat → NE) (n : Nat) (kn : Nat → Bool) (c : Nat → Int) (v : Nat) : Nat → Int × Int
  | 0 => (-1, 0)
  | i + 1 => if cfN v (E i) = 0 then scanS E n kn c v i else if kn i = false then (if 0 ≤ (scanS E n kn c v i).1 then ((n : Int), (scanS E n kn c v i).2) else ((i : Int), (scanS E n kn c v i).2))
    else if (E i).1 = v then ((scanS E n kn c v i).1, (scanS E n kn c v i).2 + c i) else ((scanS E n kn c v i).1, (scanS E n kn c v i).2 - c i)
theorem scan_sum (E : Nat → NE) (n : Nat) (kn : Nat → Bool) (c : Nat → Int) (v : Nat) : ∀ i, (scanS E n kn c v i).2 = res E i kn c v
  | 0 => rfl
  | i + 1 => by
    have ih := scan_sum E n kn c v i
    unfold scanS res sumN
    rw [show sumN (fun i => if kn i = true then cfN v (E i) * c i else 0) i = res E i kn c v from rfl, ← ih]
    by_cases h : cfN v (E i) = 0
    · rw [if_pos h, h]; simp
    · rw [if_neg h]
      cases hk : kn i with
      | false => simp; split <;> rfl
      | true =>
        rw [if_neg (by simp), if_pos rfl]
        unfold cfN at h ⊢
        by_cases a : (E i).1 = v <;> by_cases b : (E i).2 = v
        · simp [a, b] at h
        · simp [a, b]
        · simp [a, b]; omega
        · simp [a, b] at h
theorem scan_open (E : Nat → NE) (n : Nat) (kn : Nat → Bool) (c : Nat → Int) (v : Nat) : ∀ i, i ≤ n →
    ((scanS E n kn c v i).1 = -1 ∧ ∀ j, j < i → kn j = false → cfN v (E j) = 0) ∨
    (∃ o : Nat, o < i ∧ (scanS E n kn c v i).1 = o ∧ kn o = false ∧ cfN v (E o) ≠ 0 ∧ ∀ j, j < i → kn j = false → j ≠ o → cfN v (E j) = 0) ∨
    ((scanS E n kn c v i).1 = n ∧ ∃ o p : Nat, o < i ∧ p < i ∧ o ≠ p ∧ kn o = false ∧ kn p = false ∧ cfN v (E o) ≠ 0 ∧ cfN v (E p) ≠ 0)
  | 0, _ => .inl ⟨rfl, fun j hj => by omega⟩
  | i + 1, hi => by
    have ih := scan_open E n kn c v i (by omega)
    unfold scanS
    by_cases h : cfN v (E i) = 0
    · rw [if_pos h]
      rcases ih with ⟨h1, h2⟩ | ⟨o, h1, h2, h3, h4, h5⟩ | ⟨h1, o, p, h2, h3, h4⟩
      · refine .inl ⟨h1, fun j hj hk => ?_⟩
        by_cases e : j = i
        · rw [e]; exact h
        · exact h2 j (by omega) hk
      · refine .inr (.inl ⟨o, by omega, h2, h3, h4, fun j hj hk hne => ?_⟩)
        by_cases e : j = i
        · rw [e]; exact h
        · exact h5 j (by omega) hk hne
      · exact .inr (.inr ⟨h1, o, p, by omega, by omega, h4⟩)
    · rw [if_neg h]
      cases hk : kn i with
      | false =>
        rw [if_pos rfl]
        rcases ih with ⟨h1, h2⟩ | ⟨o, h1, h2, h3, h4, h5⟩ | ⟨h1, o, p, h2, h3, h4, h5⟩
        · rw [if_neg (by omega)]
          refine .inr (.inl ⟨i, by omega, rfl, hk, h, fun j hj hk2 hne => h2 j (by omega) hk2⟩)
        · rw [if_pos (by omega)]
          exact .inr (.inr ⟨rfl, o, i, by omega, by omega, by omega, h3, hk, h4, h⟩)
        · rw [if_pos (by omega)]
          exact .inr (.inr ⟨rfl, o, p, by omega, by omega, h4, h5⟩)
      | true =>
        rw [if_neg (by simp)]
        have key : ∀ q : Int × Int, q.1 = (scanS E n kn c v i).1 →
          (q.1 = -1 ∧ ∀ j, j < i + 1 → kn j = false → cfN v (E j) = 0) ∨
          (∃ o : Nat, o < i + 1 ∧ q.1 = o ∧ kn o = false ∧ cfN v (E o) ≠ 0 ∧ ∀ j, j < i + 1 → kn j = false → j ≠ o → cfN v (E j) = 0) ∨
          (q.1 = n ∧ ∃ o p : Nat, o < i + 1 ∧ p < i + 1 ∧ o ≠ p ∧ kn o = false ∧ kn p = false ∧ cfN v (E o) ≠ 0 ∧ cfN v (E p) ≠ 0) := fun q hq => by
          rw [hq]
          rcases ih with ⟨h1, h2⟩ | ⟨o, h1, h2, h3, h4, h5⟩ | ⟨h1, o, p, h2, h3, h4⟩
          · refine .inl ⟨h1, fun j hj hk2 => ?_⟩
            by_cases e : j = i
            · rw [e, hk] at hk2; cases hk2
            · exact h2 j (by omega) hk2
          · refine .inr (.inl ⟨o, by omega, h2, h3, h4, fun j hj hk2 hne => ?_⟩)
            by_cases e : j = i
            · rw [e, hk] at hk2; cases hk2
            · exact h5 j (by omega) hk2 hne
          · exact .inr (.inr ⟨h1, o, p, by omega, by omega, h4⟩)
        split
        · exact key _ rfl
        · exact key _ rfl
end Go.Eng

/- Plain laws: the computation of counts, over lists. -/
namespace Go.Eng

abbrev KC := List Bool × List Int
def knF (s : KC) : Nat → Bool := fun i => s.1.getD i false
def ctF (s : KC) : Nat → Int := fun i => s.2.getD i 0
def edF (L : List Pr) : Nat → NE := fun i => sh (L.getD i (0, 0))
/-- One node. -/
def nodeL (L : List Pr) (v : Int) (s : KC) : KC :=
  let p := scanS (edF L) L.length (knF s) (ctF s) (nd v) L.length
  if p.1 < 0 ∨ p.1 = L.length then s else (s.1.set p.1.toNat true, s.2.set p.1.toNat (if (L.getD p.1.toNat (0, 0)).1 = v then -p.2 else p.2))
def openAt (L : List Pr) (v : Int) (s : KC) : Bool :=
  let p := scanS (edF L) L.length (knF s) (ctF s) (nd v) L.length
  !(decide (p.1 < 0) || decide (p.1 = L.length))
def sweepTo (L : List Pr) (s : KC) : Nat → KC × Bool
  | 0 => (s, false)
  | k + 1 => (nodeL L ((k : Int) - 1) (sweepTo L s k).1, (sweepTo L s k).2 || openAt L ((k : Int) - 1) (sweepTo L s k).1)
def solveL (L : List Pr) (N : Nat) : Nat → KC → KC
  | 0, s => s
  | f + 1, s => if (sweepTo L s (N + 1)).2 then solveL L N f (sweepTo L s (N + 1)).1 else (sweepTo L s (N + 1)).1
def unk (s : KC) : Nat := (s.1.filter fun b => !b).length

structure SolPre (L : List Pr) (N : Nat) : Prop where
  rng : ∀ x ∈ L, (-1 ≤ x.1 ∧ x.1 < N) ∧ -1 ≤ x.2 ∧ x.2 < N
theorem SolPre.ed {L : List Pr} {N : Nat} (h : SolPre L N) {i : Nat} (hi : i < L.length) : (edF L i).1 < N + 1 ∧ (edF L i).2 < N + 1 := by
  have := h.rng _ (getD_memL (0, 0) hi)
  simp only [edF, sh, nd]; omega

/-- What holds all the time. -/
structure InvK (L : List Pr) (N : Nat) (k0 : Nat → Bool) (c0 : Nat → Int) (s : KC) : Prop where
  l1 : s.1.length = L.length
  l2 : s.2.length = L.length
  inv : ∃ rt, InvS (edF L) L.length (N + 1) k0 c0 (knF s) (ctF s) rt

theorem knF_set {s : KC} {o : Nat} (ho : o < s.1.length) (x : Int) : knF (s.1.set o true, s.2.set o x) = updF (knF s) o true := funext fun i => by
  unfold knF updF
  simp only
  rw [getD_set]
  by_cases e : o = i
  · rw [if_pos ⟨e, ho⟩, if_pos e.symm]
  · rw [if_neg (fun h => e h.1), if_neg (Ne.symm e)]
theorem ctF_set {s : KC} {o : Nat} (ho : o < s.2.length) (x : Int) : ctF (s.1.set o true, s.2.set o x) = updF (ctF s) o x := funext fun i => by
  unfold ctF updF
  simp only
  rw [getD_set]
  by_cases e : o = i
  · rw [if_pos ⟨e, ho⟩, if_pos e.symm]
  · rw [if_neg (fun h => e h.1), if_neg (Ne.symm e)]
theorem unk_set : ∀ {l : List Bool} {o : Nat}, o < l.length → l.getD o false = false → ((l.set o true).filter fun b => !b).length + 1 = (l.filter fun b => !b).length
  | [], o, h, _ => by simp at h
  | b :: l, 0, _, h => by
    simp at h; subst h; simp
  | b :: l, o + 1, h, h2 => by
    have ih := unk_set (l := l) (o := o) (by simpa using h) (by simpa using h2)
    cases b <;> simp at ih ⊢ <;> omega

theorem InvK.node {L : List Pr} {N : Nat} {k0 : Nat → Bool} {c0 : Nat → Int} {s : KC} (h : InvK L N k0 c0 s) (hp : SolPre L N) (hnl : ∀ i, i < L.length → k0 i = false → (edF L i).1 ≠ (edF L i).2) {v : Int} (hv : -1 ≤ v ∧ v < N) :
    InvK L N k0 c0 (nodeL L v s) ∧ (openAt L v s = true → unk (nodeL L v s) + 1 = unk s) ∧ (openAt L v s = false → nodeL L v s = s) := by
  obtain ⟨l1, l2, rt, hI⟩ := h
  have hvM : nd v < N + 1 := by unfold nd; omega
  have hsum := scan_sum (edF L) L.length (knF s) (ctF s) (nd v) L.length
  rcases scan_open (edF L) L.length (knF s) (ctF s) (nd v) L.length (Nat.le_refl _) with ⟨h1, h2⟩ | ⟨o, h1, h2, h3, h4, h5⟩ | ⟨h1, _⟩
  · have e1 : nodeL L v s = s := by unfold nodeL; simp only; rw [if_pos (.inl (by omega))]
    have e2 : openAt L v s = false := by unfold openAt; simp [h1]
    rw [e1, e2]
    exact ⟨⟨l1, l2, rt, hI⟩, (fun h => by cases h), fun _ => rfl⟩
  · have hnx : ¬((scanS (edF L) L.length (knF s) (ctF s) (nd v) L.length).1 < 0 ∨ (scanS (edF L) L.length (knF s) (ctF s) (nd v) L.length).1 = L.length) := by omega
    have ho : (scanS (edF L) L.length (knF s) (ctF s) (nd v) L.length).1.toNat = o := by omega
    have hrng := hp.rng _ (getD_memL (0, 0) h1)
    have hval : (if (L.getD o (0, 0)).1 = v then -(scanS (edF L) L.length (knF s) (ctF s) (nd v) L.length).2 else (scanS (edF L) L.length (knF s) (ctF s) (nd v) L.length).2) = -(cfN (nd v) (edF L o)) * res (edF L) L.length (knF s) (ctF s) (nd v) := by
      rw [hsum]
      have hne := hnl o h1 (by
        cases h0 : k0 o with
        | false => rfl
        | true => rw [(hI.old o h1 h0).1] at h3; cases h3)
      unfold cfN at h4 ⊢
      by_cases a : (L.getD o (0, 0)).1 = v
      · have a' : (edF L o).1 = nd v := by simp only [edF, sh, a]
        have b' : ¬ (edF L o).2 = nd v := fun b => hne (a'.trans b.symm)
        rw [if_pos a, if_pos a', if_neg b']; omega
      · have a' : ¬ (edF L o).1 = nd v := fun h => a (nd_inj hrng.1.1 hv.1 h)
        by_cases b' : (edF L o).2 = nd v
        · rw [if_neg a, if_neg a', if_pos b']; omega
        · rw [if_neg a', if_neg b'] at h4; omega
    have e1 : nodeL L v s = (s.1.set o true, s.2.set o (-(cfN (nd v) (edF L o)) * res (edF L) L.length (knF s) (ctF s) (nd v))) := by
      unfold nodeL; simp only; rw [if_neg hnx, ho, hval]
    have e2 : openAt L v s = true := by unfold openAt; simp; omega
    obtain ⟨rt', hI'⟩ := hI.step (fun i hi => hp.ed hi) hvM h1 h3 h4 (fun i hi hk hne => h5 i hi hk hne) hnl
    rw [e1, e2]
    refine ⟨⟨by simp [l1], by simp [l2], rt', ?_⟩, fun _ => unk_set (by omega) h3, fun h => by cases h⟩
    rw [knF_set (by omega), ctF_set (by omega)]; exact hI'
  · have e1 : nodeL L v s = s := by unfold nodeL; simp only; rw [if_pos (.inr h1)]
    have e2 : openAt L v s = false := by unfold openAt; simp [h1]
    rw [e1, e2]
    exact ⟨⟨l1, l2, rt, hI⟩, (fun h => by cases h), fun _ => rfl⟩

theorem InvK.sweep {L : List Pr} {N : Nat} {k0 : Nat → Bool} {c0 : Nat → Int} {s : KC} (h : InvK L N k0 c0 s) (hp : SolPre L N) (hnl : ∀ i, i < L.length → k0 i = false → (edF L i).1 ≠ (edF L i).2) : ∀ k : Nat, k ≤ N + 1 →
    InvK L N k0 c0 (sweepTo L s k).1 ∧ ((sweepTo L s k).2 = true → unk (sweepTo L s k).1 + 1 ≤ unk s) ∧ ((sweepTo L s k).2 = false → (sweepTo L s k).1 = s ∧ ∀ j, j < k → openAt L ((j : Int) - 1) s = false)
  | 0, _ => ⟨h, (fun h => by cases h), fun _ => ⟨rfl, fun j hj => by omega⟩⟩
  | k + 1, hk => by
    obtain ⟨i1, i2, i3⟩ := InvK.sweep h hp hnl k (by omega)
    obtain ⟨n1, n2, n3⟩ := i1.node hp hnl (v := (k : Int) - 1) (by omega)
    simp only [sweepTo]
    refine ⟨n1, fun hc => ?_, fun hc => ?_⟩
    · cases ho : openAt L ((k : Int) - 1) (sweepTo L s k).1 with
      | true =>
        have := n2 ho
        cases hs : (sweepTo L s k).2 with
        | true => have := i2 hs; omega
        | false => rw [(i3 hs).1] at this ⊢; omega
      | false =>
        rw [ho, Bool.or_false] at hc
        rw [n3 ho]; exact i2 hc
    · simp only [Bool.or_eq_false_iff] at hc
      obtain ⟨c1, c2⟩ := hc
      obtain ⟨j1, j2⟩ := i3 c1
      rw [n3 c2]
      refine ⟨j1, fun j hj => ?_⟩
      by_cases e : j = k
      · rw [e]; rw [j1] at c2; exact c2
      · exact j2 j (by omega)

/-- At the end: nothing is open at any node. -/
theorem InvK.solve {L : List Pr} {N : Nat} {k0 : Nat → Bool} {c0 : Nat → Int} (hp : SolPre L N) (hnl : ∀ i, i < L.length → k0 i = false → (edF L i).1 ≠ (edF L i).2) : ∀ (f : Nat) {s : KC}, InvK L N k0 c0 s → unk s < f →
    InvK L N k0 c0 (solveL L N f s) ∧ ∀ j, j < N + 1 → openAt L ((j : Int) - 1) (solveL L N f s) = false
  | 0, _, _, h => by omega
  | f + 1, s, h, hf => by
    obtain ⟨i1, i2, i3⟩ := h.sweep hp hnl (N + 1) (Nat.le_refl _)
    unfold solveL
    cases hs : (sweepTo L s (N + 1)).2 with
    | true =>
      rw [if_pos rfl]
      exact InvK.solve hp hnl f i1 (by have := i2 hs; omega)
    | false =>
      rw [if_neg (by simp)]
      obtain ⟨j1, j2⟩ := i3 hs
      rw [j1]; exact ⟨h, j2⟩

/-- The edges that are not known. -/
def unkE (L : List Pr) (kn : Nat → Bool) : List NE := ((List.range L.length).filter fun i => !kn i).map (edF L)
theorem unk_acyc {L : List Pr} {kn k0 : Nat → Bool} (h : ∀ i, i < L.length → k0 i = true → kn i = true) (hA : Acyc (unkE L k0)) : Acyc (unkE L kn) := by
  have e : (List.range L.length).filter (fun i => !kn i) = ((List.range L.length).filter fun i => !k0 i).filter fun i => !kn i := by
    rw [List.filter_filter]
    refine List.filter_congr fun i hi => ?_
    have := h i (List.mem_range.1 hi)
    cases hk : k0 i with
    | false => simp
    | true => rw [this hk]; simp
  have hp : (((List.range L.length).filter fun i => !k0 i).filter (fun i => !kn i) ++ ((List.range L.length).filter fun i => !k0 i).filter (fun i => !!kn i)).Perm ((List.range L.length).filter fun i => !k0 i) := List.filter_append_perm _ _
  have hp2 := hp.map (edF L)
  rw [List.map_append] at hp2
  unfold unkE
  rw [e]
  exact (hA.perm hp2.symm).pre
theorem all_known {L : List Pr} {N : Nat} {s : KC} (hp : SolPre L N) (hA : Acyc (unkE L (knF s))) (ho : ∀ j, j < N + 1 → openAt L ((j : Int) - 1) s = false) : ∀ i, i < L.length → knF s i = true := by
  apply Classical.byContradiction
  intro hno
  obtain ⟨i, hi⟩ := Classical.not_forall.1 hno
  obtain ⟨hi, hk⟩ := Classical.not_imp.1 hi
  have hk : knF s i = false := by simpa using hk
  have hmem : ∀ j, j < L.length → knF s j = false → edF L j ∈ unkE L (knF s) := fun j hj hkj => List.mem_map.2 ⟨j, by simp [hj, hkj], rfl⟩
  have hN : InN (N + 1) (unkE L (knF s)) := fun e he => by
    obtain ⟨j, hj, rfl⟩ := List.mem_map.1 he
    exact hp.ed (by simpa using (List.mem_filter.1 hj).1)
  obtain ⟨v, hv, hd⟩ := leaf hN hA (List.ne_nil_of_mem (hmem i hi hk))
  have hop := ho v hv
  have hnd : nd ((v : Int) - 1) = v := by unfold nd; omega
  -- exactly one edge is open at v
  unfold deg unkE at hd
  rw [List.filter_map, List.length_map] at hd
  have hlen : (((List.range L.length).filter fun i => !knF s i).filter ((fun e => decide (cfN v e ≠ 0)) ∘ edF L)).length = 1 := by omega
  obtain ⟨o, ho1⟩ := List.length_eq_one_iff.1 hlen
  have hmo : ∀ j, (j < L.length ∧ knF s j = false ∧ cfN v (edF L j) ≠ 0) ↔ j = o := fun j => by
    have : j ∈ (((List.range L.length).filter fun i => !knF s i).filter ((fun e => decide (cfN v e ≠ 0)) ∘ edF L)) ↔ j ∈ [o] := by rw [ho1]
    simp only [List.mem_filter, List.mem_range, Function.comp_apply, decide_eq_true_eq, List.mem_singleton, Bool.not_eq_true'] at this
    rw [← this]; exact ⟨fun ⟨a, b, c⟩ => ⟨⟨a, b⟩, c⟩, fun ⟨⟨a, b⟩, c⟩ => ⟨a, b, c⟩⟩
  obtain ⟨o1, o2, o3⟩ := (hmo o).2 rfl
  unfold openAt at hop
  rw [hnd] at hop
  rcases scan_open (edF L) L.length (knF s) (ctF s) v L.length (Nat.le_refl _) with ⟨h1, h2⟩ | ⟨q, h1, h2, h3, h4, h5⟩ | ⟨h1, q, p, q1, q2, q3, q4, q5, q6, q7⟩
  · exact o3 (h2 o o1 o2)
  · simp [h2] at hop; omega
  · exact q3 (((hmo q).1 ⟨q1, q4, q6⟩).trans ((hmo p).1 ⟨q2, q5, q7⟩).symm)
end Go.Eng
namespace Go.Eng
/-! ### One step of the scan -/
theorem cf_zero {e : Pr} {v : Int} (h1 : -1 ≤ e.1) (h2 : -1 ≤ e.2) (hv : -1 ≤ v) : cfN (nd v) (sh e) = 0 ↔ e.1 = e.2 ∨ (e.1 ≠ v ∧ e.2 ≠ v) := by
  have a1 : (sh e).1 = nd v ↔ e.1 = v := ⟨fun h => nd_inj h1 hv h, fun h => by simp only [sh, h]⟩
  have a2 : (sh e).2 = nd v ↔ e.2 = v := ⟨fun h => nd_inj h2 hv h, fun h => by simp only [sh, h]⟩
  unfold cfN
  by_cases b1 : e.1 = v <;> by_cases b2 : e.2 = v
  · rw [if_pos (a1.2 b1), if_pos (a2.2 b2)]; simp; left; rw [b1, b2]
  · rw [if_pos (a1.2 b1), if_neg (fun h => b2 (a2.1 h))]; simp [b1]; exact fun h => b2 h.symm
  · rw [if_neg (fun h => b1 (a1.1 h)), if_pos (a2.2 b2)]; simp [b2]; exact b1
  · rw [if_neg (fun h => b1 (a1.1 h)), if_neg (fun h => b2 (a2.1 h))]; simp [b1, b2]
section
variable {L : List Pr} {N : Nat} {s : KC} {v : Int} {i : Nat}
def scL (L : List Pr) (s : KC) (v : Int) (i : Nat) : Int × Int := scanS (edF L) L.length (knF s) (ctF s) (nd v) i
theorem scL_zero (L : List Pr) (s : KC) (v : Int) : scL L s v 0 = (-1, 0) := rfl
theorem scL_skip (hp : SolPre L N) (hv : -1 ≤ v) (hi : i < L.length) (h : (L.getD i (0, 0)).1 = (L.getD i (0, 0)).2 ∨ ((L.getD i (0, 0)).1 ≠ v ∧ (L.getD i (0, 0)).2 ≠ v)) : scL L s v (i + 1) = scL L s v i := by
  have hr := hp.rng _ (getD_memL (0, 0) hi)
  unfold scL; conv => lhs; unfold scanS
  rw [if_pos (show cfN (nd v) (edF L i) = 0 from (cf_zero hr.1.1 hr.2.1 hv).2 h)]
theorem scL_two (hp : SolPre L N) (hv : -1 ≤ v) (hi : i < L.length) (h : ¬((L.getD i (0, 0)).1 = (L.getD i (0, 0)).2 ∨ ((L.getD i (0, 0)).1 ≠ v ∧ (L.getD i (0, 0)).2 ≠ v))) (hk : s.1.getD i false = false) (h0 : 0 ≤ (scL L s v i).1) : scL L s v (i + 1) = ((L.length : Int), (scL L s v i).2) := by
  have hr := hp.rng _ (getD_memL (0, 0) hi)
  unfold scL at h0 ⊢; conv => lhs; unfold scanS
  rw [if_neg (show ¬ cfN (nd v) (edF L i) = 0 from fun e => h ((cf_zero hr.1.1 hr.2.1 hv).1 e)), if_pos (show knF s i = false from hk), if_pos h0]
theorem scL_new (hp : SolPre L N) (hv : -1 ≤ v) (hi : i < L.length) (h : ¬((L.getD i (0, 0)).1 = (L.getD i (0, 0)).2 ∨ ((L.getD i (0, 0)).1 ≠ v ∧ (L.getD i (0, 0)).2 ≠ v))) (hk : s.1.getD i false = false) (h0 : ¬ 0 ≤ (scL L s v i).1) : scL L s v (i + 1) = ((i : Int), (scL L s v i).2) := by
  have hr := hp.rng _ (getD_memL (0, 0) hi)
  unfold scL at h0 ⊢; conv => lhs; unfold scanS
  rw [if_neg (show ¬ cfN (nd v) (edF L i) = 0 from fun e => h ((cf_zero hr.1.1 hr.2.1 hv).1 e)), if_pos (show knF s i = false from hk), if_neg h0]
theorem scL_out (hp : SolPre L N) (hv : -1 ≤ v) (hi : i < L.length) (h : ¬((L.getD i (0, 0)).1 = (L.getD i (0, 0)).2 ∨ ((L.getD i (0, 0)).1 ≠ v ∧ (L.getD i (0, 0)).2 ≠ v))) (hk : s.1.getD i false = true) (h0 : (L.getD i (0, 0)).1 = v) : scL L s v (i + 1) = ((scL L s v i).1, (scL L s v i).2 + s.2.getD i 0) := by
  have hr := hp.rng _ (getD_memL (0, 0) hi)
  have hk' : ¬ knF s i = false := by unfold knF; rw [hk]; simp
  unfold scL; conv => lhs; unfold scanS
  rw [if_neg (show ¬ cfN (nd v) (edF L i) = 0 from fun e => h ((cf_zero hr.1.1 hr.2.1 hv).1 e)), if_neg hk', if_pos (show (edF L i).1 = nd v by simp only [edF, sh, h0])]; rfl
theorem scL_in (hp : SolPre L N) (hv : -1 ≤ v) (hi : i < L.length) (h : ¬((L.getD i (0, 0)).1 = (L.getD i (0, 0)).2 ∨ ((L.getD i (0, 0)).1 ≠ v ∧ (L.getD i (0, 0)).2 ≠ v))) (hk : s.1.getD i false = true) (h0 : ¬ (L.getD i (0, 0)).1 = v) : scL L s v (i + 1) = ((scL L s v i).1, (scL L s v i).2 - s.2.getD i 0) := by
  have hr := hp.rng _ (getD_memL (0, 0) hi)
  have hk' : ¬ knF s i = false := by unfold knF; rw [hk]; simp
  unfold scL; conv => lhs; unfold scanS
  rw [if_neg (show ¬ cfN (nd v) (edF L i) = 0 from fun e => h ((cf_zero hr.1.1 hr.2.1 hv).1 e)), if_neg hk', if_neg (show ¬ (edF L i).1 = nd v from fun e => h0 (nd_inj hr.1.1 hv e))]; rfl
theorem scL_rng (L : List Pr) (s : KC) (v : Int) {i : Nat} (hi : i ≤ L.length) : -1 ≤ (scL L s v i).1 ∧ (scL L s v i).1 ≤ L.length := by
  rcases scan_open (edF L) L.length (knF s) (ctF s) (nd v) i hi with ⟨h1, _⟩ | ⟨o, h1, h2, _⟩ | ⟨h1, _⟩ <;> unfold scL <;> omega
/-- Bounds. -/
theorem InvK.small {k0 : Nat → Bool} {c0 : Nat → Int} (h : InvK L N k0 c0 s) {B : Int} (hB : sumN (fun i => max (c0 i) (-(c0 i))) L.length ≤ B) {i : Nat} : i < L.length → -B ≤ s.2.getD i 0 ∧ s.2.getD i 0 ≤ B := fun hi => by
  obtain ⟨rt, hI⟩ := h.inv
  have := hI.bd i hi
  unfold ctF at this
  omega
theorem scL_bd {k0 : Nat → Bool} {c0 : Nat → Int} (h : InvK L N k0 c0 s) {B : Int} (hB0 : 0 ≤ B) (hB : sumN (fun i => max (c0 i) (-(c0 i))) L.length ≤ B) (v : Int) {i : Nat} (hi : i ≤ L.length) : -(i * B) ≤ (scL L s v i).2 ∧ (scL L s v i).2 ≤ i * B := by
  unfold scL
  rw [scan_sum]
  have := sumN_bd (f := fun j => if knF s j = true then cfN (nd v) (edF L j) * ctF s j else 0) (g := fun _ => B) (n := i) fun j hj => by
    have hs := h.small hB (i := j) (by omega)
    have : ctF s j = s.2.getD j 0 := rfl
    rw [← this] at hs
    generalize ctF s j = x at hs ⊢
    split
    · unfold cfN
      split <;> split <;> omega
    · omega
  rw [sumN_const] at this
  exact this
end
/-- The node, by its parts. -/
theorem nodeL_no {L : List Pr} {s : KC} {v : Int} (h : (scL L s v L.length).1 < 0 ∨ (scL L s v L.length).1 = L.length) : nodeL L v s = s ∧ openAt L v s = false := by
  refine ⟨if_pos h, ?_⟩
  unfold openAt
  unfold scL at h
  simp only
  rcases h with h | h <;> simp [h]
theorem nodeL_yes {L : List Pr} {s : KC} {v : Int} (h : ¬((scL L s v L.length).1 < 0 ∨ (scL L s v L.length).1 = L.length)) :
    nodeL L v s = (s.1.set (scL L s v L.length).1.toNat true, s.2.set (scL L s v L.length).1.toNat (if (L.getD (scL L s v L.length).1.toNat (0, 0)).1 = v then -(scL L s v L.length).2 else (scL L s v L.length).2)) ∧ openAt L v s = true := by
  refine ⟨if_neg h, ?_⟩
  unfold openAt
  unfold scL at h
  simp only
  simp; omega
end Go.Eng

/- Plain laws: balanced counts. -/
namespace Go.Eng
instance (E : Nat → NE) (n M : Nat) (c : Nat → Int) : Decidable (Bal E n M c) := by unfold Bal; infer_instance

/-- What enters each node more than leaves it, after k edges. -/
def sumL (L : List Pr) (c : Nat → Int) (N k : Nat) : List Int := (List.range (N + 1)).map fun v => -(res (edF L) k (fun _ => true) c v)
theorem sumL_len (L : List Pr) (c : Nat → Int) (N k : Nat) : (sumL L c N k).length = N + 1 := by simp [sumL]
theorem sumL_at {L : List Pr} {c : Nat → Int} {N k v : Nat} (h : v < N + 1) : (sumL L c N k).getD v 0 = -(res (edF L) k (fun _ => true) c v) := by
  simp [sumL, List.getD_eq_getElem?_getD, h]
theorem res_succ (E : Nat → NE) (k : Nat) (c : Nat → Int) (v : Nat) : res E (k + 1) (fun _ => true) c v = res E k (fun _ => true) c v + cfN v (E k) * c k := by
  unfold res; simp [sumN]
theorem sumL_zero (L : List Pr) (c : Nat → Int) (N : Nat) : List.replicate (N + 1) (0 : Int) = sumL L c N 0 := by
  refine ext_getD (d := 0) (by simp [sumL]) fun v hv => ?_
  have hv' : v < N + 1 := by simpa using hv
  rw [sumL_at hv']
  simp [res, sumN, List.getD_eq_getElem?_getD, hv']
theorem sumL_step {L : List Pr} {c : Nat → Int} {N k a b : Nat} (ha : (edF L k).1 = a) (hb : (edF L k).2 = b) (ha2 : a < N + 1) (hb2 : b < N + 1) :
    ((sumL L c N k).set a ((sumL L c N k).getD a 0 - c k)).set b (((sumL L c N k).set a ((sumL L c N k).getD a 0 - c k)).getD b 0 + c k) = sumL L c N (k + 1) := by
  refine ext_getD (d := 0) (by simp [sumL]) fun v hv => ?_
  have hv' : v < N + 1 := by simpa [sumL] using hv
  have hl := sumL_len L c N k
  rw [getD_set, getD_set, getD_set, sumL_at hv', sumL_at hv', sumL_at ha2, sumL_at hb2, res_succ, List.length_set, hl]
  unfold cfN
  rw [ha, hb]
  by_cases e1 : b = v
  · rw [if_pos ⟨e1, hb2⟩]
    by_cases e2 : a = b
    · rw [if_pos ⟨e2, ha2⟩, if_pos (e2.trans e1), if_pos e1, e2, e1]; simp
    · rw [if_neg (fun h => e2 h.1), if_neg (fun h => e2 (h.trans e1.symm)), if_pos e1, e1]; simp; omega
  · rw [if_neg (fun h => e1 h.1)]
    by_cases e2 : a = v
    · rw [if_pos ⟨e2, ha2⟩, if_pos e2, if_neg e1, e2]; simp; omega
    · rw [if_neg (fun h => e2 h.1), if_neg e2, if_neg e1]; simp
theorem res_bd {E : Nat → NE} {k : Nat} {c : Nat → Int} {B : Int} (hB : ∀ i, i < k → -B ≤ c i ∧ c i ≤ B) (v : Nat) : -(k * B) ≤ res E k (fun _ => true) c v ∧ res E k (fun _ => true) c v ≤ k * B := by
  have := sumN_bd (f := fun i => if (fun _ : Nat => true) i = true then cfN v (E i) * c i else 0) (g := fun _ => B) (n := k) fun i hi => by
    have h := hB i hi
    generalize c i = x at h
    simp only [if_true]
    unfold cfN
    split <;> split <;> omega
  rw [sumN_const] at this
  exact this
/-- Over all nodes what leaves is what enters: one node may be left out. -/
theorem bal_inner {L : List Pr} {N : Nat} {c : Nat → Int} (hp : SolPre L N) : Bal (edF L) L.length (N + 1) c ↔ ∀ b, b < N → res (edF L) L.length (fun _ => true) c (b + 1) = 0 := by
  refine ⟨fun h b hb => h _ (by omega), fun h v hv => ?_⟩
  cases v with
  | succ b => exact h b (by omega)
  | zero =>
    have h1 := res_sum (edF L) L.length (N + 1) (fun _ => true) c (fun i hi => hp.ed hi) (fun _ => true)
    simp only [if_true] at h1
    rw [sumN_zero (f := fun i => ((1 : Int) - 1) * c i) fun i _ => by simp] at h1
    rw [sumN_one (a := 0) (by omega) fun v hv hne => by
      obtain ⟨b, rfl⟩ : ∃ b, v = b + 1 := ⟨v - 1, by omega⟩
      exact h b (by omega)] at h1
    exact h1

/-- The first place at which something holds. -/
def idxF (p : Int → Bool) : List Int → Int → Int
  | [], _ => -1
  | x :: l, i => if p x then i else idxF p l (i + 1)
theorem idxF_yes {p : Int → Bool} {l : List Int} {k : Nat} (hk : k < l.length) (h : p (l.getD k 0) = true) (i : Int) : idxF p (l.drop k) i = i := by
  rw [drop_getD' 0 hk]; unfold idxF; rw [if_pos h]
theorem idxF_no {p : Int → Bool} {l : List Int} {k : Nat} (hk : k < l.length) (h : p (l.getD k 0) = false) (i : Int) : idxF p (l.drop k) i = idxF p (l.drop (k + 1)) (i + 1) := by
  rw [drop_getD' 0 hk]; conv => lhs; unfold idxF
  rw [if_neg (by rw [h]; simp)]

theorem idxF_neg {p : Int → Bool} : ∀ {l : List Int} {i : Int}, 0 ≤ i → (idxF p l i < 0 ↔ ∀ x ∈ l, p x = false)
  | [], i, _ => by simp [idxF]
  | x :: l, i, h => by
    unfold idxF
    by_cases hx : p x = true
    · rw [if_pos hx]
      constructor
      · intro h2; omega
      · intro h2; rw [h2 x List.mem_cons_self] at hx; cases hx
    · rw [if_neg hx, idxF_neg (by omega)]
      constructor
      · intro h2 y hy
        rcases List.mem_cons.1 hy with rfl | hy
        · simpa using hx
        · exact h2 y hy
      · intro h2 y hy; exact h2 y (List.mem_cons_of_mem _ hy)
end Go.Eng

/- Plain laws: what Counts returns. -/
namespace Go.Eng

/-- Increasing numbers below n. -/
def incGo (n : Int) : Option Int → List Int → Bool
  | _, [] => true
  | p, x :: l => decide (0 ≤ x ∧ x < n) && ((match p with | none => true | some y => decide (y < x)) && incGo n (some x) l)
theorem incGo_ok {n : Int} {e : List Int} {k : Nat} (hk : k < e.length) (h : 0 ≤ e.getD k 0 ∧ e.getD k 0 < n) (hle : k = 0 ∨ e.getD (k - 1) 0 < e.getD k 0) : incGo n (prevOf e k) (e.drop k) = incGo n (prevOf e (k + 1)) (e.drop (k + 1)) := by
  rw [drop_getD' 0 hk, prevOf_succ]; conv => lhs; unfold incGo
  rw [decide_eq_true h]
  unfold prevOf
  by_cases h0 : k = 0
  · rw [if_pos h0]; simp
  · rw [if_neg h0]; simp only
    rw [decide_eq_true (show e.getD (k - 1) 0 < e.getD k 0 by omega)]; simp
theorem incGo_rng {n : Int} {e : List Int} {k : Nat} (hk : k < e.length) (h : ¬(0 ≤ e.getD k 0 ∧ e.getD k 0 < n)) (p : Option Int) : incGo n p (e.drop k) = false := by
  rw [drop_getD' 0 hk]; unfold incGo; rw [decide_eq_false h]; rfl
theorem incGo_ord {n : Int} {e : List Int} {k : Nat} (hk : k < e.length) (h0 : 0 < k) (hle : e.getD k 0 ≤ e.getD (k - 1) 0) : incGo n (prevOf e k) (e.drop k) = false := by
  rw [drop_getD' 0 hk]; unfold incGo prevOf; rw [if_neg (by omega)]; simp only
  rw [decide_eq_false (show ¬ e.getD (k - 1) 0 < e.getD k 0 by omega)]; simp
theorem incGo_good {n : Int} : ∀ {e : List Int} {p : Option Int}, incGo n p e = true → (∀ x ∈ e, 0 ≤ x ∧ x < n) ∧ e.Pairwise (· < ·) ∧ ∀ y, p = some y → ∀ x ∈ e, y < x
  | [], p, _ => ⟨by simp, .nil, by simp⟩
  | x :: e, p, h => by
    unfold incGo at h
    simp only [Bool.and_eq_true, decide_eq_true_eq] at h
    obtain ⟨h1, h2, h3⟩ := h
    obtain ⟨k2, k3, k4⟩ := incGo_good h3
    refine ⟨fun z hz => ?_, List.pairwise_cons.2 ⟨k4 x rfl, k3⟩, fun y hy z hz => ?_⟩
    · rcases List.mem_cons.1 hz with rfl | hz
      · exact h1
      · exact k2 z hz
    · subst hy
      simp only [decide_eq_true_eq] at h2
      rcases List.mem_cons.1 hz with rfl | hz
      · exact h2
      · have := k4 x rfl z hz; omega
theorem incGo_of {n : Int} : ∀ {e : List Int} {p : Option Int}, (∀ x ∈ e, 0 ≤ x ∧ x < n) → e.Pairwise (· < ·) → (∀ y, p = some y → ∀ x ∈ e, y < x) → incGo n p e = true
  | [], _, _, _, _ => rfl
  | x :: e, p, h1, h2, h3 => by
    obtain ⟨q1, q2⟩ := List.pairwise_cons.1 h2
    unfold incGo
    simp only [Bool.and_eq_true, decide_eq_true_eq]
    refine ⟨h1 x List.mem_cons_self, ?_, incGo_of (fun y hy => h1 y (List.mem_cons_of_mem _ hy)) q2 fun y hy z hz => ?_⟩
    · cases p with
      | none => rfl
      | some y => exact decide_eq_true (h3 y rfl x List.mem_cons_self)
    · simp only [Option.some.injEq] at hy; subst hy; exact q1 z hz

/-- Which edges have counters. -/
def knP (p : List Int) (n : Nat) : List Bool := (List.range n).map fun (i : Nat) => decide ((i : Int) ∈ p)
theorem knP_len (p : List Int) (n : Nat) : (knP p n).length = n := by simp [knP]
theorem knP_at {p : List Int} {n i : Nat} (h : i < n) : (knP p n).getD i false = decide ((i : Int) ∈ p) := by simp [knP, List.getD_eq_getElem?_getD, h]
theorem knP_zero (n : Nat) : List.replicate n false = knP [] n := by
  refine ext_getD (d := false) (by simp [knP]) fun i hi => ?_
  have hi' : i < n := by simpa using hi
  rw [knP_at hi']; simp [List.getD_eq_getElem?_getD, hi']
theorem knP_set {p : List Int} {n k : Nat} (hk : k < p.length) (hx : 0 ≤ p.getD k 0) : (knP (p.take k) n).set (p.getD k 0).toNat true = knP (p.take (k + 1)) n := by
  refine ext_getD (d := false) (by simp [knP]) fun i hi => ?_
  have hi' : i < n := by simpa [knP] using hi
  have e : p.take (k + 1) = p.take k ++ [p.getD k 0] := by rw [getD_eq hk, List.take_append_getElem hk]
  rw [getD_set, knP_at hi', knP_at hi', knP_len, e]
  by_cases h : (p.getD k 0).toNat = i
  · rw [if_pos ⟨h, by omega⟩]
    symm
    have : (i : Int) = p.getD k 0 := by omega
    exact decide_eq_true (List.mem_append_right _ (by rw [this]; simp only [List.mem_singleton]))
  · rw [if_neg (fun q => h q.1)]
    have : ¬ (i : Int) = p.getD k 0 := by omega
    simp only [List.mem_append, List.mem_singleton, this, or_false]
/-- The value that goes with a number. -/
def valOf : List Int → List Int → Int → Int
  | p :: ps, v :: vs, i => if p = i then v else valOf ps vs i
  | _, _, _ => 0
theorem valOf_not : ∀ {ps vs : List Int} {i : Int}, i ∉ ps → valOf ps vs i = 0
  | [], _, _, _ => rfl
  | _ :: _, [], _, _ => rfl
  | p :: ps, v :: vs, i, h => by
    unfold valOf
    rw [if_neg (show ¬ p = i by intro e; apply h; rw [← e]; exact List.mem_cons_self), valOf_not fun hm => h (List.mem_cons_of_mem _ hm)]
theorem valOf_at : ∀ {ps vs : List Int} {k : Nat}, ps.Nodup → k < ps.length → ps.length = vs.length → valOf ps vs (ps.getD k 0) = vs.getD k 0
  | [], _, k, _, h, _ => by simp at h
  | _ :: _, [], _, _, _, h => by simp at h
  | p :: ps, v :: vs, 0, _, _, _ => by simp [valOf]
  | p :: ps, v :: vs, k + 1, hn, hk, hl => by
    obtain ⟨h1, h2⟩ := List.nodup_cons.1 hn
    have hk' : k < ps.length := by simpa using hk
    have := valOf_at h2 hk' (vs := vs) (by simpa using hl)
    simp only [List.getD_cons_succ]
    unfold valOf
    rw [if_neg (show ¬ p = ps.getD k 0 by intro e; apply h1; rw [e]; exact getD_memL 0 hk'), this]
theorem valOf_take : ∀ {ps vs : List Int} {k : Nat} {i : Int}, ps.Nodup → k < ps.length → ps.length = vs.length → valOf (ps.take (k + 1)) vs i = if i = ps.getD k 0 then vs.getD k 0 else valOf (ps.take k) vs i
  | [], _, k, _, _, h, _ => by simp at h
  | _ :: _, [], _, _, _, _, h => by simp at h
  | p :: ps, v :: vs, 0, i, _, _, _ => by
    simp only [List.take_succ_cons, List.take_zero, List.getD_cons_zero, valOf]
    by_cases h : i = p
    · rw [if_pos h, if_pos h.symm]
    · rw [if_neg h, if_neg (Ne.symm h)]
  | p :: ps, v :: vs, k + 1, i, hn, hk, hl => by
    obtain ⟨h1, h2⟩ := List.nodup_cons.1 hn
    have hk' : k < ps.length := by simpa using hk
    have ih := valOf_take (ps := ps) (vs := vs) (k := k) (i := i) h2 hk' (by simpa using hl)
    simp only [List.take_succ_cons, List.getD_cons_succ]
    conv => lhs; unfold valOf
    conv => rhs; rhs; unfold valOf
    by_cases h : p = i
    · rw [if_pos h, if_pos h, if_neg (fun e => h1 (by rw [h, e]; exact getD_memL 0 hk'))]
    · rw [if_neg h, if_neg h, ih]
theorem valOf_bd {ps vs : List Int} (h : ∀ x ∈ vs, 0 ≤ x ∧ x ≤ 1000000) (i : Int) : 0 ≤ valOf ps vs i ∧ valOf ps vs i ≤ 1000000 := by
  induction ps generalizing vs with
  | nil => simp [valOf]
  | cons p ps ih =>
    cases vs with
    | nil => simp [valOf]
    | cons v vs =>
      unfold valOf
      split
      · exact h v List.mem_cons_self
      · exact ih fun x hx => h x (List.mem_cons_of_mem _ hx)
def outV (p vs : List Int) (n : Nat) : List Int := (List.range n).map fun (i : Nat) => valOf p vs i
theorem outV_len (p vs : List Int) (n : Nat) : (outV p vs n).length = n := by simp [outV]
theorem outV_at {p vs : List Int} {n i : Nat} (h : i < n) : (outV p vs n).getD i 0 = valOf p vs i := by simp [outV, List.getD_eq_getElem?_getD, h]
theorem outV_zero (vs : List Int) (n : Nat) : List.replicate n (0 : Int) = outV [] vs n := by
  refine ext_getD (d := 0) (by simp [outV]) fun i hi => ?_
  have hi' : i < n := by simpa using hi
  rw [outV_at hi']; simp [valOf, List.getD_eq_getElem?_getD, hi']
theorem outV_set {p vs : List Int} {n k : Nat} (hn : p.Nodup) (hk : k < p.length) (hl : p.length = vs.length) (hx : 0 ≤ p.getD k 0) : (outV (p.take k) vs n).set (p.getD k 0).toNat (vs.getD k 0) = outV (p.take (k + 1)) vs n := by
  refine ext_getD (d := 0) (by simp [outV]) fun i hi => ?_
  have hi' : i < n := by simpa [outV] using hi
  rw [getD_set, outV_at hi', outV_at hi', outV_len, valOf_take hn hk hl]
  by_cases h : (p.getD k 0).toNat = i
  · rw [if_pos ⟨h, by omega⟩, if_pos (by omega)]
  · rw [if_neg (fun q => h q.1), if_neg (by omega)]

/-! ### Edges without counters that close a circle -/
def unE (L : List Pr) (kn : Nat → Bool) (i : Nat) : List NE := ((List.range i).filter fun j => !kn j).map (edF L)
theorem unE_succ (L : List Pr) (kn : Nat → Bool) (i : Nat) : unE L kn (i + 1) = if kn i = true then unE L kn i else unE L kn i ++ [edF L i] := by
  unfold unE
  rw [List.range_succ, List.filter_append, List.map_append]
  by_cases h : kn i = true
  · rw [if_pos h]; simp [h]
  · rw [if_neg h]; simp [h]
def cyAt (L : List Pr) (kn : Nat → Bool) (i : Nat) : Bool := !kn i && decide (rtOf (unE L kn i) (edF L i).1 = rtOf (unE L kn i) (edF L i).2)
def cyF (L : List Pr) (kn : Nat → Bool) : Nat → Option Nat
  | 0 => none
  | i + 1 => match cyF L kn i with
    | some j => some j
    | none => if cyAt L kn i then some i else none
theorem cyF_first {L : List Pr} {kn : Nat → Bool} {i : Nat} (h0 : cyF L kn i = none) (h1 : cyAt L kn i = true) : ∀ {n : Nat}, i < n → cyF L kn n = some i
  | 0, h => by omega
  | n + 1, h => by
    by_cases e : i = n
    · subst e; simp [cyF, h0, h1]
    · simp [cyF, cyF_first h0 h1 (n := n) (by omega)]
theorem cyF_step {L : List Pr} {kn : Nat → Bool} {i : Nat} (h0 : cyF L kn i = none) (h1 : cyAt L kn i = false) : cyF L kn (i + 1) = none := by simp [cyF, h0, h1]
theorem cyF_acyc {L : List Pr} {kn : Nat → Bool} : ∀ {n : Nat}, cyF L kn n = none → Acyc (unE L kn n)
  | 0, _ => Acyc.nil
  | n + 1, h => by
    simp only [cyF] at h
    cases h0 : cyF L kn n with
    | some j => rw [h0] at h; cases h
    | none =>
      rw [h0] at h
      simp only at h
      have ih := cyF_acyc h0
      rw [unE_succ]
      by_cases hk : kn n = true
      · rw [if_pos hk]; exact ih
      · rw [if_neg hk]
        refine Acyc.snoc.2 ⟨ih, fun he => ?_⟩
        rw [if_pos (by unfold cyAt; rw [decide_eq_true he]; simpa using hk)] at h
        cases h
theorem acyc_cyF {L : List Pr} {kn : Nat → Bool} : ∀ {n : Nat}, Acyc (unE L kn n) → cyF L kn n = none
  | 0, _ => rfl
  | n + 1, h => by
    rw [unE_succ] at h
    simp only [cyF]
    by_cases hk : kn n = true
    · rw [if_pos hk] at h
      rw [acyc_cyF h]
      simp [cyAt, hk]
    · rw [if_neg hk] at h
      obtain ⟨h1, h2⟩ := Acyc.snoc.1 h
      rw [acyc_cyF h1]
      simp [cyAt, h2]

/-! ### The whole -/
def inP (p : List Int) : Nat → Bool := fun i => decide ((i : Int) ∈ p)
def cntS (L : List Pr) (N : Nat) (p vs : List Int) : KC := solveL L N (L.length + 1) (knP p L.length, outV p vs L.length)
def cyT : Option Nat → Int × Int
  | some i => (15, (i : Int))
  | none => (0, 0)
/-- The fault ahead of the computation. -/
def preT (L : List Pr) (p vs : List Int) : Int × Int :=
  if incGo L.length none p = true then (if (wtF vs p.length).1 = 0 then cyT (cyF L (inP p) L.length) else wtF vs p.length) else (5, -3)
def preF (g : List Bk) (e p vs : List Int) : Int × Int := if (entF g e).1 = 0 then preT (edgesL g e) p vs else entF g e
def cntT (L : List Pr) (N : Nat) (p vs : List Int) : Int × Int :=
  if Bal (edF L) L.length (N + 1) (ctF (cntS L N p vs)) then (if 0 ≤ idxF (fun x => decide (x < 0)) (cntS L N p vs).2 0 then (13, idxF (fun x => decide (x < 0)) (cntS L N p vs).2 0) else (0, 0)) else (13, -4)
def cntF (g : List Bk) (e p vs : List Int) : Int × Int := if (preF g e p vs).1 = 0 then cntT (edgesL g e) g.length p vs else preF g e p vs
def countsL (g : List Bk) (e p vs : List Int) : List Int := if (cntF g e p vs).1 = 0 then (cntS (edgesL g e) g.length p vs).2 else []

theorem c0_sum {L : List Pr} {p vs : List Int} (hL : L.length ≤ 500) (hv : ∀ x ∈ vs, 0 ≤ x ∧ x ≤ 1000000) : sumN (fun i => max (ctF (knP p L.length, outV p vs L.length) i) (-(ctF (knP p L.length, outV p vs L.length) i))) L.length ≤ 1000000000 := by
  have h1 := sumN_le (f := fun i => max (ctF (knP p L.length, outV p vs L.length) i) (-(ctF (knP p L.length, outV p vs L.length) i))) (g := fun _ => 1000000) (n := L.length) fun i hi => by
    have := valOf_bd (ps := p) hv i
    simp only [ctF, outV_at hi]
    omega
  rw [sumN_const] at h1
  omega
theorem term_le {f : Nat → Int} : ∀ {n : Nat} {i : Nat}, (∀ j, j < n → 0 ≤ f j) → i < n → f i ≤ sumN f n
  | 0, i, _, h => by omega
  | n + 1, i, h0, h => by
    have hs : 0 ≤ sumN f n := by
      have := sumN_le (f := fun _ => 0) (g := f) (n := n) fun j hj => h0 j (by omega)
      rwa [sumN_zero fun _ _ => rfl] at this
    have hn := h0 n (by omega)
    simp only [sumN]
    by_cases e : i = n
    · subst e; omega
    · have := term_le (f := f) (n := n) (i := i) (fun j hj => h0 j (by omega)) (by omega); omega
/-- The start of the computation. -/
theorem inv_start {L : List Pr} {N : Nat} {p vs : List Int} : InvK L N (inP p) (ctF (knP p L.length, outV p vs L.length)) (knP p L.length, outV p vs L.length) := by
  have hk : ∀ i, i < L.length → knF (knP p L.length, outV p vs L.length) i = inP p i := fun i hi => by
    unfold knF inP; simp only; exact knP_at hi
  refine ⟨knP_len _ _, outV_len _ _ _, id, ⟨fun i hi h => ⟨(hk i hi).trans h, rfl⟩, fun i hi h1 h2 => ?_, fun v _ h => absurd rfl h, fun i _ _ => ⟨rfl, rfl⟩, fun i hi => ?_, fun d hd h i hi h1 => ?_⟩⟩
  · rw [hk i hi, h2] at h1; cases h1
  · have := term_le (f := fun i => max (ctF (knP p L.length, outV p vs L.length) i) (-(ctF (knP p L.length, outV p vs L.length) i))) (n := L.length) (i := i) (fun j _ => by omega) hi
    omega
  · rw [hk i hi] at h1
    exact (h i hi h1).symm
end Go.Eng
