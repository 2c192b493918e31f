/- The engine, part 4: how memory turns. -/
import Derived.Test.YtmbodncejejceaaEng3
set_option linter.all false
namespace Go.Eng

def upd {α : Sort _} (f : Nat → α) (r : Nat) (x : α) : Nat → α := fun q => if q = r then x else f q
theorem upd_same {α : Sort _} (f : Nat → α) (r : Nat) (x : α) : upd f r x r = x := by simp [upd]
theorem upd_ne {α : Sort _} (f : Nat → α) {r q : Nat} (x : α) (h : q ≠ r) : upd f r x q = f q := by simp [upd, h]

theorem Ext.same {w w' : World} {M : Nat → Prop} (h : Ext w w' M) {S : Nat → Prop} (hs : ∀ b, S b → b < w.heap.size) (hd : ∀ b, S b → ¬ M b) : ∀ b, S b → w'.heap[b]? = w.heap[b]? :=
  fun b hb => h.block b (hs b hb) (hd b hb)

section
variable {c : Ctx} {rows : List (Nat × Row)} {w : World} {S : Nat → Prop} {ρ : Nat → Value} {F : Nat → Nat → Prop} {E : Nat → Nat}

/-- A new row, in blocks that are new; nothing else turns. -/
theorem Mem.add (h : Mem c rows w S ρ F E) {w' : World} (hx : Ext w w' (fun _ => False)) (h0 : Ext c.w0 w c.Fp) {r : Nat} (hr : lkp rows r = none) (hb : c.base ≤ r)
    {v : Value} {x : Row} {G : Nat → Prop} {e : Nat} (hrow : RowOK w' S G v x) (hG : ∀ b, G b → w.heap.size ≤ b ∧ b < w'.heap.size) (he : ∀ s xs, x = .sl s xs → e = s.esz) :
    Mem c ((r, x) :: rows) w' S (upd ρ r v) (upd F r G) (upd E r e) := by
  have hsame := hx.same (S := S) h.slt (fun _ _ h => h)
  refine ⟨fun b hb => Nat.lt_of_lt_of_le (h.slt b hb) hx.size, h.s0, h.snew, ?_, ?_, ?_, ?_, ?_⟩
  · intro q y hq
    by_cases e : r = q
    · subst e; rw [lkp_cons_same] at hq; cases hq; rw [upd_same, upd_same]; exact hrow
    · rw [lkp_cons_ne _ _ e] at hq
      rw [upd_ne _ _ (Ne.symm e), upd_ne _ _ (Ne.symm e)]
      exact (h.row q y hq).mono (fun _ h => h) hsame (hx.same (S := F q) (fun b hb => (h.blk q y hq b hb).1) (fun _ _ h => h))
  · intro q y hq b hb'
    by_cases e : r = q
    · subst e; rw [upd_same] at hb'
      exact ⟨(hG b hb').2, fun hs => Nat.lt_irrefl _ (Nat.lt_of_lt_of_le (h.slt b hs) (hG b hb').1), fun _ => Nat.le_trans h0.size (hG b hb').1⟩
    · rw [lkp_cons_ne _ _ e] at hq; rw [upd_ne _ _ (Ne.symm e)] at hb'
      obtain ⟨h1, h2, h3⟩ := h.blk q y hq b hb'
      exact ⟨Nat.lt_of_lt_of_le h1 hx.size, h2, h3⟩
  · intro q s xs hq
    by_cases e' : r = q
    · subst e'; rw [lkp_cons_same] at hq; cases hq; rw [upd_same]; exact he _ _ rfl
    · rw [lkp_cons_ne _ _ e'] at hq; rw [upd_ne _ _ (Ne.symm e')]; exact h.esz q s xs hq
  · intro p q y z hpq hp hq b hb1 hb2
    by_cases e : r = p
    · subst e
      rw [upd_same] at hb1; rw [lkp_cons_ne _ _ hpq] at hq; rw [upd_ne _ _ (Ne.symm hpq)] at hb2
      exact Nat.lt_irrefl _ (Nat.lt_of_lt_of_le (h.blk q z hq b hb2).1 (hG b hb1).1)
    · rw [lkp_cons_ne _ _ e] at hp; rw [upd_ne _ _ (Ne.symm e)] at hb1
      by_cases e2 : r = q
      · subst e2
        rw [upd_same] at hb2
        exact Nat.lt_irrefl _ (Nat.lt_of_lt_of_le (h.blk p y hp b hb1).1 (hG b hb2).1)
      · rw [lkp_cons_ne _ _ e2] at hq; rw [upd_ne _ _ (Ne.symm e2)] at hb2
        exact h.dis p q y z hpq hp hq b hb1 hb2
  · intro q y hq hl
    have e : r ≠ q := by omega
    rw [lkp_cons_ne _ _ e] at hl; rw [upd_ne _ _ (Ne.symm e), upd_ne _ _ (Ne.symm e)]
    exact h.pin q y hq hl

theorem VOK.upd {v : Value} {x : AV} (h : VOK w S ρ E v x) {r : Nat} (hx : x.hits r = false) (u : Value) (e : Nat) : VOK w S (Eng.upd ρ r u) (Eng.upd E r e) v x :=
  h.rename (r := r) (fun _ hq => upd_ne _ _ hq) (fun _ hq => upd_ne _ _ hq) hx

/-- A row that nobody knows yet is hit by nobody who is good for something. -/
theorem EnvOK.upd {env : List (Nat × AV)} {t : Array Value} (h : EnvOK c env t w S ρ E) {r : Nat} (hr : ∀ s v, (s, v) ∈ env → v.hits r = false) (u : Value) (e : Nat) :
    EnvOK c env t w S (Eng.upd ρ r u) (Eng.upd E r e) := fun s v hm => ⟨(h s v hm).1, (h s v hm).2.upd (hr s v hm) u e⟩

/-- A row written: its blocks and its value may be others now. -/
theorem Mem.put (h : Mem c rows w S ρ F E) {w' : World} {r : Nat} {x y : Row} (hr : lkp rows r = some y) (hx : Ext w w' (F r))
    {v : Value} {G : Nat → Prop} {e : Nat} (hrow : RowOK w' S G v x) (hG : ∀ b, G b → (F r b ∨ w.heap.size ≤ b) ∧ b < w'.heap.size) (h0 : Ext c.w0 w c.Fp) (he : ∀ s xs, x = .sl s xs → e = s.esz)
    (hp : r < c.base → v = ρ r ∧ ∀ b, G b ↔ F r b) :
    Mem c ((r, x) :: del rows r) w' S (upd ρ r v) (upd F r G) (upd E r e) := by
  have hsame := hx.same (S := S) h.slt (fun b hs hf => (h.blk r y hr b hf).2.1 hs)
  have hne : ∀ q, r ≠ q → ∀ z, lkp ((r, x) :: del rows r) q = some z → lkp rows q = some z := fun q e z hq => by rw [lkp_cons_ne _ _ e, lkp_del_ne _ e] at hq; exact hq
  refine ⟨fun b hb => Nat.lt_of_lt_of_le (h.slt b hb) hx.size, h.s0, h.snew, ?_, ?_, ?_, ?_, ?_⟩
  · intro q z hq
    by_cases e : r = q
    · subst e; rw [lkp_cons_same] at hq; cases hq; rw [upd_same, upd_same]; exact hrow
    · have hq' := hne q e z hq
      rw [upd_ne _ _ (Ne.symm e), upd_ne _ _ (Ne.symm e)]
      exact (h.row q z hq').mono (fun _ h => h) hsame (hx.same (S := F q) (fun b hb => (h.blk q z hq' b hb).1) (fun b hb hf => h.dis q r z y (Ne.symm e) hq' hr b hb hf))
  · intro q z hq b hb'
    by_cases e : r = q
    · subst e; rw [upd_same] at hb'
      obtain ⟨h1, h2⟩ := hG b hb'
      rcases h1 with h1 | h1
      · obtain ⟨_, k2, k3⟩ := h.blk r y hr b h1; exact ⟨h2, k2, k3⟩
      · exact ⟨h2, fun hs => Nat.lt_irrefl _ (Nat.lt_of_lt_of_le (h.slt b hs) h1), fun _ => Nat.le_trans h0.size h1⟩
    · have hq' := hne q e z hq
      rw [upd_ne _ _ (Ne.symm e)] at hb'
      obtain ⟨h1, h2, h3⟩ := h.blk q z hq' b hb'
      exact ⟨Nat.lt_of_lt_of_le h1 hx.size, h2, h3⟩
  · intro q s xs hq
    by_cases e' : r = q
    · subst e'; rw [lkp_cons_same] at hq; cases hq; rw [upd_same]; exact he _ _ rfl
    · rw [upd_ne _ _ (Ne.symm e')]; exact h.esz q s xs (hne q e' _ hq)
  · intro p q y' z hpq hp hq b hb1 hb2
    by_cases e : r = p
    · subst e
      rw [upd_same] at hb1; rw [upd_ne _ _ (Ne.symm hpq)] at hb2
      have hq' := hne q hpq z hq
      rcases (hG b hb1).1 with h1 | h1
      · exact h.dis _ q y z hpq hr hq' b h1 hb2
      · exact Nat.lt_irrefl _ (Nat.lt_of_lt_of_le (h.blk q z hq' b hb2).1 h1)
    · have hp' := hne p e y' hp
      rw [upd_ne _ _ (Ne.symm e)] at hb1
      by_cases e2 : r = q
      · subst e2
        rw [upd_same] at hb2
        rcases (hG b hb2).1 with h1 | h1
        · exact h.dis p _ y' y hpq hp' hr b hb1 h1
        · exact Nat.lt_irrefl _ (Nat.lt_of_lt_of_le (h.blk p y' hp' b hb1).1 h1)
      · rw [upd_ne _ _ (Ne.symm e2)] at hb2
        exact h.dis p q y' z hpq hp' (hne q e2 z hq) b hb1 hb2
  · intro q z hq hl
    by_cases e : r = q
    · subst e
      obtain ⟨k1, k2⟩ := h.pin r y hq hr
      rw [upd_same, upd_same]
      exact ⟨(hp hq).1.trans k1, fun b => ((hp hq).2 b).trans (k2 b)⟩
    · rw [upd_ne _ _ (Ne.symm e), upd_ne _ _ (Ne.symm e)]
      exact h.pin q z hq (hne q e z hl)

/-- A row given up. -/
theorem Mem.drop (h : Mem c rows w S ρ F E) (r : Nat) : Mem c (del rows r) w S ρ F E := by
  have hne : ∀ q z, lkp (del rows r) q = some z → lkp rows q = some z := fun q z hq => by
    by_cases e : r = q
    · subst e; rw [lkp_del_same] at hq; cases hq
    · rw [lkp_del_ne _ e] at hq; exact hq
  exact ⟨h.slt, h.s0, h.snew, fun q z hq => h.row q z (hne q z hq), fun q z hq => h.blk q z (hne q z hq), fun q s xs hq => h.esz q s xs (hne q _ hq),
    fun p q y z hpq hp hq => h.dis p q y z hpq (hne p y hp) (hne q z hq), fun q z hq hl => h.pin q z hq (hne q z hl)⟩

/-- A row frozen. -/
theorem Mem.freeze (h : Mem c rows w S ρ F E) {r : Nat} {x : Row} (hr : lkp rows r = some x) (hb : c.base ≤ r) : Mem c (del rows r) w (fun b => S b ∨ F r b) ρ F E := by
  have hS : ∀ b, S b → S b ∨ F r b := fun _ h => .inl h
  have d := h.drop r
  refine ⟨?_, fun b hb => .inl (h.s0 b hb), ?_, ?_, ?_, d.esz, d.dis, d.pin⟩
  · rintro b (hb | hb)
    · exact h.slt b hb
    · exact (h.blk r x hr b hb).1
  · rintro b (hb' | hb')
    · exact h.snew b hb'
    · exact .inr ((h.blk r x hr b hb').2.2 hb)
  · exact fun q z hq => (d.row q z hq).mono hS (fun _ _ => rfl) (fun _ _ => rfl)
  · intro q z hq b hb'
    obtain ⟨h1, h2, h3⟩ := d.blk q z hq b hb'
    refine ⟨h1, ?_, h3⟩
    rintro (k | k)
    · exact h2 k
    · have e : q ≠ r := by rintro rfl; rw [lkp_del_same] at hq; cases hq
      have hq' : lkp rows q = some z := by rw [lkp_del_ne _ (Ne.symm e)] at hq; exact hq
      exact h.dis q r z x e hq' hr b hb' k

theorem Mem.more (h : Mem c rows w S ρ F E) {w' : World} (hx : Ext w w' (fun _ => False)) {S' : Nat → Prop} (hS : ∀ b, S b → S' b) (hS' : ∀ b, S' b → S b ∨ w.heap.size ≤ b) (hlt : ∀ b, S' b → b < w'.heap.size)
    (h0 : Ext c.w0 w c.Fp) : Mem c rows w' S' ρ F E := by
  have hsame := hx.same (S := S) h.slt (fun _ _ h => h)
  refine ⟨hlt, fun b hb => hS b (h.s0 b hb), ?_, ?_, ?_, h.esz, h.dis, h.pin⟩
  · intro b hb
    rcases hS' b hb with k | k
    · exact h.snew b k
    · exact .inr (Nat.le_trans h0.size k)
  · exact fun q z hq => (h.row q z hq).mono hS hsame (hx.same (S := F q) (fun b hb => (h.blk q z hq b hb).1) (fun _ _ h => h))
  · intro q z hq b hb
    obtain ⟨h1, h2, h3⟩ := h.blk q z hq b hb
    refine ⟨Nat.lt_of_lt_of_le h1 hx.size, fun k => ?_, h3⟩
    rcases hS' b k with k | k
    · exact h2 k
    · exact Nat.lt_irrefl _ (Nat.lt_of_lt_of_le h1 k)
end

/-! ### A row read as data -/

theorem cell_of_row {w : World} {g ty : Nat} {cur : Array Value} (hg : w.heap[g]? = some (.cells cur ty (0, 0))) {i : Nat} (hi : i < cur.size) : w.cell? ⟨g, i, none⟩ = some (cur.getD i undef) := by
  simp [World.cell?, hg, hi]

theorem RowOK.rd {w : World} {S F : Nat → Prop} {v : Value} {s : Sh} {xs : Th (List s.α)} (h : RowOK w S F v (.sl s xs)) : RD w (fun b => S b ∨ F b) v (.sl s.esz s.cells s.d0 xs) := by
  have hS : ∀ b, S b → S b ∨ F b := fun _ h => .inl h
  cases h with
  | nil h => exact .nilsl none 0 h
  | sl g n cap cur hn hg hnc hm hc hlen hrd =>
    refine .sl g 0 n cap (fun i => cur.getD i undef) (.inr rfl) hn hlen ?_ (fun i j d hi hd => (hrd i j d hi hd).mono hS (fun _ _ => rfl)) ⟨hnc, Nat.le_trans hnc hm⟩
    intro i hi
    rw [Nat.zero_add]
    exact cell_of_row hg (by rw [hc]; exact Nat.lt_of_lt_of_le hi (Nat.mul_le_mul_right _ hnc))

theorem RowOK.rdBox {w : World} {S F : Nat → Prop} {v : Value} {cs : List D} (h : RowOK w S F v (.box cs)) : RD w (fun b => S b ∨ F b) v (.box cs) := by
  have hS : ∀ b, S b → S b ∨ F b := fun _ h => .inl h
  cases h with
  | box g ty cur hg hc hrd =>
    exact .box g (fun i => cur.getD i undef) (.inr rfl) (fun j hj => cell_of_row hg (by omega)) (fun j d hd => (hrd j d hd).mono hS (fun _ _ => rfl))

theorem RowOK.inv {w : World} {S F : Nat → Prop} {v : Value} {s : Sh} {xs : Th (List s.α)} (h : RowOK w S F v (.sl s xs)) :
    (xs () = [] ∧ v = .slice none 0 0 ∧ ∀ b, ¬ F b) ∨
    ∃ g n cap cur, v = .slice (some ⟨g, 0, none⟩) n cap ∧ n = (xs ()).length ∧ w.heap[g]? = some (.cells cur s.ty (0, 0)) ∧ n ≤ cap ∧ cap ≤ maxLen ∧ cur.size = cap * s.esz ∧
      (∀ x ∈ xs (), (s.cells fun _ => x).length = s.esz) ∧
      (∀ i j d, i < n → (s.cells fun _ => (xs ()).getD i s.d0)[j]? = some d → RD w S (cur.getD (i * s.esz + j) undef) d) ∧ ∀ b, F b ↔ b = g := by
  cases h with
  | nil h => exact .inl ⟨h, rfl, fun _ h => h⟩
  | sl g n cap cur hn hg hnc hm hc hlen hrd => exact .inr ⟨g, n, cap, cur, rfl, hn, hg, hnc, hm, hc, hlen, hrd, fun _ => Iff.rfl⟩
theorem RowOK.invBox {w : World} {S F : Nat → Prop} {v : Value} {cs : List D} (h : RowOK w S F v (.box cs)) :
    ∃ g ty cur, v = .pointer (some ⟨g, 0, none⟩) ∧ w.heap[g]? = some (.cells cur ty (0, 0)) ∧ cur.size = cs.length ∧ (∀ j d, cs[j]? = some d → RD w S (cur.getD j undef) d) ∧ ∀ b, F b ↔ b = g := by
  cases h with
  | box g ty cur hg hc hrd => exact ⟨g, ty, cur, rfl, hg, hc, hrd, fun _ => Iff.rfl⟩

theorem RowOK.len {w : World} {S F : Nat → Prop} {v : Value} {s : Sh} {xs : Th (List s.α)} (h : RowOK w S F v (.sl s xs)) : ∃ a c, v = .slice a (xs ()).length c ∧ (xs () ≠ [] → a ≠ none) := by
  cases h with
  | nil h => exact ⟨none, 0, by simp [h], fun k => absurd h k⟩
  | sl g n cap cur hn _ _ _ _ _ _ => exact ⟨_, cap, by rw [hn], fun _ => by simp⟩

theorem RD.len {w : World} {S : Nat → Prop} {v : Value} {α : Type} {esz : Nat} {cells : Th α → List D} {d0 : α} {xs : Th (List α)} (h : RD w S v (.sl esz cells d0 xs)) :
    ∃ a c, v = .slice a (xs ()).length c ∧ (xs () ≠ [] → a ≠ none) := by
  cases h with
  | nilsl a c h => exact ⟨a, c, by simp [h], fun k => absurd h k⟩
  | sl b off n c us hb hn hlen hcell hrd hc => exact ⟨_, c, by rw [hn], fun _ => by simp⟩

theorem RD.maxl {w : World} {S : Nat → Prop} {v : Value} {α : Type} {esz : Nat} {cells : Th α → List D} {d0 : α} {xs : Th (List α)} (h : RD w S v (.sl esz cells d0 xs)) : (xs ()).length ≤ 9223372036854775807 := by
  cases h with
  | nilsl a c h => simp [h]
  | sl b off n c us hb hn hlen hcell hrd hc => rw [← hn]; exact hc.2
theorem RowOK.maxl {w : World} {S F : Nat → Prop} {v : Value} {s : Sh} {xs : Th (List s.α)} (h : RowOK w S F v (.sl s xs)) : (xs ()).length ≤ 9223372036854775807 := h.rd.maxl

/-! ### Frozen slots -/

theorem VOK.frz {w : World} {S S' : Nat → Prop} {ρ : Nat → Value} {E : Nat → Nat} {r : Nat} {y : Row} (hS : ∀ b, S b → S' b) (hx : RD w S' (ρ r) y.frz) (he : ∀ s xs, y = .sl s xs → E r = s.esz) {v : Value} {z : AV}
    (h : VOK w S ρ E v z) : VOK w S' ρ E v (z.frz r y.frz) := by
  have hlen : ∀ l : List AV, (AV.frz.frzL r y.frz l).length = l.length := fun l => by induction l with | nil => rfl | cons y l ih => simp [AV.frz.frzL, ih]
  have hget : ∀ (l : List AV) (j : Nat) (z : AV), (AV.frz.frzL r y.frz l)[j]? = some z → ∃ u, l[j]? = some u ∧ z = u.frz r y.frz := fun l => by
    induction l with
    | nil => intro j z hz; simp [AV.frz.frzL] at hz
    | cons u l ih =>
      intro j z hz
      cases j with
      | zero => simp [AV.frz.frzL] at hz; exact ⟨u, by simp, hz.symm⟩
      | succ j => simp [AV.frz.frzL] at hz; obtain ⟨u', h1, h2⟩ := ih j z hz; exact ⟨u', by simpa using h1, h2⟩
  induction h with
  | un => exact .un
  | any v => exact .any v
  | d h => exact .d (h.mono hS (fun _ _ => rfl))
  | own q =>
    unfold AV.frz
    by_cases e : q = r
    · subst e; rw [Nat.beq_refl]; exact .d hx
    · rw [beq_ne e]; exact .own q
  | bptr q off g h =>
    unfold AV.frz
    by_cases e : q = r
    · subst e; rw [Nat.beq_refl]; simp only [cond_true]
      cases y with
      | sl s xs => exact .any _
      | box cs => rw [h] at hx; exact .pptr off g hx
    · rw [beq_ne e]; exact .bptr q off g h
  | eptr q i off g n c h h0 h1 =>
    unfold AV.frz
    by_cases e : q = r
    · subst e; rw [Nat.beq_refl]; simp only [cond_true]
      rw [h] at hx
      cases y with
      | sl s xs =>
        have := VOK.dptr (w := w) (S := S') (ρ := ρ) (E := E) i off g 0 n c hx h0 h1
        rw [Nat.zero_add] at this
        rw [he s xs rfl]; exact this
      | box cs => cases hx
    · rw [beq_ne e]; exact .eptr q i off g n c h h0 h1
  | dptr i off b o n c h h0 h1 => exact .dptr i off b o n c (h.mono hS (fun _ _ => rfl)) h0 h1
  | pptr off b h => exact .pptr off b (h.mono hS (fun _ _ => rfl))
  | fn vs h _ ih =>
    refine .fn vs (by rw [hlen]; exact h) fun j z hz => ?_
    obtain ⟨u, h1, rfl⟩ := hget _ j z hz
    exact ih j u h1
  | tup vs h _ ih =>
    refine .tup vs (by rw [hlen]; exact h) fun j z hz => ?_
    obtain ⟨u, h1, rfl⟩ := hget _ j z hz
    exact ih j u h1

theorem mem_frzEnv {r : Nat} {x : D} : ∀ {l : List (Nat × AV)} {n : Nat} {v : AV}, (n, v) ∈ frzEnv r x l → ∃ u, (n, u) ∈ l ∧ v = u.frz r x
  | [], _, _, h => by simp [frzEnv] at h
  | (q, u) :: l, n, v, h => by
    simp only [frzEnv, List.mem_cons, Prod.mk.injEq] at h
    rcases h with ⟨rfl, rfl⟩ | h
    · exact ⟨u, List.mem_cons_self, rfl⟩
    · obtain ⟨u', h1, h2⟩ := mem_frzEnv h; exact ⟨u', List.mem_cons_of_mem _ h1, h2⟩

theorem EnvOK.frz {c : Ctx} {env : List (Nat × AV)} {t : Array Value} {w : World} {S S' : Nat → Prop} {ρ : Nat → Value} {E : Nat → Nat} (h : EnvOK c env t w S ρ E) {r : Nat} {y : Row}
    (hS : ∀ b, S b → S' b) (hx : RD w S' (ρ r) y.frz) (he : ∀ s xs, y = .sl s xs → E r = s.esz) : EnvOK c (frzEnv r y.frz env) t w S' ρ E := by
  intro s v hm
  obtain ⟨u, h1, rfl⟩ := mem_frzEnv hm
  exact ⟨(h s u h1).1, (h s u h1).2.frz hS hx he⟩

/-- A whole state with a row frozen. -/
theorem freeze_sound {c : Ctx} {σ : St} {t : Array Value} {w : World} {S : Nat → Prop} {ρ : Nat → Value} {F : Nat → Nat → Prop} {E : Nat → Nat} (hM : Mem c σ.rows w S ρ F E) (hE : EnvOK c σ.env t w S ρ E) {r : Nat} {y : Row}
    (hr : lkp σ.rows r = some y) (hb : c.base ≤ r) :
    Mem c (σ.freeze r y).rows w (fun b => S b ∨ F r b) ρ F E ∧ EnvOK c (σ.freeze r y).env t w (fun b => S b ∨ F r b) ρ E ∧ RD w (fun b => S b ∨ F r b) (ρ r) y.frz := by
  have hrd : RD w (fun b => S b ∨ F r b) (ρ r) y.frz := by
    have := hM.row r y hr
    cases y with
    | sl s xs => exact this.rd
    | box cs => exact this.rdBox
  exact ⟨hM.freeze hr hb, hE.frz (fun _ h => .inl h) hrd (fun s xs e => hM.esz r s xs (e ▸ hr)), hrd⟩

end Go.Eng
