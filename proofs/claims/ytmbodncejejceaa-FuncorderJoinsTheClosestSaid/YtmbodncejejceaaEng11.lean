/- The engine, part 11: what a function's contract says; calls; append as an operation. -/
import Derived.Test.YtmbodncejejceaaEng10
set_option linter.all false
namespace Go.Eng

/-- Arguments: values that read as data, rows that are written (their blocks in Fs), rows handed over. -/
inductive ArgsOK (w : World) (S : Nat → Prop) : List Arg → List Value → List (Nat → Prop) → Prop
  | nil : ArgsOK w S [] [] []
  | d {x : D} {v : Value} {as : List Arg} {vs : List Value} {Fs : List (Nat → Prop)} (h : RD w S v x) (t : ArgsOK w S as vs Fs) : ArgsOK w S (.d x :: as) (v :: vs) Fs
  | row {x : Row} {G : Nat → Prop} {v : Value} {as : List Arg} {vs : List Value} {Fs : List (Nat → Prop)} (h : RowOK w S G v x) (hG : ∀ b, G b → b < w.heap.size ∧ ¬ S b) (hd : ∀ H ∈ Fs, ∀ b, G b → ¬ H b) (t : ArgsOK w S as vs Fs) :
      ArgsOK w S (.row x :: as) (v :: vs) (G :: Fs)
  | take {x : Row} {G : Nat → Prop} {v : Value} {as : List Arg} {vs : List Value} {Fs : List (Nat → Prop)} (h : RowOK w S G v x) (hG : ∀ b, G b → b < w.heap.size ∧ ¬ S b) (hd : ∀ H ∈ Fs, ∀ b, G b → ¬ H b) (t : ArgsOK w S as vs Fs) :
      ArgsOK w S (.take x :: as) (v :: vs) (G :: Fs)

/-- The rows that were written, behind the call; T: the blocks that were handed over, K: those that were written. -/
inductive RowsOK (w : World) (S : Nat → Prop) : List Arg → List Value → List (Nat → Prop) → List Row → Prop
  | nil : RowsOK w S [] [] [] []
  | d {x : D} {v : Value} {as : List Arg} {vs : List Value} {Fs : List (Nat → Prop)} {xs : List Row} (t : RowsOK w S as vs Fs xs) : RowsOK w S (.d x :: as) (v :: vs) Fs xs
  | row {x y : Row} {G : Nat → Prop} {v : Value} {as : List Arg} {vs : List Value} {Fs : List (Nat → Prop)} {xs : List Row} (h : RowOK w S G v y) (he : ∀ s ys, y = .sl s ys → ∃ xs, x = .sl s xs) (hG : ∀ b, G b → ¬ S b) (t : RowsOK w S as vs Fs xs) : RowsOK w S (.row x :: as) (v :: vs) (G :: Fs) (y :: xs)
  | take {x : Row} {G : Nat → Prop} {v : Value} {as : List Arg} {vs : List Value} {Fs : List (Nat → Prop)} {xs : List Row} (t : RowsOK w S as vs Fs xs) : RowsOK w S (.take x :: as) (v :: vs) (G :: Fs) xs

/-- The blocks of rows handed over. -/
def Taken : List Arg → List (Nat → Prop) → Nat → Prop
  | .d _ :: as, Fs, b => Taken as Fs b
  | .row _ :: as, _ :: Fs, b => Taken as Fs b
  | .take _ :: as, G :: Fs, b => G b ∨ Taken as Fs b
  | _, _, _ => False

/-- Results; H: the blocks of the rows among them. -/
inductive ResL (w : World) (S : Nat → Prop) : List Value → List Res → (Nat → Prop) → Prop
  | nil : ResL w S [] [] (fun _ => False)
  | d {x : D} {v : Value} {vs : List Value} {l : List Res} {H : Nat → Prop} (h : RD w S v x) (t : ResL w S vs l H) : ResL w S (v :: vs) (.d x :: l) H
  | row {x : Row} {G H : Nat → Prop} {v : Value} {vs : List Value} {l : List Res} (h : RowOK w S G v x) (hd : ∀ b, G b → ¬ H b) (t : ResL w S vs l H) : ResL w S (v :: vs) (.row x :: l) (fun b => G b ∨ H b)
inductive ResOK (w : World) (S : Nat → Prop) : Value → Res → (Nat → Prop) → Prop
  | d {x : D} {v : Value} (h : RD w S v x) : ResOK w S v (.d x) (fun _ => False)
  | row {x : Row} {G : Nat → Prop} {v : Value} (h : RowOK w S G v x) : ResOK w S v (.row x) G
  | tup {l : List Res} {vs : Array Value} {H : Nat → Prop} (h : ResL w S vs.toList l H) : ResOK w S (.tuple vs) (.tup l) H

/-- THE CONTRACT OF A FUNCTION. -/
def GCall (P : Program) (f : FuncId) (as : List Arg) (R : Res) (xs : List Row) : Prop :=
  ∀ (w : World) (S : Nat → Prop) (vs : List Value) (Fs : List (Nat → Prop)), (∀ b, S b → b < w.heap.size) → ArgsOK w S as vs Fs →
    Calls P f vs.toArray w fun e w' => ∃ v S' H, e = .returned v ∧ Ext w w' (fun b => ∃ G ∈ Fs, G b) ∧ (∀ b, S b → S' b) ∧ (∀ b, S' b → b < w'.heap.size ∧ (S b ∨ w.heap.size ≤ b)) ∧
      ResOK w' S' v R H ∧ (∀ b, H b → b < w'.heap.size ∧ ¬ S' b ∧ (w.heap.size ≤ b ∨ Taken as Fs b)) ∧ RowsOK w' S' as vs Fs xs

/-! ### What holds no memory reads alike everywhere -/

theorem RD.flat {w w' : World} {S S' : Nat → Prop} {v : Value} {x : D} (h : RD w S v x) : x.flat = true → RD w' S' v x := by
  have hl : ∀ (l : List D), D.flat.flatL l = true → ∀ (j : Nat) (d : D), l[j]? = some d → d.flat = true := by
    intro l
    induction l with
    | nil => intro _ j d h; simp at h
    | cons x l ih =>
      intro h j d hd
      unfold D.flat.flatL at h
      cases hx : x.flat with
      | false => rw [hx] at h; cases h
      | true =>
        rw [hx] at h; simp only [cond_true] at h
        cases j with
        | zero => simp at hd; subst hd; exact hx
        | succ j => exact ih h j d (by simpa using hd)
  induction h with
  | v x => exact fun _ => .v x
  | i k n => exact fun _ => .i k n
  | b b => exact fun _ => .b b
  | s x => exact fun _ => .s x
  | agg vs h _ ih => exact fun hf => .agg vs h fun j d hd => ih j d hd (hl _ (by simpa [D.flat] using hf) j d hd)
  | nilsl a c h => intro hf; simp [D.flat] at hf
  | sl b off n c us hb hn hlen hcell _ hc _ => intro hf; simp [D.flat] at hf
  | box b us hb hcell _ _ => intro hf; simp [D.flat] at hf
  | fn vs h _ _ => intro hf; simp [D.flat] at hf
theorem flatL_get {l : List D} (h : D.flat.flatL l = true) (j : Nat) (d : D) (hd : l[j]? = some d) : d.flat = true := by
  induction l generalizing j with
  | nil => simp at hd
  | cons x l ih =>
    unfold D.flat.flatL at h
    cases hx : x.flat with
    | false => rw [hx] at h; cases h
    | true =>
      rw [hx] at h; simp only [cond_true] at h
      cases j with
      | zero => simp at hd; subst hd; exact hx
      | succ j => exact ih h j (by simpa using hd)
theorem RowOK.flat {w : World} {S S' G : Nat → Prop} {v : Value} {x : Row} (h : RowOK w S G v x) (hf : x.Flat) : RowOK w S' G v x := by
  cases h with
  | nil h => exact .nil h
  | sl g n cap cur hn hg hnc hm hc hlen hrd => exact .sl g n cap cur hn hg hnc hm hc hlen fun i j d hi hd => (hrd i j d hi hd).flat (flatL_get (hf _) j d hd)
  | box g ty cur hg hc hrd => exact .box g ty cur hg hc fun j d hd => (hrd j d hd).flat (flatL_get hf j d hd)
theorem ResL.flat {w : World} {S S' H : Nat → Prop} {vs : List Value} {l : List Res} (h : ResL w S vs l H) : Res.Flat.FlatL l → ResL w S' vs l H := by
  induction h with
  | nil => exact fun _ => .nil
  | d h _ ih => exact fun hf => .d (h.flat hf.1) (ih hf.2)
  | row h hd _ ih => exact fun hf => .row (h.flat hf.1) hd (ih hf.2)
theorem ResOK.flat {w : World} {S S' H : Nat → Prop} {v : Value} {R : Res} (h : ResOK w S v R H) (hf : R.Flat) : ResOK w S' v R H := by
  cases h with
  | d h => exact .d (h.flat hf)
  | row h => exact .row (h.flat hf)
  | tup h => exact .tup (h.flat hf)
theorem RowsOK.flat {w : World} {S S' : Nat → Prop} {as : List Arg} {vs : List Value} {Fs : List (Nat → Prop)} {xs : List Row} (h : RowsOK w S as vs Fs xs) (hS : ∀ b, S' b → S b) : (∀ x ∈ xs, x.Flat) → RowsOK w S' as vs Fs xs := by
  induction h with
  | nil => exact fun _ => .nil
  | d _ ih => exact fun hf => .d (ih hf)
  | row h he hG _ ih => exact fun hf => .row (h.flat (hf _ List.mem_cons_self)) he (fun b hb hs => hG b hb (hS b hs)) (ih fun x hx => hf x (List.mem_cons_of_mem _ hx))
  | take _ ih => exact fun hf => .take (ih hf)

section
variable {P : Program} {T : Tab} {c : Ctx} {K : St → AV → Prop} {w : World} {S : Nat → Prop} {ρ : Nat → Value} {F : Nat → Nat → Prop} {E : Nat → Nat}

/-- The rows of a call: by name, with whether they are handed over. -/
def Fs (F : Nat → Nat → Prop) (rs : List (Nat × Bool)) : List (Nat → Prop) := rs.map fun p => F p.1
def Lent (σ : St) (F : Nat → Nat → Prop) (rs : List (Nat × Bool)) (b : Nat) : Prop := ∃ r x, lkp σ.rows r = some x ∧ memK r rs = false ∧ F r b

theorem memK_iff : ∀ {l : List (Nat × Bool)} {r : Nat}, memK r l = true ↔ ∃ q, (r, q) ∈ l
  | [], r => by simp [memK]
  | (q, z) :: l, r => by
    unfold memK
    by_cases e : q = r
    · subst e; simp [Nat.beq_refl]
    · rw [beq_ne e]; simp only [cond_false, memK_iff, List.mem_cons, Prod.mk.injEq]
      exact ⟨fun ⟨x, h⟩ => ⟨x, .inr h⟩, fun ⟨x, h⟩ => h.elim (fun h => absurd h.1.symm e) fun h => ⟨x, h⟩⟩

theorem hitsL_get {r : Nat} : ∀ {l : List AV} {j : Nat} {v : AV}, l[j]? = some v → v.hits r = true → AV.hits.hitsL r l = true
  | [], j, v, h, _ => by simp at h
  | x :: l, j, v, h, hv => by
    unfold AV.hits.hitsL
    cases hx : x.hits r with
    | true => rfl
    | false =>
      simp only [cond_false]
      cases j with
      | zero => simp only [List.getElem?_cons_zero, Option.some.injEq] at h; subst h; rw [hv] at hx; cases hx
      | succ j => exact hitsL_get (j := j) (by simpa using h) hv

theorem bor_sound {σ : St} (hM : Mem c σ.rows w S ρ F E) {S2 : Nat → Prop} (hS : ∀ b, S b → S2 b) {u : Value} {v : AV} (hv : VOK w S ρ E u v) :
    (∀ (r : Nat) (x : Row) (b : Nat), v.hits r = true → lkp σ.rows r = some x → F r b → S2 b) → ∀ {d : D}, bor σ v = some d → RD w S2 u d := by
  induction hv with
  | d h => intro _ d hb; simp only [bor, Option.some.injEq] at hb; subst hb; exact h.mono hS (fun _ _ => rfl)
  | own r =>
    intro hL d hb
    simp only [bor] at hb
    split at hb
    · rename_i s xs hr
      simp only [Option.some.injEq] at hb; subst hb
      exact (hM.row r _ hr).rd.mono (fun b hb => hb.elim (hS b) (hL r _ b (by simp [AV.hits, Nat.beq_refl]) hr)) (fun _ _ => rfl)
    · cases hb
  | bptr r o g h =>
    intro hL d hb
    cases o with
    | zero =>
      simp only [bor] at hb
      split at hb
      · rename_i cs hr
        simp only [Option.some.injEq] at hb; subst hb
        have := (hM.row r _ hr).rdBox.mono (w' := w) (fun b hb => hb.elim (hS b) (hL r _ b (by simp [AV.hits, Nat.beq_refl]) hr)) (fun _ _ => rfl)
        rw [h] at this; exact this
      · cases hb
    | succ o => simp [bor] at hb
  | pptr o b h =>
    intro _ d hb
    cases o with
    | zero => simp only [bor, Option.some.injEq] at hb; subst hb; exact h.mono hS (fun _ _ => rfl)
    | succ o => simp [bor] at hb
  | @fn f caps vs h hvs ih =>
    intro hL d hb
    simp only [bor] at hb
    split at hb
    · rename_i ds hds
      simp only [Option.some.injEq] at hb; subst hb
      have key : ∀ (l : List AV) (ds : List D), bor.borL σ l = some ds → l.length = ds.length ∧ ∀ (j : Nat) (d : D), ds[j]? = some d → ∃ v, l[j]? = some v ∧ bor σ v = some d := by
        intro l
        induction l with
        | nil => intro ds h; simp only [bor.borL, Option.some.injEq] at h; subst h; exact ⟨rfl, by simp⟩
        | cons v l ih =>
          intro ds h
          simp only [bor.borL] at h
          split at h
          · rename_i x xs h1 h2
            simp only [Option.some.injEq] at h; subst h
            obtain ⟨e1, e2⟩ := ih xs h2
            refine ⟨by simp [e1], fun j d hj => ?_⟩
            cases j with
            | zero => simp only [List.getElem?_cons_zero, Option.some.injEq] at hj; subst hj; exact ⟨v, rfl, h1⟩
            | succ j => simpa using e2 j d (by simpa using hj)
          · cases h
      obtain ⟨e1, e2⟩ := key _ _ hds
      refine .fn vs (h.trans e1) fun j d hj => ?_
      obtain ⟨v, h1, h2⟩ := e2 j d hj
      exact ih j v h1 (fun r x b hh => hL r x b (by simp only [AV.hits]; exact hitsL_get h1 hh)) h2
    · cases hb
  | _ => intro _ d hb; simp [bor] at hb

/-- Arguments, values and rows in step. -/
inductive Corr (T : Tab) (σ : St) (ρ : Nat → Value) : List Arg → List Value → List (Nat × Bool) → Prop
  | nil : Corr T σ ρ [] [] []
  | d {x : D} {u : Value} {as : List Arg} {us : List Value} {rs : List (Nat × Bool)} (t : Corr T σ ρ as us rs) : Corr T σ ρ (.d x :: as) (u :: us) rs
  | row {r : Nat} {s : Sh} {xs : Th (List s.α)} {as : List Arg} {us : List Value} {rs : List (Nat × Bool)} (hr : lkp σ.rows r = some (.sl s xs)) (hn : memK r rs = false) (ha : allowed T r = true) (t : Corr T σ ρ as us rs) :
      Corr T σ ρ (.row (.sl s xs) :: as) (ρ r :: us) ((r, false) :: rs)
  | take {r : Nat} {s : Sh} {xs : Th (List s.α)} {as : List Arg} {us : List Value} {rs : List (Nat × Bool)} (hr : lkp σ.rows r = some (.sl s xs)) (hn : memK r rs = false) (ha : allowed T r = true) (hb : T.base ≤ r) (t : Corr T σ ρ as us rs) :
      Corr T σ ρ (.take (.sl s xs) :: as) (ρ r :: us) ((r, true) :: rs)

theorem Corr.rows {σ : St} {as : List Arg} {us : List Value} {rs : List (Nat × Bool)} (h : Corr T σ ρ as us rs) : ∀ p ∈ rs, ∃ y, lkp σ.rows p.1 = some y ∧ allowed T p.1 = true ∧ (p.2 = true → T.base ≤ p.1) := by
  induction h with
  | nil => intro p hp; cases hp
  | d _ ih => exact ih
  | row hr _ ha _ ih =>
    intro p hp
    rcases List.mem_cons.1 hp with rfl | hp
    · exact ⟨_, hr, ha, fun h => by cases h⟩
    · exact ih p hp
  | take hr _ ha hb _ ih =>
    intro p hp
    rcases List.mem_cons.1 hp with rfl | hp
    · exact ⟨_, hr, ha, fun _ => hb⟩
    · exact ih p hp

theorem blt_false {r n : Nat} (h : Nat.blt r n = false) : n ≤ r := Nat.le_of_not_lt fun h' => by
  have : Nat.blt r n = true := by simpa [Nat.blt_eq] using h'
  rw [this] at h; cases h

theorem hitsAny_false : ∀ {rs : List (Nat × Bool)} {v : AV} {r : Nat}, hitsAny rs v = false → v.hits r = true → memK r rs = false
  | [], v, r, _, _ => rfl
  | (q, z) :: l, v, r, h, hv => by
    unfold hitsAny at h
    cases hq : v.hits q with
    | true => rw [hq] at h; cases h
    | false =>
      rw [hq] at h; simp only [cond_false] at h
      unfold memK
      by_cases e : q = r
      · subst e; rw [hv] at hq; cases hq
      · rw [beq_ne e]; exact hitsAny_false h hv

/-- What a call may read: where nothing is lent, what nobody writes; else also every row that this call does not write. -/
def S2 (σ : St) (S : Nat → Prop) (F : Nat → Nat → Prop) (rs : List (Nat × Bool)) (nb : Bool) (b : Nat) : Prop := S b ∨ (nb = false ∧ Lent σ F rs b)

theorem mkArgs_sound {σ : St} (hM : Mem c σ.rows w S ρ F E) (rs0 : List (Nat × Bool)) (nb0 : Bool) : ∀ {vs : List AV} {ms : List Mode} {us : List Value} {as : List Arg} {rs : List (Nat × Bool)} {nb : Bool},
    mkArgs1 T σ ms vs = some (as, rs, nb) → okB rs0 ms vs = true → (∀ r, memK r rs = true → memK r rs0 = true) → (nb0 = true → nb = true) → us.length = vs.length → (∀ j v, vs[j]? = some v → VOK w S ρ E (us.getD j undef) v) →
    ArgsOK w (S2 σ S F rs0 nb0) as us (Fs F rs) ∧ Corr T σ ρ as us rs
  | [], ms, us, as, rs, nb, h, _, _, _, hl, _ => by
    have : mkArgs1 T σ ms [] = some ([], [], true) := by cases ms with | nil => rfl | cons m ms => cases m <;> rfl
    rw [this] at h
    simp only [Option.some.injEq, Prod.mk.injEq] at h
    obtain ⟨rfl, rfl, rfl⟩ := h
    cases us with
    | nil => exact ⟨.nil, .nil⟩
    | cons u us => simp at hl
  | v :: vs, ms, us, as, rs, nb, h, ho, hsub, hnb, hl, hv => by
    cases us with
    | nil => simp at hl
    | cons u us =>
      have hl' : us.length = vs.length := by simpa using hl
      have hv0 : VOK w S ρ E u v := by simpa using hv 0 v rfl
      have hv' : ∀ j x, vs[j]? = some x → VOK w S ρ E (us.getD j undef) x := fun j x hj => by simpa using hv (j + 1) x (by simpa using hj)
      have lend : ∀ {ms' : List Mode} {x : D} {as' : List Arg} {nb' : Bool}, bor σ v = some x → mkArgs1 T σ ms' vs = some (as', rs, nb') → hitsAny rs0 v = false → okB rs0 ms' vs = true → nb = (bif nb' then isD v else false) → as = .d x :: as' →
          ArgsOK w (S2 σ S F rs0 nb0) as (u :: us) (Fs F rs) ∧ Corr T σ ρ as (u :: us) rs := by
        intro ms' x as' nb' hb hm hh ho' hn hae
        subst hae
        obtain ⟨t1, t2⟩ := mkArgs_sound hM rs0 nb0 hm ho' hsub (fun h => by
          have := hnb h; rw [hn] at this
          cases nb' with
          | true => rfl
          | false => simp at this) hl' hv'
        refine ⟨.d (bor_sound hM (fun b hb => .inl hb) hv0 (fun r y b hr hy hF => ?_) hb) t1, .d t2⟩
        refine .inr ⟨?_, r, y, hy, hitsAny_false hh hr, hF⟩
        cases hn0 : nb0 with
        | false => rfl
        | true =>
          have := hnb hn0
          rw [hn] at this
          cases nb' with
          | false => simp at this
          | true =>
            simp only [cond_true] at this
            exfalso
            cases v <;> simp [isD] at this <;> simp [AV.hits] at hr
      have own : ∀ {r : Nat} {s : Sh} {xs : Th (List s.α)} {rs' : List (Nat × Bool)} {as' : List Arg} {nb' : Bool} {ms' : List Mode} {z : Bool}, v = .own r → lkp σ.rows r = some (.sl s xs) → mkArgs1 T σ ms' vs = some (as', rs', nb') → okB rs0 ms' vs = true →
          memK r rs' = false → allowed T r = true → rs = (r, z) :: rs' → nb = nb' →
          u = ρ r ∧ RowOK w (S2 σ S F rs0 nb0) (F r) (ρ r) (.sl s xs) ∧ (∀ b, F r b → b < w.heap.size ∧ ¬ S2 σ S F rs0 nb0 b) ∧ (∀ H ∈ Fs F rs', ∀ b, F r b → ¬ H b) ∧ ArgsOK w (S2 σ S F rs0 nb0) as' us (Fs F rs') ∧ Corr T σ ρ as' us rs' := by
        intro r s xs rs' as' nb' ms' z hve hr hm ho' hmk hal hrs hnn
        subst hve; subst hrs; subst hnn
        have hsub' : ∀ q, memK q rs' = true → memK q rs0 = true := fun q hq => hsub q (by unfold memK; by_cases e : r = q <;> simp [e, Nat.beq_refl, beq_ne, hq])
        obtain ⟨t1, t2⟩ := mkArgs_sound hM rs0 nb0 hm ho' hsub' hnb hl' hv'
        cases hv0 with
        | own r =>
          refine ⟨rfl, (hM.row r _ hr).mono (fun b hb => .inl hb) (fun _ _ => rfl) (fun _ _ => rfl), fun b hb => ⟨(hM.blk r _ hr b hb).1, ?_⟩, ?_, t1, t2⟩
          · rintro (h1 | ⟨_, q, y, hq, hmq, hFq⟩)
            · exact (hM.blk r _ hr b hb).2.1 h1
            · have : memK r rs0 = true := hsub r (by unfold memK; simp [Nat.beq_refl])
              have hne : r ≠ q := fun e => by subst e; rw [this] at hmq; cases hmq
              exact hM.dis r q _ _ hne hr hq b hb hFq
          · intro H hH b hb hHb
            simp only [Fs, List.mem_map] at hH
            obtain ⟨⟨q, z'⟩, hq, rfl⟩ := hH
            have hne : r ≠ q := fun e => by subst e; rw [memK_iff.2 ⟨z', hq⟩] at hmk; cases hmk
            have hqr : ∃ y, lkp σ.rows q = some y ∧ allowed T q = true ∧ (z' = true → T.base ≤ q) := t2.rows _ hq
            obtain ⟨y, hy, _⟩ := hqr
            exact hM.dis r q _ _ hne hr hy b hb hHb
      cases ms with
      | nil =>
        simp only [mkArgs1] at h
        simp only [okB] at ho
        cases hh : hitsAny rs0 v with
        | true => rw [hh] at ho; cases ho
        | false =>
          rw [hh] at ho; simp only [cond_false] at ho
          split at h
          · rename_i x as' rs' nb' hb hm
            simp only [Option.some.injEq, Prod.mk.injEq] at h
            obtain ⟨h1, rfl, h3⟩ := h
            exact lend hb hm hh ho h3.symm h1.symm
          · cases h
      | cons m ms =>
        cases m with
        | b =>
          simp only [mkArgs1] at h
          simp only [okB] at ho
          cases hh : hitsAny rs0 v with
          | true => rw [hh] at ho; cases ho
          | false =>
            rw [hh] at ho; simp only [cond_false] at ho
            split at h
            · rename_i x as' rs' nb' hb hm
              simp only [Option.some.injEq, Prod.mk.injEq] at h
              obtain ⟨h1, rfl, h3⟩ := h
              exact lend hb hm hh ho h3.symm h1.symm
            · cases h
        | m =>
          simp only [mkArgs1] at h
          simp only [okB] at ho
          split at h
          · rename_i r
            split at h
            · rename_i s xs as' rs' nb' hr hm
              cases h1 : memK r rs' with
              | true => rw [h1] at h; cases h
              | false => cases h2 : allowed T r with
                | false => rw [h1, h2] at h; cases h
                | true =>
                  rw [h1, h2] at h
                  simp only [cond_true, cond_false, Option.some.injEq, Prod.mk.injEq] at h
                  obtain ⟨rfl, h4, h5⟩ := h
                  obtain ⟨e1, e2, e3, e4, e5, e6⟩ := own rfl hr hm ho h1 h2 h4.symm h5.symm
                  subst e1; subst h4
                  exact ⟨.row e2 e3 e4 e5, .row hr h1 h2 e6⟩
            · cases h
          · cases h
        | t =>
          simp only [mkArgs1] at h
          simp only [okB] at ho
          split at h
          · rename_i r
            split at h
            · rename_i s xs as' rs' nb' hr hm
              cases h1 : memK r rs' with
              | true => rw [h1] at h; cases h
              | false => cases h3 : Nat.blt r T.base with
                | true => rw [h1, h3] at h; cases h
                | false => cases h2 : allowed T r with
                  | false => rw [h1, h3, h2] at h; cases h
                  | true =>
                    rw [h1, h3, h2] at h
                    simp only [cond_true, cond_false, Option.some.injEq, Prod.mk.injEq] at h
                    obtain ⟨rfl, h4, h5⟩ := h
                    obtain ⟨e1, e2, e3, e4, e5, e6⟩ := own rfl hr hm ho h1 h2 h4.symm h5.symm
                    subst e1; subst h4
                    exact ⟨.take e2 e3 e4 e5, .take hr h1 h2 (blt_false h3) e6⟩
            · cases h
          · cases h
end
end Go.Eng
