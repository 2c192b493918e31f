/- The engine, part 7: loads, new rows, stores. -/
import Derived.Test.YtmbodncejejceaaEng6
set_option linter.all false
namespace Go.Eng

theorem top_le {β : Type 1} : ∀ {l : List (Nat × β)} {n : Nat}, top l ≤ n → lkp l n = none
  | l, n, h => by
    cases hl : lkp l n with
    | none => rfl
    | some v => exact absurd (lt_top (lkp_mem hl)) (Nat.not_lt.2 h)

theorem alloc_size (w : World) (o : Obj) : (w.alloc o).heap.size = w.heap.size + 1 := by
  show (w.heap.push o).size = _
  simp
theorem Ext.alloc (w : World) (o : Obj) (M : Nat → Prop) : Ext w (w.alloc o) M := ⟨rfl, rfl, rfl, by rw [alloc_size]; exact Nat.le_succ _, fun b hb _ => by
  show (w.heap.push o)[b]? = _
  rw [Array.getElem?_push, if_neg (Nat.ne_of_lt hb)]⟩

theorem alloc_new (w : World) (o : Obj) : (w.alloc o).heap[w.heap.size]? = some o := by
  show (w.heap.push o)[w.heap.size]? = some o
  simp

/-- The blocks that may be written. -/
def Mb (T : Tab) (rows : List (Nat × Row)) (F : Nat → Nat → Prop) (b : Nat) : Prop := ∃ r x, allowed T r = true ∧ lkp rows r = some x ∧ F r b

section
variable {P : Program} {T : Tab} {c : Ctx} {σ : St} {K : St → AV → Prop} {ro : Oper} {a : Act} {w : World} {S : Nat → Prop} {ρ : Nat → Value} {F : Nat → Nat → Prop} {E : Nat → Nat}

theorem add_sound (hT : T.base = c.base) (hM : Mem c σ.rows w S ρ F E) {t : Array Value} (hE : EnvOK c σ.env t w S ρ E) {w' : World} (hx : Ext w w' (fun _ => False)) (h0 : Ext c.w0 w c.Fp)
    {v : Value} {x : Row} {G : Nat → Prop} {e : Nat} (hrow : RowOK w' S G v x) (hG : ∀ b, G b → w.heap.size ≤ b ∧ b < w'.heap.size) (he : ∀ s xs, x = .sl s xs → e = s.esz) :
    Mem c (σ.add T x).rows w' S (upd ρ (σ.fresh T) v) (upd F (σ.fresh T) G) (upd E (σ.fresh T) e) ∧ EnvOK c (σ.add T x).env t w' S (upd ρ (σ.fresh T) v) (upd E (σ.fresh T) e) ∧
      From T σ.rows F w.heap.size (σ.add T x).rows (upd F (σ.fresh T) G) := by
  have hn : lkp σ.rows (σ.fresh T) = none := top_le (Nat.le_max_left _ _)
  refine ⟨hM.add hx h0 hn (by rw [← hT]; exact Nat.le_max_right _ _) hrow hG he, ?_, ?_⟩
  · have hsame := hx.same (S := S) hM.slt (fun _ _ h => h)
    have := (hE.mono (fun _ h => h) hsame).sub (env' := dropHits (σ.fresh T) σ.env) fun s u hm => (mem_dropHits hm).1
    exact this.upd (fun s u hm => (mem_dropHits hm).2) v e
  · intro q y b hq hb
    by_cases e : σ.fresh T = q
    · subst e; rw [upd_same] at hb; exact .inr (hG b hb).1
    · rw [upd_ne _ _ (Ne.symm e)] at hb
      have hq' : lkp σ.rows q = some y := by
        have : lkp ((σ.fresh T, x) :: σ.rows) q = some y := hq
        rwa [lkp_cons_ne _ _ e] at this
      exact .inl ⟨q, y, hq', hb, id⟩

/-- The operation gives a value. -/
def GRes (P : Program) (T : Tab) (c : Ctx) (rows : List (Nat × Row)) (F : Nat → Nat → Prop) (K : St → AV → Prop) (ro : Oper) (a : Act) (w : World) : Prop :=
  ∃ v w', ((execOp a.eval ro).run P w = .ok (.value v) w' ∨ ((execOp a.eval ro).run P w = .ok .skip w' ∧ v = undef)) ∧ Ext w w' (Mb T rows F) ∧ OutG T c rows F w.heap.size K a.tmps w' v

theorem PRes.gres (h : PRes P T c σ.rows F K ro a w) : GRes P T c σ.rows F K ro a w := by
  obtain ⟨v, h1, h2⟩ := h
  exact ⟨v, w, .inl (h1 w), .refl _ _, h2⟩

theorem g_alloc (hT : T.base = c.base) (hM : Mem c σ.rows w S ρ F E) (hE : EnvOK c σ.env a.tmps w S ρ E) (h0 : Ext c.w0 w c.Fp) {t : TypeId} (ho : ro.op = .alloc t) {i : TypeInfo} (hi : P.info? t = some i) {z : Value}
    (hz : i.zero = some z) (hk : step T (.alloc z.cells.toList) σ K) : GRes P T c σ.rows F K ro a w := by
  simp only [step] at hk
  have hrow : RowOK (w.alloc (.cells z.cells t)) S (fun b => b = w.heap.size) (.pointer (some ⟨w.heap.size, 0, none⟩)) (.box (cvs z.cells.toList)) :=
    .box w.heap.size t z.cells (alloc_new w _) (cvs_crd w S z.cells).size fun j d hd => (cvs_crd _ S z.cells).rd j d hd
  obtain ⟨h1, h2, h3⟩ := add_sound hT hM hE (Ext.alloc w _ _) h0 hrow (fun b hb => by subst hb; exact ⟨Nat.le_refl _, by rw [alloc_size]; exact Nat.lt_succ_self _⟩) (e := 0) (fun s xs h => by cases h)
  refine ⟨_, _, .inl ?_, Ext.alloc w (.cells z.cells t) _, _, _, S, _, _, _, hk, h1, h2, .bptr _ 0 w.heap.size (upd_same _ _ _), h3⟩
  simp [execOp, ho, Instr.alloc, zeroValue, typeInfo, hi, hz, newVar, newRow]

theorem g_box (hT : T.base = c.base) (hM : Mem c σ.rows w S ρ F E) (hE : EnvOK c σ.env a.tmps w S ρ E) (h0 : Ext c.w0 w c.Fp) {t : TypeId} {o : Operand} (ho : ro.op = .box t o) {x : X} (hx : xOf o = some x)
    (hk : step T (.box x) σ K) : GRes P T c σ.rows F K ro a w := by
  simp only [step] at hk
  obtain ⟨σ1, d, S1, hk, hM1, hE1, hd, hS1, hr1⟩ := evD_sound hT hM hE hx hk
  cases hb : ones d.parts with
  | false => rw [hb] at hk; exact hk.elim
  | true =>
    rw [hb] at hk; simp only [cond_true] at hk
    obtain ⟨hc, _⟩ := parts_sound hd hb
    have hsame := (Ext.alloc w (.cells (a.eval o).cells t) (fun _ => False)).same (S := S1) hM1.slt (fun _ _ h => h)
    have hrow : RowOK (w.alloc (.cells (a.eval o).cells t)) S1 (fun b => b = w.heap.size) (.pointer (some ⟨w.heap.size, 0, none⟩)) (.box d.parts) :=
      .box w.heap.size t _ (alloc_new w _) hc.size fun j y hy => (hc.rd j y hy).mono (fun _ h => h) hsame
    obtain ⟨h1, h2, h3⟩ := add_sound hT hM1 hE1 (Ext.alloc w _ _) h0 hrow (fun b hb => by subst hb; exact ⟨Nat.le_refl _, by rw [alloc_size]; exact Nat.lt_succ_self _⟩) (e := 0) (fun s xs h => by cases h)
    refine ⟨_, _, .inl ?_, Ext.alloc w (.cells (a.eval o).cells t) _, _, _, S1, _, _, _, hk, h1, h2, .bptr _ 0 w.heap.size (upd_same _ _ _), ?_⟩
    · simp [execOp, ho, Instr.box, newVar, newRow]
    · intro q y b hq hb'
      rcases h3 q y b hq hb' with ⟨r, z, e1, e2, e3⟩ | h
      · exact .inl ⟨r, z, hr1 r z e1, e2, e3⟩
      · exact .inr h

/-! ### loads -/

theorem cell_same {w w' : World} {g o : Nat} (h : w'.heap[g]? = w.heap[g]?) : w'.cell? ⟨g, o, none⟩ = w.cell? ⟨g, o, none⟩ := World.cell?_of_block h

theorem getD_mem {α : Type} {l : List α} {i : Nat} {d : α} (h : i < l.length) : l.getD i d ∈ l := by
  rw [List.getD_eq_getElem?_getD, List.getElem?_eq_getElem h]; exact List.getElem_mem _

theorem cellsAt_sound (hM : Mem c σ.rows w S ρ F E) {v : Value} {p : AV} (hv : VOK w S ρ E v p) {ds : List D} (h : cellsAt σ p = some ds) :
    ∃ (g o : Nat) (us : Nat → Value), v = .pointer (some ⟨g, o, none⟩) ∧ (∀ (j : Nat) (d : D), ds[j]? = some d → w.cell? ⟨g, o + j, none⟩ = some (us j) ∧ RD w S (us j) d) ∧
      (S g ∨ ∃ r x, lkp σ.rows r = some x ∧ p.into r = true ∧ F r g) := by
  unfold cellsAt at h
  split at h
  · rename_i r o
    split at h
    · rename_i cs hr
      simp only [Option.some.injEq] at h; subst h
      cases hv with
      | bptr r o g hq =>
        obtain ⟨g', ty, cur, e1, e2, e3, e4, e5⟩ := (hM.row r _ hr).invBox
        rw [hq] at e1; cases e1
        refine ⟨g, o, fun j => cur.getD (o + j) undef, rfl, fun j d hj => ?_, .inr ⟨r, _, hr, by simp [AV.into, Nat.beq_refl], (e5 g).2 rfl⟩⟩
        rw [dropD_eq, List.getElem?_drop] at hj
        have hlt : o + j < cs.length := (List.getElem?_eq_some_iff.1 hj).1
        exact ⟨cell_of_row e2 (by omega), e4 _ d hj⟩
    · cases h
  · rename_i r i o
    split at h
    · rename_i s xs hr
      simp only [Option.some.injEq] at h; subst h
      have hEr := hM.esz r s xs hr
      cases hv with
      | eptr r i o g n cap hq h0 h1 =>
        rcases (hM.row r _ hr).inv with ⟨_, e, _⟩ | ⟨g', n', cap', cur, e1, hn, e2, hnc, hm, hc, hlen, hrd, e5⟩
        · rw [hq] at e; cases e
        · rw [hq] at e1; cases e1
          have hi : (i ()).toNat < n := by omega
          refine ⟨g, _, fun j => cur.getD ((i ()).toNat * s.esz + (o + j)) undef, by rw [hEr], fun j d hj => ?_, .inr ⟨r, _, hr, by simp [AV.into, Nat.beq_refl], (e5 g).2 rfl⟩⟩
          rw [dropD_eq, List.getElem?_drop] at hj
          have hlt := (List.getElem?_eq_some_iff.1 hj).1
          rw [hlen _ (getD_mem (by omega))] at hlt
          refine ⟨?_, hrd _ _ d hi hj⟩
          rw [Nat.add_assoc]
          refine cell_of_row e2 ?_
          rw [hc]
          have : (i ()).toNat * s.esz + (o + j) < ((i ()).toNat + 1) * s.esz := by rw [Nat.add_mul]; omega
          exact Nat.lt_of_lt_of_le this (Nat.mul_le_mul_right _ (by omega))
    · cases h
  · rename_i α esz cells d0 xs i o
    simp only [Option.some.injEq] at h; subst h
    cases hv with
    | dptr i o b off n cap hd h0 h1 =>
      cases hd with
      | nilsl a cap hx => simp at h1; omega
      | sl b off n cap us hb hn hlen hcell hrd hc =>
        have hi : (i ()).toNat < n := by omega
        refine ⟨b, _, fun j => us ((i ()).toNat * esz + (o + j)), rfl, fun j d hj => ?_, .inl hb⟩
        rw [dropD_eq, List.getElem?_drop] at hj
        have hlt := (List.getElem?_eq_some_iff.1 hj).1
        rw [hlen _ (getD_mem (by omega))] at hlt
        refine ⟨?_, hrd _ _ d hi hj⟩
        have : (i ()).toNat * esz + (o + j) < ((i ()).toNat + 1) * esz := by rw [Nat.add_mul]; omega
        have hh := hcell _ (Nat.lt_of_lt_of_le this (Nat.mul_le_mul_right _ hi))
        rw [← hh]; congr 2; omega
  · rename_i cs o
    simp only [Option.some.injEq] at h; subst h
    cases hv with
    | pptr o b hd =>
      cases hd with
      | box b us hb hcell hrd =>
        refine ⟨b, o, fun j => us (o + j), rfl, fun j d hj => ?_, .inl hb⟩
        rw [dropD_eq, List.getElem?_drop] at hj
        exact ⟨hcell _ (List.getElem?_eq_some_iff.1 hj).1, hrd _ d hj⟩
  · cases h

theorem run_loadVar' {t : TypeId} {ag : Option Nat} (hag : aggOf P t = some ag) {ds : List D} {g o : Nat} {us : Nat → Value}
    (hc : ∀ (j : Nat) (d : D), ds[j]? = some d → w.cell? ⟨g, o + j, none⟩ = some (us j) ∧ RD w S (us j) d) {K' : D → Prop} (hk : partsOf ag ds K') :
    ∃ v d, (∀ w', w'.heap[g]? = w.heap[g]? → (loadVar t ⟨g, o, none⟩).run P w' = .ok v w') ∧ K' d ∧ RD w S v d := by
  have agg : ∀ n : Nat, (P.info? t).map (fun i => i.size) = some n → (∀ w', (isAgg t).run P w' = .ok true w') → partsOf (some n) ds K' →
      ∃ v d, (∀ w', w'.heap[g]? = w.heap[g]? → (loadVar t ⟨g, o, none⟩).run P w' = .ok v w') ∧ K' d ∧ RD w S v d := by
    intro n hn hagg hk
    simp only [partsOf] at hk
    split at hk
    · rename_i l hl
      obtain ⟨h1, h2⟩ := takeD_eq _ _ _ hl
      cases hi : P.info? t with
      | none => rw [hi] at hn; cases hn
      | some i =>
        rw [hi] at hn; simp only [Option.map_some, Option.some.injEq] at hn
        refine ⟨.agg ((List.range n).map us).toArray, .agg l, fun w' hw' => ?_, hk, ?_⟩
        · have hcells : ∀ j, j < n → w'.cell? ((⟨g, o, none⟩ : Addr).add j) = some (us j) := fun j hj => by
            rw [add_plain, cell_same hw']
            exact (hc j _ (List.getElem?_eq_getElem (by omega))).1
          have := run_loadCells (P := P) w' ⟨g, o, none⟩ n us hcells
          simp [loadVar, hagg, run_sizeOf hi, hn, this]
        · refine .agg _ (by simp [h1]; omega) fun j d hj => ?_
          rw [h1, List.getElem?_take] at hj
          split at hj
          · rename_i hjn
            have e : ((List.range n).map us).toArray.getD j undef = us j := by simp [Array.getD_eq_getD_getElem?, hjn]
            rw [e]; exact (hc j d hj).2
          · cases hj
    · exact hk.elim
  unfold aggOf at hag
  split at hag
  · rename_i fs ht
    cases hi : P.info? t with
    | none => rw [hi] at hag; cases hag
    | some i => rw [hi] at hag; cases hag; exact agg i.size (by rw [hi]; rfl) (fun w' => by simp [isAgg, run_underlying' ht]) hk
  · rename_i m e ht
    cases hi : P.info? t with
    | none => rw [hi] at hag; cases hag
    | some i => rw [hi] at hag; cases hag; exact agg i.size (by rw [hi]; rfl) (fun w' => by simp [isAgg, run_underlying' ht]) hk
  · rename_i d h1 h2 ht
    cases hag
    simp only [partsOf] at hk
    split at hk
    · rename_i dd l
      obtain ⟨e1, e2⟩ := hc 0 dd rfl
      refine ⟨us 0, dd, fun w' hw' => ?_, hk, e2⟩
      have hna : (isAgg t).run P w' = .ok false w' := by
        simp only [isAgg, Sem.run_bind, run_underlying' ht, Result.andThen_ok]
        first
          | rfl
          | (split
             · rename_i fs; exact (h1 fs rfl).elim
             · rename_i m e; exact (h2 m e rfl).elim
             · rfl)
      have e1' : w'.cell? ⟨g, o, none⟩ = some (us 0) := by rw [cell_same hw']; simpa using e1
      simp [loadVar, hna, e1']
    · exact hk.elim
  · cases hag

/-- A load: what it gives depends on one block alone. -/
def RRes (P : Program) (T : Tab) (c : Ctx) (σ : St) (S : Nat → Prop) (F : Nat → Nat → Prop) (p : AV) (K : St → AV → Prop) (ro : Oper) (a : Act) (w : World) : Prop :=
  ∃ v g, (∀ w', w'.heap[g]? = w.heap[g]? → (execOp a.eval ro).run P w' = .ok (.value v) w') ∧ (S g ∨ ∃ r x, lkp σ.rows r = some x ∧ p.into r = true ∧ F r g) ∧ OutG T c σ.rows F w.heap.size K a.tmps w v

theorem r_load (hM : Mem c σ.rows w S ρ F E) (hE : EnvOK c σ.env a.tmps w S ρ E) {t : TypeId} {o : Operand} (ho : ro.op = .load t o) {ag : Option Nat} (hag : aggOf P t = some ag) {x : X} (hx : xOf o = some x)
    (hk : step T (.load ag x) σ K) : ∃ p, σ.ev x = some p ∧ RRes P T c σ S F p K ro a w := by
  simp only [step] at hk
  split at hk
  · rename_i p hp
    split at hk
    · rename_i ds hds
      obtain ⟨g, off, us, h1, h2, h3⟩ := cellsAt_sound hM (ev_sound hE hx hp) hds
      obtain ⟨v, d, e1, e2, e3⟩ := run_loadVar' (P := P) hag h2 hk
      exact ⟨p, hp, v, g, fun w' hw' => by simp [execOp, ho, Instr.loadAt, h1, Instr.sureAddr, e1 w' hw'], h3, .keep hM hE e2 (.d e3)⟩
    · exact hk.elim
  · exact hk.elim

theorem RRes.gres {p : AV} (h : RRes P T c σ S F p K ro a w) : GRes P T c σ.rows F K ro a w := by
  obtain ⟨v, g, h1, _, h2⟩ := h
  exact ⟨v, w, .inl (h1 w rfl), .refl _ _, h2⟩
end
end Go.Eng
