/- The engine, part 6: the operations that read and make memory. -/
import Derived.Test.YtmbodncejejceaaEng5
import Derived.Laws.Tables
set_option linter.all false
namespace Go.Eng

/-- Cells that read as data. -/
structure CRD (w : World) (S : Nat → Prop) (us : Array Value) (ds : List D) : Prop where
  size : us.size = ds.length
  rd : ∀ j d, ds[j]? = some d → RD w S (us.getD j undef) d

theorem CRD.mono {w w' : World} {S S' : Nat → Prop} {us : Array Value} {ds : List D} (h : CRD w S us ds) (hS : ∀ b, S b → S' b) (hw : ∀ b, S b → w'.heap[b]? = w.heap[b]?) : CRD w' S' us ds :=
  ⟨h.size, fun j d hd => (h.rd j d hd).mono hS hw⟩

theorem one_cell {w : World} {S : Nat → Prop} {v : Value} {d : D} (h : RD w S v d) (ho : d.one = true) : v.oneCell' = true ∧ v.cells = #[v] := by
  cases h with
  | v =>
    unfold D.one at ho
    cases v <;> first
      | exact ⟨rfl, rfl⟩
      | simp at ho
  | agg => simp [D.one] at ho
  | _ => exact ⟨rfl, rfl⟩

theorem ones_mem : ∀ {l : List D}, ones l = true → ∀ d ∈ l, d.one = true
  | [], _, _, h => by cases h
  | x :: l, ho, d, h => by
    unfold ones at ho
    cases hx : x.one with
    | false => rw [hx] at ho; cases ho
    | true =>
      rw [hx] at ho; simp only [cond_true] at ho
      rcases List.mem_cons.1 h with rfl | h
      · exact hx
      · exact ones_mem ho d h

theorem nrm_rd {w : World} {S : Nat → Prop} {v : Value} {d : D} (h : RD w S v d) : RD w S v d.nrm := by
  unfold D.nrm
  split
  · rename_i b
    cases h with
    | b => exact .b (.dyn fun _ => b)
  · exact h
theorem nrmL_get : ∀ {l : List D} {j : Nat} {d : D}, (nrmL l)[j]? = some d → ∃ x, l[j]? = some x ∧ d = x.nrm
  | [], j, d, h => by simp [nrmL] at h
  | x :: l, 0, d, h => by simp only [nrmL, List.getElem?_cons_zero, Option.some.injEq] at h; exact ⟨x, rfl, h.symm⟩
  | x :: l, j + 1, d, h => by simp only [nrmL, List.getElem?_cons_succ] at h; obtain ⟨y, h1, h2⟩ := nrmL_get h; exact ⟨y, by simpa using h1, h2⟩
theorem nrmL_len : ∀ (l : List D), (nrmL l).length = l.length
  | [] => rfl
  | x :: l => by simp [nrmL, nrmL_len l]

theorem parts_sound {w : World} {S : Nat → Prop} {v : Value} {d : D} (h : RD w S v d) (ho : ones d.parts = true) : CRD w S v.cells d.parts ∧ ∀ u ∈ v.cells.toList, u.oneCell' = true := by
  have single : d.parts = [d.nrm] → CRD w S v.cells d.parts ∧ ∀ u ∈ v.cells.toList, u.oneCell' = true := fun hp => by
    have h1 : d.nrm.one = true := ones_mem ho d.nrm (by rw [hp]; exact List.mem_singleton.2 rfl)
    obtain ⟨h2, h3⟩ := one_cell (nrm_rd h) h1
    rw [hp, h3]
    refine ⟨⟨rfl, fun j x hj => ?_⟩, fun u hu => ?_⟩
    · cases j with
      | zero => simp only [List.getElem?_cons_zero, Option.some.injEq] at hj; subst hj; exact nrm_rd h
      | succ j => simp at hj
    · simp only [List.mem_singleton] at hu; subst hu; exact h2
  cases h with
  | @agg ds vs hs hrd =>
    have hget : ∀ (j : Nat) (d : D), (nrmL ds)[j]? = some d → RD w S (vs.getD j undef) d := fun j d hj => by
      obtain ⟨x, h1, rfl⟩ := nrmL_get hj
      exact nrm_rd (hrd j x h1)
    refine ⟨⟨by rw [show (D.agg ds).parts = nrmL ds from rfl, nrmL_len]; exact hs, hget⟩, fun u hu => ?_⟩
    obtain ⟨j, hj, rfl⟩ := List.getElem_of_mem hu
    have hj' : j < vs.size := by simpa [Value.cells] using hj
    have hl : j < (nrmL ds).length := by rw [nrmL_len]; exact hs ▸ hj'
    have hd := hget j _ (List.getElem?_eq_getElem hl)
    have := (one_cell hd (ones_mem ho _ (List.getElem_mem hl))).1
    simpa [Array.getD_eq_getD_getElem?, hj', Value.cells] using this
  | _ => exact single rfl

theorem over_eq : ∀ (l : List D) (off : Nat) (ys m : List D), over l off ys = some m → m = l.take off ++ ys ++ l.drop (off + ys.length) ∧ off + ys.length ≤ l.length
  | l, 0, [], m, h => by simp only [over, Option.some.injEq] at h; subst h; simp
  | [], 0, y :: ys, m, h => by simp [over] at h
  | x :: l, 0, y :: ys, m, h => by
    simp only [over] at h
    split at h
    · rename_i m' hm
      simp only [Option.some.injEq] at h; subst h
      obtain ⟨h1, h2⟩ := over_eq l 0 ys m' hm
      simp only [Nat.zero_add, List.take_zero, List.nil_append] at h1 h2
      refine ⟨?_, by simp; omega⟩
      rw [h1]; simp
    · cases h
  | [], n + 1, ys, m, h => by cases ys <;> simp [over] at h
  | x :: l, n + 1, ys, m, h => by
    simp only [over] at h
    split at h
    · rename_i m' hm
      simp only [Option.some.injEq] at h; subst h
      obtain ⟨h1, h2⟩ := over_eq l n ys m' hm
      refine ⟨?_, by simp; omega⟩
      rw [h1, show n + 1 + ys.length = (n + ys.length) + 1 by omega]; simp
    · cases h

/-- A part laid over cells. -/
theorem CRD.over {w : World} {S : Nat → Prop} {us ns : Array Value} {cs ds ms : List D} {off : Nat} (h : CRD w S us cs) (hn : CRD w S ns ds) (ho : Eng.over cs off ds = some ms) :
    ∀ vs : Array Value, vs.size = us.size → (∀ j, j < us.size → vs.getD j undef = if off ≤ j ∧ j < off + ns.size then ns.getD (j - off) undef else us.getD j undef) → CRD w S vs ms := by
  intro vs hv hg
  obtain ⟨h1, h2⟩ := over_eq _ _ _ _ ho
  subst h1
  have hs1 := h.size
  have hs2 := hn.size
  refine ⟨by simp [hv, h.size]; omega, fun j d hj => ?_⟩
  have hlt : j < us.size := by
    have := (List.getElem?_eq_some_iff.1 hj).1
    simp at this; omega
  rw [hg j hlt]
  by_cases c1 : j < off
  · rw [if_neg (by omega)]
    refine h.rd j d ?_
    rw [List.append_assoc, List.getElem?_append_left (by simp; omega), List.getElem?_take, if_pos c1] at hj
    exact hj
  · by_cases c2 : j < off + ns.size
    · rw [if_pos ⟨by omega, c2⟩]
      refine hn.rd _ d ?_
      rw [List.append_assoc, List.getElem?_append_right (by simp; omega), List.getElem?_append_left (by simp; omega)] at hj
      simp only [List.length_take] at hj
      rw [Nat.min_eq_left (by omega)] at hj
      exact hj
    · rw [if_neg (by omega)]
      refine h.rd j d ?_
      rw [List.getElem?_append_right (by simp; omega), List.getElem?_drop] at hj
      simp only [List.length_append, List.length_take] at hj
      rw [Nat.min_eq_left (by omega)] at hj
      rw [← hj]; congr 1; omega

theorem foldl_put_size (off : Nat) : ∀ (l : List (Value × Nat)) (cs : Array Value), (l.foldl (fun cs (p : Value × Nat) => cs.setIfInBounds (off + p.2) p.1) cs).size = cs.size
  | [], _ => rfl
  | p :: l, cs => by simp only [List.foldl_cons]; rw [foldl_put_size off l]; simp
theorem foldl_put_get (off : Nat) : ∀ (vs : List Value) (k : Nat) (cs : Array Value) (j : Nat), j < cs.size →
    ((vs.zipIdx k).foldl (fun cs (p : Value × Nat) => cs.setIfInBounds (off + p.2) p.1) cs).getD j undef = if off + k ≤ j ∧ j < off + k + vs.length then vs.getD (j - (off + k)) undef else cs.getD j undef
  | [], k, cs, j, hj => by rw [if_neg (by simp only [List.length_nil]; omega)]; rfl
  | v :: vs, k, cs, j, hj => by
    simp only [List.zipIdx_cons, List.foldl_cons]
    rw [foldl_put_get off vs (k + 1) _ j (by simpa using hj)]
    simp only [List.length_cons]
    by_cases c1 : off + (k + 1) ≤ j ∧ j < off + (k + 1) + vs.length
    · rw [if_pos c1, if_pos ⟨by omega, by omega⟩]
      rw [show j - (off + k) = (j - (off + (k + 1))) + 1 by omega]; simp
    · rw [if_neg c1]
      by_cases c2 : j = off + k
      · subst c2
        rw [if_pos ⟨Nat.le_refl _, by omega⟩]
        simp [Array.getD_eq_getD_getElem?, hj]
      · rw [if_neg (by omega)]
        simp [Array.getD_eq_getD_getElem?, Array.getElem?_setIfInBounds_ne (fun e => c2 e.symm : off + k ≠ j)]

theorem fill_step {w : World} {S : Nat → Prop} {us : Array Value} {cs ms : List D} (h : CRD w S us cs) {v : Value} {d : D} (hv : RD w S v d) (ho : ones d.parts = true) {off : Nat} (hov : Eng.over cs off d.parts = some ms) :
    ¬ off + v.cells.size > us.size ∧ CRD w S (v.cells.zipIdx.foldl (fun cs (p : Value × Nat) => cs.setIfInBounds (off + p.2) p.1) us) ms := by
  obtain ⟨hp, _⟩ := parts_sound hv ho
  have hle := (over_eq _ _ _ _ hov).2
  refine ⟨by rw [hp.size, h.size]; omega, ?_⟩
  rw [← Array.foldl_toList, Array.toList_zipIdx]
  refine h.over hp hov _ (foldl_put_size _ _ _) fun j hj => ?_
  rw [foldl_put_get off _ 0 us j hj]
  simp only [Nat.add_zero, Array.length_toList]
  split
  · simp [Array.getD_eq_getD_getElem?, List.getD_eq_getElem?_getD]
  · rfl

section
variable {P : Program} {T : Tab} {c : Ctx} {σ : St} {ro : Oper} {a : Act} {w : World} {S : Nat → Prop} {ρ : Nat → Value} {F : Nat → Nat → Prop} {E : Nat → Nat}

/-- A value as data; S grows by what is frozen. -/
theorem asD_sound (hT : T.base = c.base) (hM : Mem c σ.rows w S ρ F E) (hE : EnvOK c σ.env a.tmps w S ρ E) {u : Value} {v : AV} (hv : VOK w S ρ E u v) {K : St → D → Prop} (hk : asD T σ v K) :
    ∃ σ' x S', K σ' x ∧ Mem c σ'.rows w S' ρ F E ∧ EnvOK c σ'.env a.tmps w S' ρ E ∧ RD w S' u x ∧ (∀ b, S b → S' b) ∧ ∀ q y, lkp σ'.rows q = some y → lkp σ.rows q = some y := by
  unfold asD at hk
  split at hk
  · rename_i x
    cases hv with
    | d h => exact ⟨σ, x, S, hk, hM, hE, h, fun _ h => h, fun _ _ h => h⟩
  · rename_i r
    cases hb : Nat.blt r T.base with
    | true => rw [hb] at hk; exact hk.elim
    | false =>
      rw [hb] at hk; simp only [cond_false] at hk
      split at hk
      · rename_i s xs hr
        have hbase : c.base ≤ r := by rw [← hT]; exact Nat.le_of_not_lt fun h => by have : Nat.blt r T.base = true := by { simpa [Nat.blt_eq] using h }; rw [this] at hb; cases hb
        cases hv with
        | own r =>
          obtain ⟨f1, f2, f3⟩ := freeze_sound hM hE hr hbase
          exact ⟨_, _, fun b => S b ∨ F r b, hk, f1, f2, f3, fun _ h => .inl h, fun q y hq => lkp_del_some hq⟩
      · exact hk.elim
  · exact hk.elim

theorem evD_sound (hT : T.base = c.base) (hM : Mem c σ.rows w S ρ F E) (hE : EnvOK c σ.env a.tmps w S ρ E) {o : Operand} {x : X} (hx : xOf o = some x) {K : St → D → Prop} (hk : evD T σ x K) :
    ∃ σ' d S', K σ' d ∧ Mem c σ'.rows w S' ρ F E ∧ EnvOK c σ'.env a.tmps w S' ρ E ∧ RD w S' (a.eval o) d ∧ (∀ b, S b → S' b) ∧ ∀ q y, lkp σ'.rows q = some y → lkp σ.rows q = some y := by
  unfold evD at hk
  split at hk
  · exact asD_sound hT hM hE (ev_sound hE hx (by assumption)) hk
  · exact hk.elim

theorem evDs_sound (hT : T.base = c.base) : ∀ {os : List Operand} {xs : List X} {σ : St} {S : Nat → Prop} {K : St → List D → Prop}, Mem c σ.rows w S ρ F E → EnvOK c σ.env a.tmps w S ρ E → xsOf' os = some xs → evDs T σ xs K →
    ∃ σ' ds S', K σ' ds ∧ Mem c σ'.rows w S' ρ F E ∧ EnvOK c σ'.env a.tmps w S' ρ E ∧ os.length = ds.length ∧ (∀ j d, ds[j]? = some d → RD w S' ((os.map a.eval).getD j undef) d) ∧ (∀ b, S b → S' b) ∧ ∀ q y, lkp σ'.rows q = some y → lkp σ.rows q = some y
  | [], xs, σ, S, K, hM, hE, hx, hk => by
    simp only [xsOf', Option.some.injEq] at hx; subst hx
    exact ⟨σ, [], S, hk, hM, hE, rfl, by simp, fun _ h => h, fun _ _ h => h⟩
  | o :: os, xs, σ, S, K, hM, hE, hx, hk => by
    simp only [xsOf'] at hx
    split at hx
    · rename_i y m hy hm
      simp only [Option.some.injEq] at hx; subst hx
      simp only [evDs] at hk
      obtain ⟨σ1, d, S1, hk, hM1, hE1, hd, hS1, hr1⟩ := evD_sound hT hM hE hy hk
      obtain ⟨σ2, ds, S2, hk, hM2, hE2, hl, hds, hS2, hr2⟩ := evDs_sound hT hM1 hE1 hm hk
      refine ⟨σ2, d :: ds, S2, hk, hM2, hE2, by simp [hl], fun j x hj => ?_, fun b hb => hS2 b (hS1 b hb), fun q y hq => hr1 q y (hr2 q y hq)⟩
      cases j with
      | zero => simp only [List.getElem?_cons_zero, Option.some.injEq] at hj; subst hj; simpa using hd.mono hS2 (fun _ _ => rfl)
      | succ j => simpa using hds j x (by simpa using hj)
    · cases hx

theorem partsAt_spec {pl : Nat → Option (Nat × Nat)} : ∀ {ps : List (Nat × Operand)} {l : List (Nat × Nat × X)}, partsAt pl ps = some l → xsOf' (ps.map (·.2)) = some (xsOf l)
  | [], l, h => by simp only [partsAt, Option.some.injEq] at h; subst h; rfl
  | (i, x) :: ps, l, h => by
    simp only [partsAt] at h
    split at h
    · rename_i o n y m h1 h2 h3
      simp only [Option.some.injEq] at h; subst h
      simp [xsOf', h2, partsAt_spec h3, xsOf]
    · cases h

theorem fill_sound {pl : Nat → Option (Nat × Nat)} : ∀ {ps : List (Nat × Operand)} {l : List (Nat × Nat × X)} {ds cs ms : List D} {us : Array Value}, partsAt pl ps = some l → ps.length = ds.length →
    (∀ j d, ds[j]? = some d → RD w S (((ps.map (·.2)).map a.eval).getD j undef) d) → CRD w S us cs → fillD cs (zip3 l ds) = some ms →
    ∃ vs, Instr.fill pl us (ps.map fun (i, x) => (i, a.eval x)) = some vs ∧ CRD w S vs ms
  | [], l, ds, cs, ms, us, hp, hl, _, hu, hf => by
    simp only [partsAt, Option.some.injEq] at hp; subst hp
    cases ds <;> simp at hl
    simp only [zip3, fillD, Option.some.injEq] at hf; subst hf
    exact ⟨us, rfl, hu⟩
  | (i, x) :: ps, l, ds, cs, ms, us, hp, hl, hd, hu, hf => by
    simp only [partsAt] at hp
    split at hp
    · rename_i o n y m h1 h2 h3
      simp only [Option.some.injEq] at hp; subst hp
      cases ds with
      | nil => simp at hl
      | cons d ds =>
        simp only [zip3, fillD] at hf
        cases hb : Nat.beq (len' d.parts) n with
        | false => rw [hb] at hf; cases hf
        | true =>
          rw [hb] at hf; simp only [cond_true] at hf
          cases ho : ones d.parts with
          | false => rw [ho] at hf; cases hf
          | true =>
            rw [ho] at hf; simp only [cond_true] at hf
            split at hf
            · rename_i m' hm
              have hx : RD w S (a.eval x) d := by have := hd 0 d rfl; simpa using this
              obtain ⟨g1, g2⟩ := fill_step hu hx ho hm
              have hsz : (a.eval x).cells.size = n := by rw [(parts_sound hx ho).1.size, ← len'_eq]; exact beq_iff.1 hb
              obtain ⟨vs, e1, e2⟩ := fill_sound h3 (by simpa using hl) (fun j d' hj => by have := hd (j + 1) d' (by simpa using hj); simpa using this) g2 hf
              refine ⟨vs, ?_, e2⟩
              simp only [List.map_cons, Instr.fill, h1]
              rw [if_neg (by simp only [Bool.or_eq_true, decide_eq_true_eq, not_or]; exact ⟨fun h => h hsz, g1⟩)]
              exact e1
            · cases hf
    · cases hp

theorem cvs_eq : ∀ l : List Value, cvs l = l.map cv
  | [] => rfl
  | _ :: l => by simp [cvs, cvs_eq l]
theorem cvs_crd (w : World) (S : Nat → Prop) (us : Array Value) : CRD w S us (cvs us.toList) := by
  refine ⟨by simp [cvs_eq], fun j d hj => ?_⟩
  rw [cvs_eq, List.getElem?_map] at hj
  cases hv : us.toList[j]? with
  | none => rw [hv] at hj; cases hj
  | some v =>
    rw [hv] at hj; simp only [Option.map_some, Option.some.injEq] at hj; subst hj
    have : us.getD j undef = v := by simp [Array.getD_eq_getD_getElem?, ← Array.getElem?_toList, hv]
    rw [this]; exact cv_rd _ _ _

theorem placesOf_eq : ∀ {fs : List Field} {pl : List (Nat × Nat)}, placesOf P fs = some pl → fs.mapM (fun f => (P.info? f.type).map fun i => (f.offset, i.size)) = some pl
  | [], pl, h => by simp only [placesOf, Option.some.injEq] at h; subst h; rfl
  | f :: fs, pl, h => by
    simp only [placesOf] at h
    split at h
    · rename_i i m h1 h2
      simp only [Option.some.injEq] at h; subst h
      simp [h1, placesOf_eq h2]
    · cases h

variable {K : St → AV → Prop}
theorem p_build (hT : T.base = c.base) (hM : Mem c σ.rows w S ρ F E) (hE : EnvOK c σ.env a.tmps w S ρ E) {t : TypeId} {ps : Array (Nat × Operand)} (ho : ro.op = .build t ps) {zs : List Value} {l : List (Nat × Nat × X)}
    {one : Bool} (hop : opOf P one (.build t ps) = some (.build zs l)) (hk : step T (.build zs l) σ K) : PRes P T c σ.rows F K ro a w := by
  have main : ∀ (z : Value) (pl : Nat → Option (Nat × Nat)), partsAt pl ps.toList = some l → zs = z.cells.toList →
      (∀ parts cells, Instr.fill pl z.cells parts = some cells → P.built t parts = some cells) → PRes P T c σ.rows F K ro a w := by
    intro z pl hp hz hb
    subst hz
    simp only [step] at hk
    obtain ⟨σ1, ds, S1, hk, hM1, hE1, hl, hds, _, hr1⟩ := evDs_sound hT hM hE (partsAt_spec hp) hk
    split at hk
    · rename_i m hm
      obtain ⟨vs, h1, h2⟩ := fill_sound (w := w) (S := S1) (a := a) hp (by simpa using hl) hds (cvs_crd w S1 z.cells) hm
      refine ⟨.agg vs, fun w' => ?_, σ1, _, S1, ρ, F, E, hk, hM1, hE1, .d (.agg vs h2.size h2.rd), .sub hr1⟩
      have := run_build (P := P) w' t (ps.map fun (i, x) => (i, a.eval x)) vs (hb _ _ (by simpa using h1))
      simp only [execOp, ho, Sem.run_bind, this, Result.andThen_ok, Sem.run_pure]
    · exact hk.elim
  simp only [opOf] at hop
  split at hop
  · rename_i fs i ht hi
    split at hop
    · rename_i z pl hz hpl
      split at hop
      · rename_i l' hl'
        simp only [Option.some.injEq, IOp.build.injEq] at hop
        obtain ⟨rfl, rfl⟩ := hop
        refine main z _ hl' rfl fun parts cells hf => ?_
        have e : (fun (k : Nat) => pl[k]?) = (fun (k : Nat) => pl.toArray[k]?) := by funext k; simp
        rw [e] at hf
        simp only [Program.built, hi, ht, hz, placesOf_eq hpl]
        exact hf
      · cases hop
    · cases hop
  · rename_i n e i ht hi
    split at hop
    · rename_i z ie hz hie
      split at hop
      · rename_i l' hl'
        simp only [Option.some.injEq, IOp.build.injEq] at hop
        obtain ⟨rfl, rfl⟩ := hop
        refine main z _ hl' rfl fun parts cells hf => ?_
        simp only [Program.built, hi, ht, hz, hie]
        exact hf
      · cases hop
    · cases hop
  · cases hop
end
end Go.Eng
