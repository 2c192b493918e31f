/- The engine, part 13: calls and append as operations (their steps). -/
import Derived.Test.YtmbodncejejceaaEng12
set_option linter.all false
namespace Go.Eng

/-- What a table promises. -/
structure TabOK (P : Program) (T : Tab) : Prop where
  ct : ∀ f as R xs, T.ct f as R xs → GCall P f as R xs
  fns : ∀ f, mem T.fns f = true → ∃ fn, P.funcs[f]? = some fn ∧ (fn.name == "runtime.NumGoroutine") = false ∧ fn.body.isNone = false

section
variable {P : Program} {T : Tab} {c : Ctx} {ro : Oper} {a : Act} {w : World} {ρ : Nat → Value} {F : Nat → Nat → Prop} {E : Nat → Nat}

theorem callOK_sound (hP : TabOK P T) (hT : T.base = c.base) (h0 : Ext c.w0 w c.Fp) {f : FuncId} {K : St → AV → Prop} {σ : St} {vs : List AV} (h : CallOK T f K σ vs) : ∀ {S : Nat → Prop} {us : List Value}, Mem c σ.rows w S ρ F E → EnvOK c σ.env a.tmps w S ρ E →
    us.length = vs.length → (∀ j v, vs[j]? = some v → VOK w S ρ E (us.getD j undef) v) →
    Calls P f us.toArray w fun e w' => ∃ v, e = .returned v ∧ Ext w w' (Mb T σ.rows F) ∧ OutG T c σ.rows F w.heap.size K a.tmps w' v := by
  induction h with
  | @go σ vs as rs nb R xs e hc hf hk =>
    intro S us hM hE hl hv
    unfold mkArgs at e
    split at e
    · rename_i as' rs' nb' hm
      cases ho : okB rs' (T.modes f) vs with
      | false => rw [ho] at e; cases e
      | true =>
        rw [ho] at e
        simp only [cond_true, Option.some.injEq, Prod.mk.injEq] at e
        obtain ⟨rfl, rfl, rfl⟩ := e
        obtain ⟨h1, h2⟩ := mkArgs_sound hM rs' nb' hm ho (fun _ h => h) id hl hv
        have hlt : ∀ b, S2 σ S F rs' nb' b → b < w.heap.size := fun b hb => by
          rcases hb with hb | ⟨_, r, x, hr, _, hF⟩
          · exact hM.slt b hb
          · exact (hM.blk r x hr b hF).1
        refine (hP.ct f _ _ _ hc w _ us _ hlt h1).mono ?_
        rintro e w' ⟨v, S', H, rfl, k1, k2, k3, k4, k5, k6⟩
        refine ⟨v, rfl, ?_⟩
        cases hn : nb' with
        | true =>
          refine after_sound hT hM hE h0 h2 k1 (fun b hb => k2 b (.inl hb)) (fun b hb => ?_) k4 k5 k6 hk
          obtain ⟨j1, j2⟩ := k3 b hb
          refine ⟨j1, j2.imp (fun j => ?_) id⟩
          rcases j with j | ⟨j, _⟩
          · exact j
          · rw [hn] at j; cases j
        | false =>
          obtain ⟨f1, f2⟩ := hf.resolve_left (by rw [hn]; simp)
          exact after_sound hT hM hE h0 h2 k1 (fun b hb => hb) (fun b hb => ⟨Nat.lt_of_lt_of_le (hM.slt b hb) k1.size, .inl hb⟩) (k4.flat f1) (fun b hb => ⟨(k5 b hb).1, fun hs => (k5 b hb).2.1 (k2 b (.inl hs)), (k5 b hb).2.2⟩) (k6.flat (fun b hb => k2 b (.inl hb)) f2) hk
    · cases e
  | @frz σ vs r x hr hb h ih =>
    intro S us hM hE hl hv
    obtain ⟨f1, f2, f3⟩ := freeze_sound hM hE hr (by rw [← hT]; exact hb)
    refine (ih f1 f2 (by simpa using hl) fun j v hj => ?_).mono ?_
    · rw [List.getElem?_map] at hj
      cases hx : vs[j]? with
      | none => rw [hx] at hj; cases hj
      | some y =>
        rw [hx] at hj; simp only [Option.map_some, Option.some.injEq] at hj; subst hj
        exact (hv j y hx).frz (fun _ h => .inl h) f3 (fun s xs e => hM.esz r s xs (e ▸ hr))
    · rintro e w' ⟨v, rfl, k1, k2⟩
      have sub : ∀ q y, lkp (σ.freeze r x).rows q = some y → lkp σ.rows q = some y := fun q y hq => lkp_del_some hq
      refine ⟨v, rfl, k1.weaken fun b ⟨q, y, e1, e2, e3⟩ => ⟨q, y, e1, sub q y e2, e3⟩, ?_⟩
      obtain ⟨τ, u, S', ρ', F', E', j1, j2, j3, j4, j5⟩ := k2
      refine ⟨τ, u, S', ρ', F', E', j1, j2, j3, j4, fun q y b hq hb => ?_⟩
      rcases j5 q y b hq hb with ⟨p, z, e1, e2, e3⟩ | h
      · exact .inl ⟨p, z, sub p z e1, e2, e3⟩
      · exact .inr h

variable {K : St → AV → Prop} {σ : St} {S : Nat → Prop}

theorem run_call (hP : TabOK P T) {f : FuncId} (hf : mem T.fns f = true) (args : Array Value) (w : World) : (callFunc f args).run P w = .ok (.enter f args) w := by
  obtain ⟨fn, h1, h2, h3⟩ := hP.fns f hf
  simp only [callFunc, Sem.run_bind, run_program, Result.andThen_ok, h1, h2, h3, Bool.false_eq_true, if_false, Sem.run_pure]

theorem toArray_of {α : Type} {x : Array α} {l : List α} (h : x.toList = l) : x = l.toArray := by rw [← h]

theorem vcall_sound (hP : TabOK P T) (hT : T.base = c.base) (hM : Mem c σ.rows w S ρ F E) (hE : EnvOK c σ.env a.tmps w S ρ E) (h0 : Ext c.w0 w c.Fp) {f : FuncId} {vs : List AV} {us : List Value} (hl : us.length = vs.length)
    (hv : ∀ j v, vs[j]? = some v → VOK w S ρ E (us.getD j undef) v) (hr : ∀ w', (callFunc f us.toArray).run P w' = .ok (.enter f us.toArray) w' → (execOp a.eval ro).run P w' = .ok (.enter f us.toArray) w') (hk : vcall T σ f vs K) : URes P T c σ.rows F K ro a w := by
  unfold vcall at hk
  cases hf : mem T.fns f with
  | false => rw [hf] at hk; exact hk.elim
  | true =>
    rw [hf] at hk; simp only [cond_true] at hk
    have := callOK_sound (a := a) hP hT h0 (hk.h rfl) hM hE hl hv
    unfold URes Upon
    rw [hr w (run_call hP hf _ w)]
    exact this

theorem u_call (hP : TabOK P T) (hT : T.base = c.base) (hM : Mem c σ.rows w S ρ F E) (hE : EnvOK c σ.env a.tmps w S ρ E) (h0 : Ext c.w0 w c.Fp) {cl : Call} (ho : ro.op = .call cl) {fo : Operand} (hc : cl.callee = .value fo) {f : FuncId} (hf : xOf fo = some (.f f)) {xs : List X}
    (hx : xsOf' cl.args.toList = some xs) (hk : step T (.call f xs) σ K) : URes P T c σ.rows F K ro a w := by
  have hfo : a.eval fo = .func (.func f) #[] #[] := by
    cases fo with
    | func g => simp only [xOf, Option.some.injEq, X.f.injEq] at hf; subst hf; rfl
    | _ => simp [xOf] at hf
  simp only [step] at hk
  split at hk
  · rename_i vs hvs
    obtain ⟨h1, h2⟩ := evs_sound hE hx hvs
    refine vcall_sound (us := cl.args.toList.map a.eval) hP hT hM hE h0 (by simpa using h1) h2 (fun w' hr => ?_) hk
    have e : (cl.args.toList.map a.eval).toArray = cl.args.map a.eval := by rw [← Array.toList_map]
    rw [e] at hr ⊢
    simp [execOp, ho, resolve, hc, hfo, Deferred.ofValue, invoke, hr]
  · exact hk.elim

theorem u_callv (hP : TabOK P T) (hT : T.base = c.base) (hM : Mem c σ.rows w S ρ F E) (hE : EnvOK c σ.env a.tmps w S ρ E) (h0 : Ext c.w0 w c.Fp) {cl : Call} (ho : ro.op = .call cl) {fo : Operand} (hc : cl.callee = .value fo) {x : X} (hf : xOf fo = some x) {xs : List X}
    (hx : xsOf' cl.args.toList = some xs) (hk : step T (.callv x xs) σ K) : URes P T c σ.rows F K ro a w := by
  have e : (cl.args.toList.map a.eval).toArray = cl.args.map a.eval := by rw [← Array.toList_map]
  have run : ∀ (g : FuncId) (caps : Array Value) (us : List Value), a.eval fo = .func (.func g) #[] caps → us = cl.args.toList.map a.eval ++ caps.toList → ∀ w', (callFunc g us.toArray).run P w' = .ok (.enter g us.toArray) w' → (execOp a.eval ro).run P w' = .ok (.enter g us.toArray) w' := by
    intro g caps us he hus w' hr
    have e2 : us.toArray = cl.args.map a.eval ++ caps := by rw [hus, ← e]; apply Array.ext'; simp
    rw [e2] at hr ⊢
    simp [execOp, ho, resolve, hc, he, Deferred.ofValue, invoke, hr]
  have app : ∀ {l1 l2 : List AV} {u1 u2 : List Value}, u1.length = l1.length → u2.length = l2.length → (∀ j v, l1[j]? = some v → VOK w S ρ E (u1.getD j undef) v) → (∀ j v, l2[j]? = some v → VOK w S ρ E (u2.getD j undef) v) →
      (u1 ++ u2).length = (l1 ++ l2).length ∧ ∀ j v, (l1 ++ l2)[j]? = some v → VOK w S ρ E ((u1 ++ u2).getD j undef) v := by
    intro l1 l2 u1 u2 h1 h2 h3 h4
    refine ⟨by simp [h1, h2], fun j v hj => ?_⟩
    by_cases c1 : j < l1.length
    · rw [List.getElem?_append_left c1] at hj
      have := h3 j v hj
      simpa [List.getD_eq_getElem?_getD, List.getElem?_append_left (show j < u1.length by omega)] using this
    · rw [List.getElem?_append_right (by omega)] at hj
      have := h4 _ v hj
      simpa [List.getD_eq_getElem?_getD, List.getElem?_append_right (show u1.length ≤ j by omega), h1] using this
  simp only [step] at hk
  split at hk
  · rename_i g caps vs hg hvs
    obtain ⟨h1, h2⟩ := evs_sound hE hx hvs
    have hvv := ev_sound hE hf hg
    generalize he : a.eval fo = val at hvv
    cases hvv with
    | d h => cases h with
      | fn cv hs hrd =>
        obtain ⟨a1, a2⟩ := app (l1 := vs) (l2 := caps.map .d) (u1 := cl.args.toList.map a.eval) (u2 := cv.toList) (by simpa using h1) (by simpa using hs) h2 (fun j v hj => by
          rw [List.getElem?_map] at hj
          cases hc' : caps[j]? with
          | none => rw [hc'] at hj; cases hj
          | some d =>
            rw [hc'] at hj; simp only [Option.map_some, Option.some.injEq] at hj; subst hj
            have := hrd j d hc'
            rw [Array.getD_eq_getD_getElem?, ← Array.getElem?_toList, ← List.getD_eq_getElem?_getD] at this
            exact .d this)
        exact vcall_sound hP hT hM hE h0 a1 a2 (run g cv _ he rfl) hk
  · rename_i g caps vs hg hvs
    obtain ⟨h1, h2⟩ := evs_sound hE hx hvs
    have hvv := ev_sound hE hf hg
    generalize he : a.eval fo = val at hvv
    cases hvv with
    | fn cv hs hrd =>
      obtain ⟨a1, a2⟩ := app (l1 := vs) (l2 := caps) (u1 := cl.args.toList.map a.eval) (u2 := cv.toList) (by simpa using h1) (by simpa using hs) h2 (fun j v hj => by
        have := hrd j v hj
        rw [Array.getD_eq_getD_getElem?, ← Array.getElem?_toList, ← List.getD_eq_getElem?_getD] at this
        exact this)
      exact vcall_sound hP hT hM hE h0 a1 a2 (run g cv _ he rfl) hk
  · exact hk.elim

/-! ### append -/

/-- The row behind append's first operand is there. -/
theorem appTo_sound (hT : T.base = c.base) (hM : Mem c σ.rows w S ρ F E) (hE : EnvOK c σ.env a.tmps w S ρ E) (h0 : Ext c.w0 w c.Fp) {u : Value} {v : AV} (hv : VOK w S ρ E u v) {ty esz : Nat} {K' : St → (s : Sh) → Nat → Th (List s.α) → Prop}
    (hk : appTo T σ ty esz v K') : ∃ τ s r xs ρ' F' E', K' τ s r xs ∧ Mem c τ.rows w S ρ' F' E' ∧ EnvOK c τ.env a.tmps w S ρ' E' ∧ From T σ.rows F w.heap.size τ.rows F' ∧ lkp τ.rows r = some (.sl s xs) ∧ u = ρ' r ∧ T.base ≤ r ∧ s.ty = ty ∧ s.esz = esz ∧
      ∀ b, F' r b → Mb T σ.rows F b := by
  unfold appTo at hk
  split at hk
  · rename_i r
    cases h1 : Nat.blt r T.base with
    | true => rw [h1] at hk; exact hk.elim
    | false => cases h2 : allowed T r with
      | false => rw [h1, h2] at hk; exact hk.elim
      | true =>
        rw [h1, h2] at hk; simp only [cond_true, cond_false] at hk
        split at hk
        · rename_i s xs hr
          cases h3 : Nat.beq s.ty ty with
          | false => rw [h3] at hk; exact hk.elim
          | true => cases h4 : Nat.beq s.esz esz with
            | false => rw [h3, h4] at hk; exact hk.elim
            | true =>
              rw [h3, h4] at hk; simp only [cond_true] at hk
              cases hv with
              | own r => exact ⟨σ, s, r, xs, ρ, F, E, hk, hM, hE, .sub fun _ _ h => h, hr, rfl, blt_false h1, beq_iff.1 h3, beq_iff.1 h4, fun b hb => ⟨r, _, h2, hr, hb⟩⟩
        · exact hk.elim
  · split at hk
    · rename_i s hs
      cases h3 : Nat.beq s.ty ty with
      | false => rw [h3] at hk; exact hk.elim
      | true => cases h4 : Nat.beq s.esz esz with
        | false => rw [h3, h4] at hk; exact hk.elim
        | true =>
          rw [h3, h4] at hk; simp only [cond_true] at hk
          obtain ⟨k1, k2, k3⟩ := add_sound (T := T) (x := .sl s (fun _ => [])) (e := s.esz) hT hM hE (Ext.refl w _) h0 (.nil rfl) (fun b hb => hb.elim) (fun s' xs' h => by cases h; rfl)
          cases hv with
          | d h => cases h with
            | v =>
              refine ⟨_, s, _, _, _, _, _, hk, k1, k2, k3, lkp_cons_same _ _ _, by rw [upd_same], Nat.le_max_right _ _, beq_iff.1 h3, beq_iff.1 h4, fun b hb => ?_⟩
              rw [upd_same] at hb; exact hb.elim
    · exact hk.elim
  · exact hk.elim

theorem grow_sound (hT : T.base = c.base) {σ0 : St} {F0 : Nat → Nat → Prop} (hM : Mem c σ.rows w S ρ F E) (hE : EnvOK c σ.env a.tmps w S ρ E) (h0 : Ext c.w0 w c.Fp) (hfrom : From T σ0.rows F0 w.heap.size σ.rows F) {t : TypeId} {s : Sh} {i : TypeInfo} {z : Value} {cl : Call} {ox oy : Operand}
    (ho : ro.op = .call cl) (hc : cl.callee = .builtin .append) (ha : cl.args.toList = [ox, oy]) (hat : cl.argTypes.toList = [t, t])
    (ht : P.underlying t = some (.slice s.ty)) (hi : P.info? s.ty = some i) (hz : i.zero = some z) (hzs : z.cells.size = i.size) (hsz : s.esz = i.size) (hp : 0 < i.size) (hby : 0 < i.bytes) {r : Nat} {xs : Th (List s.α)} (hr : lkp σ.rows r = some (.sl s xs))
    (hox : a.eval ox = ρ r) (hb : T.base ≤ r) (hmb : ∀ b, F r b → Mb T σ0.rows F0 b) {ys : List s.α} (hu : Src w S s.esz (ys.map fun y => s.cells fun _ => y) (a.eval oy)) (hk : grow T σ s i.bytes r xs (fun _ => ys) K) : GRes P T c σ0.rows F0 K ro a w := by
  obtain ⟨⟨hbd⟩, hk⟩ := hk
  have hS : ∀ b, S b → b < w.heap.size ∧ ¬ F r b := fun b hs => ⟨hM.slt b hs, fun hf => (hM.blk r _ hr b hf).2.1 hs⟩
  obtain ⟨v', w', G', h1, h2, h3, h4⟩ := app_run (P := P) (ty := ro.type) ht hi hz hzs hsz hp hby (hM.row r _ hr) hS (fun b hf => (hM.blk r _ hr b hf).1) hu hbd
  have hm := hM.put (e := s.esz) hr h2 h3 h4 h0 (fun s' xs' h => by cases h; rfl) (fun hl => by omega)
  have hsame := h2.same (S := S) hM.slt fun b hs => (hS b hs).2
  have he : EnvOK c (dropHits r σ.env) a.tmps w' S (upd ρ r v') (upd E r s.esz) := ((hE.mono (fun _ h => h) hsame).sub fun x y hm => (mem_dropHits hm).1).upd (fun x y hm => (mem_dropHits hm).2) _ _
  refine ⟨v', w', .inl ?_, h2.weaken hmb, _, _, S, _, _, _, hk, hm, he, ?_, ?_⟩
  · have e1 := toArray_of ha
    have e2 := toArray_of hat
    rw [← hox] at h1
    simp [execOp, ho, resolve, hc, e1, e2, invoke, builtin, h1]
  · have := VOK.own (w := w') (S := S) (ρ := upd ρ r v') (E := upd E r s.esz) r
    rw [upd_same] at this; exact this
  · intro q y b hq hbq
    by_cases e : r = q
    · subst e; rw [upd_same] at hbq
      rcases (h4 b hbq).1 with h | h
      · exact hfrom r _ b hr h
      · exact .inr h
    · rw [upd_ne _ _ (Ne.symm e)] at hbq
      have hq' : lkp ((r, .sl s (fun _ => xs () ++ ys)) :: del σ.rows r) q = some y := hq
      rw [lkp_cons_ne _ _ e] at hq'
      exact hfrom q y b (lkp_del_some hq') hbq

theorem Src.of_eq {u : Value} {esz esz' : Nat} {dss : List (List D)} (h : Src w S esz dss u) (he : esz = esz') {s : Sh} {ys : List s.α} (hd : dss = ys.map fun y => s.cells fun _ => y) : Src w S esz' (ys.map fun y => s.cells fun _ => y) u := by
  subst he; subst hd; exact h

theorem srcOf_sound (hM : Mem c σ.rows w S ρ F E) {u : Value} {v : AV} (hv : VOK w S ρ E u v) {α : Type} {esz : Nat} {cells : Th α → List D} {d0 : α} {xs : Th (List α)} (h : srcOf σ v = some (.sl esz cells d0 xs)) : Src w S esz ((xs ()).map fun x => cells fun _ => x) u := by
  unfold srcOf at h
  split at h
  · cases h
  · cases hv with
    | d hd => simp only [bor, Option.some.injEq] at h; subst h; exact hd.src
    | own r =>
      simp only [bor] at h
      split at h
      · rename_i s ys hr
        simp only [Option.some.injEq] at h
        have := (hM.row r _ hr).src
        cases h
        exact this
      · cases h
    | bptr r o g hq => cases o with
      | zero => simp only [bor] at h; split at h <;> simp at h
      | succ o => simp [bor] at h
    | pptr o b hq => cases o <;> simp [bor] at h
    | fn vs h1 h2 => simp only [bor] at h; split at h <;> simp at h
    | _ => simp [bor] at h

theorem g_app (hT : T.base = c.base) (hM : Mem c σ.rows w S ρ F E) (hE : EnvOK c σ.env a.tmps w S ρ E) (h0 : Ext c.w0 w c.Fp) {t : TypeId} {i : TypeInfo} {z : Value} {cl : Call} {ox oy : Operand} {e : TypeId}
    (ho : ro.op = .call cl) (hc : cl.callee = .builtin .append) (ha : cl.args.toList = [ox, oy]) (hat : cl.argTypes.toList = [t, t]) (ht : P.underlying t = some (.slice e)) (hi : P.info? e = some i) (hz : i.zero = some z) (hzs : z.cells.size = i.size)
    (hp : 0 < i.size) (hby : 0 < i.bytes) {x y : X} (hx : xOf ox = some x) (hy : xOf oy = some y) (hk : step T (.apps e i.size i.bytes x y) σ K ∨ step T (.app1 e i.size i.bytes x y) σ K) : GRes P T c σ.rows F K ro a w := by
  rcases hk with hk | hk
  · simp only [step] at hk
    split at hk
    · rename_i v u hv hu
      split at hk
      · rename_i α esz' cells d0 ys hs
        cases hb : Nat.beq esz' i.size with
        | false => rw [hb] at hk; exact hk.elim
        | true =>
          rw [hb] at hk; simp only [cond_true] at hk
          have hsrc := srcOf_sound hM (ev_sound hE hy hu) hs
          obtain ⟨τ, s, r, xs, ρ', F', E', hk, h1, h2, h3, h4, h5, h6, h7, h8, h9⟩ := appTo_sound hT hM hE h0 (ev_sound hE hx hv) hk
          obtain ⟨zs, hzz, hk2⟩ := hk.h
          subst h7
          exact grow_sound (σ0 := σ) hT h1 h2 h0 h3 ho hc ha hat ht hi hz hzs h8 hp hby h4 h5 h6 h9 (hsrc.of_eq ((beq_iff.1 hb).trans h8.symm) hzz) hk2
      · exact hk.elim
    · exact hk.elim
  · simp only [step] at hk
    split at hk
    · rename_i v q hv hu
      split at hk
      · rename_i s' ys hq
        have hsrc : Src w S s'.esz ((ys ()).map fun x => s'.cells fun _ => x) (a.eval oy) := by
          have hvv := ev_sound hE hy hu
          generalize hey : a.eval oy = val at hvv
          cases hvv with
          | own q => exact (hM.row q _ hq).src
        have hM' : Mem c (del σ.rows q) w S ρ F E := hM.drop q
        have hE' : EnvOK c (dropHits q σ.env) a.tmps w S ρ E := hE.sub fun s v hm => (mem_dropHits hm).1
        obtain ⟨τ, s, r, xs, ρ', F', E', hk, h1, h2, h3, h4, h5, h6, h7, h8, h9⟩ := appTo_sound (σ := ⟨dropHits q σ.env, del σ.rows q⟩) hT hM' hE' h0 (ev_sound hE hx hv) hk
        obtain ⟨zs, hzz, hk2⟩ := hk.h
        subst h7
        have hesz : s'.esz = s.esz ∨ zs = [] := by
          cases zs with
          | nil => exact .inr rfl
          | cons z0 zs =>
            left
            have := congrArg (fun l => (l.headD []).length) hzz
            cases hyy : ys () with
            | nil => rw [hyy] at hzz; simp at hzz
            | cons y0 l => rw [hyy] at hzz; simp only [List.map_cons, List.cons.injEq] at hzz; rw [← s'.hlen fun _ => y0, ← s.hlen fun _ => z0, hzz.1]
        have hsrc' : Src w S s.esz (zs.map fun y => s.cells fun _ => y) (a.eval oy) := by
          rcases hesz with he | he
          · exact hsrc.of_eq he hzz
          · subst he
            obtain ⟨ao, cc, us, e1, e2, e3⟩ := hsrc.h
            have : (ys ()) = [] := by simpa using hzz
            refine ⟨ao, cc, us, ?_, by simp, by simp⟩
            rw [e1, this]; rfl
        have fr : From T σ.rows F w.heap.size τ.rows F' := fun p y b hp' hb => by
          rcases h3 p y b hp' hb with ⟨p', z', e1, e2, e3⟩ | h
          · exact .inl ⟨p', z', lkp_del_some e1, e2, e3⟩
          · exact .inr h
        exact grow_sound (σ0 := σ) hT h1 h2 h0 fr ho hc ha hat ht hi hz hzs h8 hp hby h4 h5 h6 (fun b hb => by obtain ⟨p, y, e1, e2, e3⟩ := h9 b hb; exact ⟨p, y, e1, lkp_del_some e2, e3⟩) hsrc' hk2
      · exact hk.elim
    · exact hk.elim
end
end Go.Eng
