/- The engine, part 12: calls and append as operations. -/
import Derived.Test.YtmbodncejejceaaEng11
set_option linter.all false
namespace Go.Eng

/-- The operation gives a value, or it is a call that returns one. -/
def Upon (P : Program) (ro : Oper) (a : Act) (w : World) (Q : Value → World → Prop) : Prop := match (execOp a.eval ro).run P w with
  | .ok (.value v) w' => Q v w'
  | .ok .skip w' => Q undef w'
  | .ok (.enter f args) w' => Calls P f args w' fun e w'' => ∃ v, e = .returned v ∧ Q v w''
  | _ => False

theorem Upon.mono {P : Program} {ro : Oper} {a : Act} {w : World} {Q Q' : Value → World → Prop} (h : Upon P ro a w Q) (hq : ∀ v w', Q v w' → Q' v w') : Upon P ro a w Q' := by
  unfold Upon at *
  split
  · rename_i h1; rw [h1] at h; exact hq _ _ h
  · rename_i h1; rw [h1] at h; exact hq _ _ h
  · rename_i h1; rw [h1] at h; exact h.mono fun e w' ⟨v, h1, h2⟩ => ⟨v, h1, hq _ _ h2⟩
  · rename_i h1 h2 h3
    split at h
    · rename_i v w' e; exact (h1 v w' e).elim
    · rename_i w' e; exact (h2 w' e).elim
    · rename_i f args w' e; exact (h3 f args w' e).elim
    · exact h

/-- What a step owes. -/
def URes (P : Program) (T : Tab) (c : Ctx) (rows : List (Nat × Row)) (F : Nat → Nat → Prop) (K : St → AV → Prop) (ro : Oper) (a : Act) (w : World) : Prop :=
  Upon P ro a w fun v w' => Ext w w' (Mb T rows F) ∧ OutG T c rows F w.heap.size K a.tmps w' v

section
variable {P : Program} {T : Tab} {c : Ctx} {σ : St} {K : St → AV → Prop} {ro : Oper} {a : Act} {w : World} {S : Nat → Prop} {ρ : Nat → Value} {F : Nat → Nat → Prop} {E : Nat → Nat}

theorem GRes.ures (h : GRes P T c σ.rows F K ro a w) : URes P T c σ.rows F K ro a w := by
  obtain ⟨v, w', hr, h1, h2⟩ := h
  unfold URes Upon
  rcases hr with hr | ⟨hr, rfl⟩ <;> rw [hr] <;> exact ⟨h1, h2⟩

/-! ### The state behind a call -/

theorem after_rows {w' : World} {S' : Nat → Prop} : ∀ {as : List Arg} {us : List Value} {rs : List (Nat × Bool)}, Corr T σ ρ as us rs → ∀ {xs : List Row}, RowsOK w' S' as us (Fs F rs) xs → ∀ {τ : St}, after σ rs xs = some τ →
    (∀ q z, lkp τ.rows q = some z → (memK q rs = false ∧ lkp σ.rows q = some z) ∨ ((q, false) ∈ rs ∧ RowOK w' S' (F q) (ρ q) z ∧ (∀ b, F q b → ¬ S' b) ∧ ∀ s ys, z = .sl s ys → ∃ xs, lkp σ.rows q = some (.sl s xs))) ∧
    (∀ s v, (s, v) ∈ τ.env → (s, v) ∈ σ.env) := by
  intro as us rs hc
  induction hc with
  | nil =>
    intro xs hr τ ha
    cases hr
    simp only [after, Option.some.injEq] at ha; subst ha
    exact ⟨fun q z hq => .inl ⟨rfl, hq⟩, fun _ _ h => h⟩
  | d _ ih => intro xs hr τ ha; cases hr with | d t => exact ih t ha
  | @row r s zs as us rs hr hn ha t ih =>
    intro xs hrow τ hτ
    cases hrow with
    | @row _ y _ _ _ _ _ xs h he hG t' =>
      simp only [after] at hτ
      split at hτ
      · rename_i τ' hτ'
        simp only [Option.some.injEq] at hτ; subst hτ
        obtain ⟨i1, i2⟩ := ih t' hτ'
        refine ⟨fun q z hq => ?_, i2⟩
        by_cases e : r = q
        · subst e
          have : lkp ((r, y) :: del τ'.rows r) r = some z := hq
          rw [lkp_cons_same] at this; cases this
          exact .inr ⟨List.mem_cons_self, h, hG, fun s' ys hz => by obtain ⟨zs', e⟩ := he s' ys hz; cases e; exact ⟨_, hr⟩⟩
        · have : lkp ((r, y) :: del τ'.rows r) q = some z := hq
          rw [lkp_cons_ne _ _ e, lkp_del_ne _ e] at this
          rcases i1 q z this with ⟨k1, k2⟩ | ⟨k1, k2⟩
          · exact .inl ⟨by unfold memK; rw [beq_ne e]; exact k1, k2⟩
          · exact .inr ⟨List.mem_cons_of_mem _ k1, k2⟩
      · cases hτ
  | @take r s zs as us rs hr hn ha hb t ih =>
    intro xs hrow τ hτ
    cases hrow with
    | take t' =>
      simp only [after] at hτ
      split at hτ
      · rename_i τ' hτ'
        simp only [Option.some.injEq] at hτ; subst hτ
        obtain ⟨i1, i2⟩ := ih t' hτ'
        refine ⟨fun q z hq => ?_, fun s v hm => i2 s v (mem_dropHits hm).1⟩
        have hq' : lkp (del τ'.rows r) q = some z := hq
        have e : r ≠ q := fun e => by subst e; rw [lkp_del_same] at hq'; cases hq'
        rcases i1 q z (lkp_del_some hq') with ⟨k1, k2⟩ | ⟨k1, k2⟩
        · exact .inl ⟨by unfold memK; rw [beq_ne e]; exact k1, k2⟩
        · exact .inr ⟨List.mem_cons_of_mem _ k1, k2⟩
      · cases hτ

theorem after_taken {as : List Arg} {us : List Value} {rs : List (Nat × Bool)} (hc : Corr T σ ρ as us rs) : ∀ {xs : List Row} {τ : St}, after σ rs xs = some τ → ∀ b, Taken as (Fs F rs) b → ∃ r, (r, true) ∈ rs ∧ F r b ∧ lkp τ.rows r = none := by
  induction hc with
  | nil => intro xs τ _ b h; exact h.elim
  | d _ ih => intro xs τ ha b h; exact ih ha b h
  | @row r s zs as us rs hr hn ha t ih =>
    intro xs τ hτ b h
    simp only [Fs, List.map_cons, Taken] at h
    cases xs with
    | nil => simp [after] at hτ
    | cons y xs =>
      simp only [after] at hτ
      split at hτ
      · rename_i τ' hτ'
        simp only [Option.some.injEq] at hτ; subst hτ
        obtain ⟨q, h1, h2, h3⟩ := ih hτ' b h
        have e : r ≠ q := fun e => by subst e; rw [memK_iff.2 ⟨_, h1⟩] at hn; cases hn
        exact ⟨q, List.mem_cons_of_mem _ h1, h2, by show lkp ((r, y) :: del τ'.rows r) q = none; rw [lkp_cons_ne _ _ e, lkp_del_ne _ e]; exact h3⟩
      · cases hτ
  | @take r s zs as us rs hr hn ha hb t ih =>
    intro xs τ hτ b h
    simp only [Fs, List.map_cons, Taken] at h
    simp only [after] at hτ
    split at hτ
    · rename_i τ' hτ'
      simp only [Option.some.injEq] at hτ; subst hτ
      rcases h with h | h
      · exact ⟨r, List.mem_cons_self, h, lkp_del_same _ _⟩
      · obtain ⟨q, h1, h2, h3⟩ := ih hτ' b h
        have e : r ≠ q := fun e => by subst e; rw [memK_iff.2 ⟨_, h1⟩] at hn; cases hn
        exact ⟨q, List.mem_cons_of_mem _ h1, h2, by show lkp (del τ'.rows r) q = none; rw [lkp_del_ne _ e]; exact h3⟩
    · cases hτ

/-- A row that is there already. -/
theorem Mem.join {rows : List (Nat × Row)} (h : Mem c rows w S ρ F E) {r : Nat} (hr : lkp rows r = none) (hb : c.base ≤ r) {v : Value} {x : Row} {G : Nat → Prop} {e : Nat} (hrow : RowOK w S G v x)
    (hG : ∀ b, G b → b < w.heap.size ∧ ¬ S b ∧ c.w0.heap.size ≤ b ∧ ∀ q y, lkp rows q = some y → ¬ F q b) (he : ∀ s xs, x = .sl s xs → e = s.esz) :
    Mem c ((r, x) :: rows) w S (upd ρ r v) (upd F r G) (upd E r e) := by
  refine ⟨h.slt, h.s0, h.snew, ?_, ?_, ?_, ?_, ?_⟩
  · intro q y hq
    by_cases e : r = q
    · subst e; rw [lkp_cons_same] at hq; cases hq; rw [upd_same, upd_same]; exact hrow
    · rw [lkp_cons_ne _ _ e] at hq; rw [upd_ne _ _ (Ne.symm e), upd_ne _ _ (Ne.symm e)]; exact h.row q y hq
  · intro q y hq b hb'
    by_cases e : r = q
    · subst e; rw [upd_same] at hb'; exact ⟨(hG b hb').1, (hG b hb').2.1, fun _ => (hG b hb').2.2.1⟩
    · rw [lkp_cons_ne _ _ e] at hq; rw [upd_ne _ _ (Ne.symm e)] at hb'; exact h.blk q y hq b hb'
  · intro q s xs hq
    by_cases e' : r = q
    · subst e'; rw [lkp_cons_same] at hq; cases hq; rw [upd_same]; exact he _ _ rfl
    · rw [lkp_cons_ne _ _ e'] at hq; rw [upd_ne _ _ (Ne.symm e')]; exact h.esz q s xs hq
  · intro p q y z hpq hp hq b hb1 hb2
    by_cases e : r = p
    · subst e
      rw [upd_same] at hb1; rw [lkp_cons_ne _ _ hpq] at hq; rw [upd_ne _ _ (Ne.symm hpq)] at hb2
      exact (hG b hb1).2.2.2 q z hq hb2
    · rw [lkp_cons_ne _ _ e] at hp; rw [upd_ne _ _ (Ne.symm e)] at hb1
      by_cases e2 : r = q
      · subst e2; rw [upd_same] at hb2; exact (hG b hb2).2.2.2 p y hp hb1
      · rw [lkp_cons_ne _ _ e2] at hq; rw [upd_ne _ _ (Ne.symm e2)] at hb2; exact h.dis p q y z hpq hp hq b hb1 hb2
  · intro q y hq hl
    have e : r ≠ q := by omega
    rw [lkp_cons_ne _ _ e] at hl; rw [upd_ne _ _ (Ne.symm e), upd_ne _ _ (Ne.symm e)]
    exact h.pin q y hq hl

def Row.eszD : Row → Nat
  | .sl s _ => s.esz
  | .box _ => 0

theorem join_sound (hT : T.base = c.base) (hM : Mem c σ.rows w S ρ F E) {t : Array Value} (hE : EnvOK c σ.env t w S ρ E) {v : Value} {x : Row} {G : Nat → Prop} (hrow : RowOK w S G v x)
    (hG : ∀ b, G b → b < w.heap.size ∧ ¬ S b ∧ c.w0.heap.size ≤ b ∧ ∀ q y, lkp σ.rows q = some y → ¬ F q b) :
    Mem c (σ.add T x).rows w S (upd ρ (σ.fresh T) v) (upd F (σ.fresh T) G) (upd E (σ.fresh T) x.eszD) ∧ EnvOK c (σ.add T x).env t w S (upd ρ (σ.fresh T) v) (upd E (σ.fresh T) x.eszD) := by
  have hn : lkp σ.rows (σ.fresh T) = none := top_le (Nat.le_max_left _ _)
  refine ⟨hM.join hn (by rw [← hT]; exact Nat.le_max_right _ _) hrow hG (fun s xs h => by subst h; rfl), ?_⟩
  exact (hE.sub (env' := dropHits (σ.fresh T) σ.env) fun s u hm => (mem_dropHits hm).1).upd (fun s u hm => (mem_dropHits hm).2) v _

theorem addL_sound (hT : T.base = c.base) {t : Array Value} : ∀ {l : List Res} {us : List Value} {H : Nat → Prop} {σ : St} {ρ : Nat → Value} {F : Nat → Nat → Prop} {E : Nat → Nat}, ResL w S us l H → Mem c σ.rows w S ρ F E → EnvOK c σ.env t w S ρ E →
    (∀ b, H b → b < w.heap.size ∧ ¬ S b ∧ c.w0.heap.size ≤ b ∧ ∀ q y, lkp σ.rows q = some y → ¬ F q b) →
    ∃ ρ' F' E', Mem c (St.addRes.addL T σ l).1.rows w S ρ' F' E' ∧ EnvOK c (St.addRes.addL T σ l).1.env t w S ρ' E' ∧ us.length = (St.addRes.addL T σ l).2.length ∧
      (∀ j u, (St.addRes.addL T σ l).2[j]? = some u → VOK w S ρ' E' (us.getD j undef) u) ∧ (∀ q, q < σ.fresh T → ρ' q = ρ q ∧ E' q = E q) ∧
      ∀ q x b, lkp (St.addRes.addL T σ l).1.rows q = some x → F' q b → (∃ y, lkp σ.rows q = some y ∧ F q b) ∨ H b := by
  intro l
  induction l with
  | nil =>
    intro us H σ ρ F E hr hM hE _
    cases hr
    exact ⟨ρ, F, E, hM, hE, rfl, by simp [St.addRes.addL], fun _ _ => ⟨rfl, rfl⟩, fun q x b hq hb => .inl ⟨x, hq, hb⟩⟩
  | cons R l ih =>
    intro us H σ ρ F E hr hM hE hH
    cases hr with
    | @d x v vs _ _ h t' =>
      obtain ⟨ρ', F', E', k1, k2, k3, k4, k5, k6⟩ := ih t' hM hE hH
      refine ⟨ρ', F', E', k1, k2, by simp [St.addRes.addL, k3], fun j u hj => ?_, k5, k6⟩
      cases j with
      | zero => simp only [St.addRes.addL, List.getElem?_cons_zero, Option.some.injEq] at hj; subst hj; exact .d h
      | succ j => simpa using k4 j u (by simpa [St.addRes.addL] using hj)
    | @row x G H' v vs _ h hd t' =>
      obtain ⟨m1, m2⟩ := join_sound hT hM hE h (fun b hb => hH b (.inl hb))
      have hf : σ.fresh T < (σ.add T x).fresh T := Nat.lt_of_lt_of_le (lt_top (show (σ.fresh T, x) ∈ (σ.add T x).rows from List.mem_cons_self)) (Nat.le_max_left _ _)
      obtain ⟨ρ', F', E', k1, k2, k3, k4, k5, k6⟩ := ih t' m1 m2 (fun b hb => by
        obtain ⟨q1, q2, q3, q4⟩ := hH b (.inr hb)
        refine ⟨q1, q2, q3, fun q y hq hFq => ?_⟩
        by_cases e : σ.fresh T = q
        · subst e; rw [upd_same] at hFq; exact hd b hFq hb
        · rw [upd_ne _ _ (Ne.symm e)] at hFq
          have hq' : lkp ((σ.fresh T, x) :: σ.rows) q = some y := hq
          rw [lkp_cons_ne _ _ e] at hq'
          exact q4 q y hq' hFq)
      refine ⟨ρ', F', E', k1, k2, by simp [St.addRes.addL, k3], fun j u hj => ?_, fun q hq => ?_, fun q y b hq hb => ?_⟩
      · cases j with
        | zero =>
          simp only [St.addRes.addL, List.getElem?_cons_zero, Option.some.injEq] at hj; subst hj
          have := VOK.own (w := w) (S := S) (ρ := ρ') (E := E') (σ.fresh T)
          rw [(k5 _ hf).1, upd_same] at this
          simpa using this
        | succ j => simpa using k4 j u (by simpa [St.addRes.addL] using hj)
      · have := k5 q (Nat.lt_trans hq hf)
        rw [upd_ne _ _ (Nat.ne_of_lt hq), upd_ne _ _ (Nat.ne_of_lt hq)] at this; exact this
      · rcases k6 q y b hq hb with ⟨z, hz, hF⟩ | h
        · by_cases e : σ.fresh T = q
          · subst e; rw [upd_same] at hF; exact .inr (.inl hF)
          · rw [upd_ne _ _ (Ne.symm e)] at hF
            have hq' : lkp ((σ.fresh T, x) :: σ.rows) q = some z := hz
            rw [lkp_cons_ne _ _ e] at hq'
            exact .inl ⟨z, hq', hF⟩
        · exact .inr (.inr h)

/-- What is known behind a call, turned into a state. -/
theorem after_sound (hT : T.base = c.base) (hM : Mem c σ.rows w S ρ F E) (hE : EnvOK c σ.env a.tmps w S ρ E) (h0 : Ext c.w0 w c.Fp) {as : List Arg} {us : List Value} {rs : List (Nat × Bool)} (hc : Corr T σ ρ as us rs) {w' : World} {S' H : Nat → Prop} {xs : List Row} {R : Res} {v : Value}
    (hx : Ext w w' (fun b => ∃ G ∈ Fs F rs, G b)) (hS : ∀ b, S b → S' b) (hS' : ∀ b, S' b → b < w'.heap.size ∧ (S b ∨ w.heap.size ≤ b)) (hR : ResOK w' S' v R H) (hH : ∀ b, H b → b < w'.heap.size ∧ ¬ S' b ∧ (w.heap.size ≤ b ∨ Taken as (Fs F rs) b))
    (hrows : RowsOK w' S' as us (Fs F rs) xs) {K : St → AV → Prop} (hk : andThen T (after σ rs xs) R K) :
    Ext w w' (Mb T σ.rows F) ∧ OutG T c σ.rows F w.heap.size K a.tmps w' v := by
  have hmem : ∀ b, (∃ G ∈ Fs F rs, G b) → ∃ q, ∃ z, (q, z) ∈ rs ∧ F q b := fun b ⟨G, hG, hb⟩ => by
    simp only [Fs, List.mem_map] at hG
    obtain ⟨⟨q, z⟩, hq, rfl⟩ := hG
    exact ⟨q, z, hq, hb⟩
  have hext : Ext w w' (Mb T σ.rows F) := hx.weaken fun b hb => by
    obtain ⟨q, z, hq, hF⟩ := hmem b hb
    obtain ⟨y, hy, hal, _⟩ := hc.rows _ hq
    exact ⟨q, y, hal, hy, hF⟩
  refine ⟨hext, ?_⟩
  cases hτ : after σ rs xs with
  | none => rw [hτ] at hk; exact hk.elim
  | some τ =>
    rw [hτ] at hk
    obtain ⟨r1, r2⟩ := after_rows hc hrows hτ
    have hold : ∀ q z, lkp τ.rows q = some z → ∃ y, lkp σ.rows q = some y := fun q z hq => by
      rcases r1 q z hq with ⟨_, h⟩ | ⟨h, _⟩
      · exact ⟨z, h⟩
      · obtain ⟨y, hy, _⟩ := hc.rows _ h; exact ⟨y, hy⟩
    have hsS : ∀ b, S b → w'.heap[b]? = w.heap[b]? := fun b hb => hx.block b (hM.slt b hb) fun hm => by
      obtain ⟨q, z, hq, hF⟩ := hmem b hm
      obtain ⟨y, hy, _⟩ := hc.rows _ hq
      exact (hM.blk q y hy b hF).2.1 hb
    have hMτ : Mem c τ.rows w' S' ρ F E := by
      refine ⟨fun b hb => (hS' b hb).1, fun b hb => hS b (hM.s0 b hb), fun b hb => ?_, fun q z hq => ?_, fun q z hq b hb => ?_, fun q s ys hq => ?_, ?_, ?_⟩
      · rcases (hS' b hb).2 with h | h
        · exact hM.snew b h
        · exact .inr (Nat.le_trans h0.size h)
      · rcases r1 q z hq with ⟨h1, h2⟩ | ⟨_, h2, _⟩
        · refine (hM.row q z h2).mono hS hsS fun b hb => hx.block b (hM.blk q z h2 b hb).1 fun hm => ?_
          obtain ⟨p, z', hp, hF⟩ := hmem b hm
          obtain ⟨y, hy, _⟩ := hc.rows _ hp
          have e : p ≠ q := fun e => by subst e; rw [memK_iff.2 ⟨z', hp⟩] at h1; cases h1
          exact hM.dis p q _ _ e hy h2 b hF hb
        · exact h2
      · obtain ⟨y, hy⟩ := hold q z hq
        obtain ⟨b1, b2, b3⟩ := hM.blk q y hy b hb
        refine ⟨Nat.lt_of_lt_of_le b1 hx.size, fun hs => ?_, b3⟩
        rcases (hS' b hs).2 with h | h
        · exact b2 h
        · exact Nat.lt_irrefl _ (Nat.lt_of_lt_of_le b1 h)
      · rcases r1 q _ hq with ⟨_, h2⟩ | ⟨_, _, _, h2⟩
        · exact hM.esz q s ys h2
        · obtain ⟨zs, hz⟩ := h2 s ys rfl; exact hM.esz q s zs hz
      · intro p q y z hpq hp hq b
        obtain ⟨y', hy'⟩ := hold p y hp
        obtain ⟨z', hz'⟩ := hold q z hq
        exact hM.dis p q y' z' hpq hy' hz' b
      · intro q z hq hl
        obtain ⟨y, hy⟩ := hold q z hl
        exact hM.pin q y hq hy
    have hEτ : EnvOK c τ.env a.tmps w' S' ρ E := (hE.mono hS hsS).sub r2
    have hHτ : ∀ b, H b → b < w'.heap.size ∧ ¬ S' b ∧ c.w0.heap.size ≤ b ∧ ∀ q y, lkp τ.rows q = some y → ¬ F q b := fun b hb => by
      obtain ⟨h1, h2, h3⟩ := hH b hb
      rcases h3 with h3 | h3
      · refine ⟨h1, h2, Nat.le_trans h0.size h3, fun q y hq hF => ?_⟩
        obtain ⟨z, hz⟩ := hold q y hq
        exact Nat.lt_irrefl _ (Nat.lt_of_lt_of_le (hM.blk q z hz b hF).1 h3)
      · obtain ⟨r, k1, k2, k3⟩ := after_taken hc hτ b h3
        obtain ⟨y, hy, _, hb'⟩ := hc.rows _ k1
        refine ⟨h1, h2, (hM.blk r y hy b k2).2.2 (by rw [← hT]; exact hb' rfl), fun q z hq hF => ?_⟩
        obtain ⟨z', hz'⟩ := hold q z hq
        have e : r ≠ q := fun e => by subst e; rw [k3] at hq; cases hq
        exact hM.dis r q y z' e hy hz' b k2 hF
    have from' : ∀ b, H b → (∃ r y, lkp σ.rows r = some y ∧ F r b ∧ allowed T r = true) ∨ w.heap.size ≤ b := fun b hb => by
      rcases (hH b hb).2.2 with h | h
      · exact .inr h
      · obtain ⟨r, k1, k2, _⟩ := after_taken hc hτ b h
        obtain ⟨y, hy, hal, _⟩ := hc.rows _ k1
        exact .inl ⟨r, y, hy, k2, hal⟩
    unfold andThen at hk
    cases hR with
    | d h => exact ⟨τ, _, S', ρ, F, E, hk, hMτ, hEτ, .d h, fun q z b hq hb => by obtain ⟨y, hy⟩ := hold q z hq; exact .inl ⟨q, y, hy, hb, id⟩⟩
    | @row x _ _ h =>
      obtain ⟨m1, m2⟩ := join_sound hT hMτ hEτ h hHτ
      refine ⟨_, _, S', _, _, _, hk, m1, m2, ?_, fun q z b hq hb => ?_⟩
      · have := VOK.own (w := w') (S := S') (ρ := upd ρ (τ.fresh T) v) (E := upd E (τ.fresh T) x.eszD) (τ.fresh T)
        rw [upd_same] at this; exact this
      · by_cases e : τ.fresh T = q
        · subst e; rw [upd_same] at hb
          rcases from' b hb with ⟨r, y, e1, e2, e3⟩ | h
          · exact .inl ⟨r, y, e1, e2, fun _ => e3⟩
          · exact .inr h
        · rw [upd_ne _ _ (Ne.symm e)] at hb
          have hq' : lkp ((τ.fresh T, x) :: τ.rows) q = some z := hq
          rw [lkp_cons_ne _ _ e] at hq'
          obtain ⟨y, hy⟩ := hold q z hq'
          exact .inl ⟨q, y, hy, hb, id⟩
    | @tup l vs _ h =>
      obtain ⟨ρ', F', E', k1, k2, k3, k4, _, k6⟩ := addL_sound hT h hMτ hEτ hHτ
      refine ⟨_, _, S', ρ', F', E', hk, k1, k2, .tup vs (by simpa using k3) (fun j u hj => ?_), fun q z b hq hb => ?_⟩
      · have := k4 j u hj
        simpa [Array.getD_eq_getD_getElem?, List.getD_eq_getElem?_getD] using this
      · rcases k6 q z b hq hb with ⟨y, hy, hF⟩ | hH'
        · obtain ⟨y', hy'⟩ := hold q y hy
          exact .inl ⟨q, y', hy', hF, id⟩
        · rcases from' b hH' with ⟨r, y, e1, e2, e3⟩ | h
          · exact .inl ⟨r, y, e1, e2, fun _ => e3⟩
          · exact .inr h
end
end Go.Eng
