/- The engine, part 15: an operation with its slot and its guard; a region's operations. -/
import Derived.Test.YtmbodncejejceaaEng14
set_option linter.all false
namespace Go.Eng

theorem Sat.sub {c : Ctx} {σ : St} {a : Act} {w : World} (h : Sat c σ a w) {env : List (Nat × AV)} (hs : ∀ s v, (s, v) ∈ env → (s, v) ∈ σ.env) : Sat c ⟨env, σ.rows⟩ a w := by
  obtain ⟨h1, h2, h3, S, ρ, F, E, hM, hE⟩ := h
  exact ⟨h1, h2, h3, S, ρ, F, E, hM, hE.sub hs⟩
theorem Sat.keep {c : Ctx} {σ : St} {a : Act} {w : World} (h : Sat c σ a w) (ks : List Nat) : Sat c (σ.keep ks) a w := h.sub fun _ _ hm => mem_keepIn hm

theorem put_tmps (a : Act) (d : Option Tmp) (v : Value) : (a.put d v).tmps = match d with | some d => a.tmps.setIfInBounds d v | none => a.tmps := by
  cases d <;> rfl
theorem put_defers (a : Act) (d : Option Tmp) (v : Value) : (a.put d v).defers = a.defers := by cases d <;> rfl

theorem dst_lt {n : Nat} {d : Option Nat} (h : dstOk n d = true) : ∀ x, d = some x → x < n := by
  rintro x rfl
  exact blt_true h

/-- A slot is set. -/
theorem Sat.put {c : Ctx} {σ : St} {a : Act} {w : World} {S : Nat → Prop} {ρ : Nat → Value} {F : Nat → Nat → Prop} {E : Nat → Nat} (hn : a.tmps.size = c.N) (hd : a.defers = []) (hx : Ext c.w0 w c.Fp)
    (hM : Mem c σ.rows w S ρ F E) (hE : EnvOK c σ.env a.tmps w S ρ E) {d : Option Nat} (hd' : ∀ x, d = some x → x < c.N) {v : Value} {u : AV} (hv : VOK w S ρ E v u) : Sat c (σ.setO d u) (a.put d v) w := by
  cases d with
  | none => exact ⟨hn, hd, hx, S, ρ, F, E, hM, hE⟩
  | some d =>
    refine ⟨by simp [Act.put, hn], hd, hx, S, ρ, F, E, hM, ?_⟩
    exact hE.set hn (hd' d rfl) hv

section
variable {P : Program} {T : Tab} {c : Ctx}

theorem mb_fp (hT : T.base = c.base) {σ : St} {w : World} {S : Nat → Prop} {ρ : Nat → Value} {F : Nat → Nat → Prop} {E : Nat → Nat} (hM : Mem c σ.rows w S ρ F E) : ∀ x, x < c.w0.heap.size → Mb T σ.rows F x → c.Fp x := by
  rintro b hb ⟨r, x, _, hr, hF⟩
  by_cases h : r < c.base
  · exact ⟨r, h, ((hM.pin r x h hr).2 b).1 hF⟩
  · exact absurd hb (Nat.not_lt.2 ((hM.blk r x hr b hF).2.2 (Nat.not_lt.1 h)))

/-- One operation that is carried out. -/
theorem oper_sound (hP : TabOK P T) (hT : T.base = c.base) {σ : St} {a : Act} {w : World} (h : Sat c σ a w) {o : Oper} {one : Bool} {i : IOp} (ho : opOf P one o.op = some i)
    (hd : ∀ x, o.dst = some x → x < c.N) {K : St → Prop} (hk : step T i σ fun σ v => K (σ.setO o.dst v)) {next : Act → World → Prop} {Q : Exit → Act → World → Prop}
    (hn : ∀ σ' a' w', Sat c σ' a' w' → K σ' → next a' w') : o.wp P a w next Q := by
  obtain ⟨h1, h2, h3, S, ρ, F, E, hM, hE⟩ := h
  have hu := step_sound hP hT hM hE h3 ho hk
  have fin : ∀ v w', Ext w w' (Mb T σ.rows F) → OutG T c σ.rows F w.heap.size (fun σ v => K (σ.setO o.dst v)) a.tmps w' v → next (a.put o.dst v) w' := by
    rintro v w' hx ⟨σ', u, S', ρ', F', E', hk', hM', hE', hv, _⟩
    exact hn _ _ _ (Sat.put h1 h2 (h3.trans hx (mb_fp hT hM)) hM' hE' hd hv) hk'
  unfold URes Upon at hu
  unfold Oper.wp Oper.upon
  split at hu
  · rename_i e; rw [e]; exact fin _ _ hu.1 hu.2
  · rename_i e; rw [e]; exact fin _ _ hu.1 hu.2
  · rename_i e; rw [e]
    refine hu.mono ?_
    rintro _ w'' ⟨v, rfl, k1, k2⟩
    exact fin _ _ k1 k2
  · exact hu.elim

theorem Sat.lit {σ : St} {a : Act} {w : World} (h : Sat c σ a w) {s : Nat} {b : BV} (hs : lkp σ.env s = some (.d (.b b))) {t : Bool} (ht : b.get = t) : Sat c (σ.set s (.d (.b (.lit t)))) a w := by
  obtain ⟨h1, h2, h3, S, ρ, F, E, hM, hE⟩ := h
  refine ⟨h1, h2, h3, S, ρ, F, E, hM, ?_⟩
  intro r v hm
  simp only [St.set, List.mem_cons, Prod.mk.injEq] at hm
  rcases hm with ⟨rfl, rfl⟩ | hm
  · obtain ⟨k1, k2⟩ := hE _ _ (lkp_mem hs)
    refine ⟨k1, ?_⟩
    generalize a.tmps.getD r undef = u at k2
    cases k2 with
    | d h => cases h with
      | b b => rw [ht]; exact .d (.b (.lit t))
  · exact hE r v (mem_del hm).2

theorem gop_sound (hP : TabOK P T) (hT : T.base = c.base) {H : Hint} (hN : H.n = c.N) {ops : Array Oper} {σ : St} {a : Act} {w : World} (h : Sat c σ a w) {o : Oper} {g : GOp} (ho : gopOf P H ops o = some g)
    {K : St → Prop} (hk : gop T g σ K) {next : Act → World → Prop} {Q : Exit → Act → World → Prop} (hn : ∀ σ' a' w', Sat c σ' a' w' → K σ' → next a' w') :
    if Region.wanted o (yielded ops a.tmps) then o.wp P a w next Q else next (a.put o.dst undef) w := by
  unfold gopOf at ho
  obtain ⟨hd, ho⟩ := bif_some ho
  have hd' : ∀ x, o.dst = some x → x < c.N := hN ▸ dst_lt hd
  split at ho
  · rename_i i hi
    have skip : ∀ σ' : St, Sat c σ' a w → K (σ'.setO o.dst .un) → next (a.put o.dst undef) w := by
      intro σ' hs hk
      obtain ⟨h1, h2, h3, S, ρ, F, E, hM, hE⟩ := hs
      exact hn _ _ _ (Sat.put h1 h2 h3 hM hE hd' .un) hk
    split at ho
    · rename_i hg
      simp only [Option.some.injEq] at ho; subst ho
      simp only [Region.wanted, hg, if_true]
      exact oper_sound hP hT h hi hd' hk hn
    · rename_i j pol hg
      split at ho
      · rename_i s hs
        simp only [Option.some.injEq] at ho; subst ho
        simp only [Region.wanted, hg]
        simp only [gop] at hk
        have hyb : ∀ b : BV, lkp σ.env s = some (.d (.b b)) → yielded ops a.tmps j = some b.get := by
          intro b hb
          obtain ⟨h1, h2, h3, S, ρ, F, E, hM, hE⟩ := h
          obtain ⟨k1, k2⟩ := hE _ _ (lkp_mem hb)
          have hs' : ((ops[j]?).bind (·.dst)).bind (a.tmps[·]?) = a.tmps[s]? := by rw [hs]; rfl
          unfold yielded
          rw [hs']
          have hlt : s < a.tmps.size := h1 ▸ k1
          have e : a.tmps[s]? = some (a.tmps.getD s undef) := by simp [Array.getD_eq_getD_getElem?, Array.getElem?_eq_getElem hlt]
          rw [e]
          generalize a.tmps.getD s undef = u at k2
          cases k2 with
          | d h => cases h with
            | b b => rfl
        split at hk
        · rename_i b hb
          rw [hyb b hb]
          rcases bifB_elim hk with ⟨hv, hp⟩ | ⟨hv, hp⟩
          · cases pol with
            | true => simp only [hv, beq_self_eq_true, if_true]; exact oper_sound hP hT (h.lit hb hv) hi hd' hp hn
            | false => simp only [hv]; exact skip _ (h.lit hb hv) hp
          · cases pol with
            | true => simp only [hv]; exact skip _ (h.lit hb hv) hp
            | false => simp only [hv, beq_self_eq_true, if_true]; exact oper_sound hP hT (h.lit hb hv) hi hd' hp hn
        · rename_i hb
          have hy : yielded ops a.tmps j = none := by
            obtain ⟨h1, h2, h3, S, ρ, F, E, hM, hE⟩ := h
            obtain ⟨k1, k2⟩ := hE _ _ (lkp_mem hb)
            have hs' : ((ops[j]?).bind (·.dst)).bind (a.tmps[·]?) = a.tmps[s]? := by rw [hs]; rfl
            unfold yielded
            rw [hs']
            have hlt : s < a.tmps.size := h1 ▸ k1
            have e : a.tmps[s]? = some (a.tmps.getD s undef) := by simp [Array.getD_eq_getD_getElem?, Array.getElem?_eq_getElem hlt]
            rw [e]
            generalize a.tmps.getD s undef = u at k2
            cases k2 with
            | un => rfl
          rw [hy]
          exact skip _ h hk
        · exact hk.elim
      · cases ho
  · cases ho

/-- The operations of a region, one after the other. -/
theorem vops_sound (hP : TabOK P T) (hT : T.base = c.base) {H : Hint} (hN : H.n = c.N) {ops : Array Oper} {Q : Exit → Act → World → Prop} : ∀ (l : List Nat) (gs : List GOp), l.length = gs.length →
    (∀ (k i : Nat) (g : GOp), l[k]? = some i → gs[k]? = some g → ∃ o, ops[i]? = some o ∧ gopOf P H ops o = some g) → ∀ {σ : St} {a : Act} {w : World}, Sat c σ a w → ∀ {K : St → Prop}, vops T gs σ K →
    (∀ σ' a' w', Sat c σ' a' w' → K σ' → Q .normal a' w') → wpOps P ops Q l a w := by
  intro l
  induction l with
  | nil =>
    intro gs hl _ σ a w h K hk hn
    cases gs with
    | nil => exact hn _ _ _ h hk
    | cons g gs => simp at hl
  | cons i l ih =>
    intro gs hl hg σ a w h K hk hn
    cases gs with
    | nil => simp at hl
    | cons g gs =>
      obtain ⟨o, e1, e2⟩ := hg 0 i g rfl rfl
      simp only [vops] at hk
      have hnext : ∀ σ' a' w', Sat c σ' a' w' → vops T gs σ' K → wpOps P ops Q l a' w' := fun σ' a' w' h' hk' =>
        ih gs (by simpa using hl) (fun k i g h1 h2 => hg (k + 1) i g (by simpa using h1) (by simpa using h2)) h' hk' hn
      have hgop := gop_sound (Q := Q) hP hT hN h e2 hk hnext
      simp only [wpOps, e1]
      split
      · rename_i hw
        rw [if_pos hw] at hgop
        exact .inl hgop
      · rename_i hw
        rw [if_neg hw] at hgop
        exact hgop

theorem gopsOf_get {H : Hint} {ops : Array Oper} : ∀ {l : List Oper} {gs : List GOp}, gopsOf P H ops l = some gs → l.length = gs.length ∧ ∀ (k : Nat) (o : Oper) (g : GOp), l[k]? = some o → gs[k]? = some g → gopOf P H ops o = some g
  | [], gs, h => by simp only [gopsOf, Option.some.injEq] at h; subst h; exact ⟨rfl, fun k o g h => by simp at h⟩
  | o :: l, gs, h => by
    unfold gopsOf at h
    split at h
    · rename_i g m h1 h2
      simp only [Option.some.injEq] at h; subst h
      obtain ⟨i1, i2⟩ := gopsOf_get h2
      refine ⟨by simp [i1], fun k o' g' hk hg => ?_⟩
      cases k with
      | zero => simp only [List.getElem?_cons_zero, Option.some.injEq] at hk hg; subst hk hg; exact h1
      | succ k => exact i2 k o' g' (by simpa using hk) (by simpa using hg)
    · cases h
end

end Go.Eng
