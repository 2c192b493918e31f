/- The engine, part 20: regions whose order is drawn. -/
import Derived.Test.YtmbodncejejceaaEng19
set_option linter.all false
namespace Go.Eng

def YAt (P : Program) (ops : Array Oper) (o : Oper) (v : Value) (a : Act) (w : World) : Prop :=
  (Region.wanted o (yielded ops a.tmps) = true ∧ (execOp a.eval o).run P w = .ok (.value v) w) ∨ (Region.wanted o (yielded ops a.tmps) = false ∧ v = undef)

theorem YAt.of_same {P : Program} {ops : Array Oper} {o : Oper} {v : Value} {a a' : Act} {w : World} (hy : YAt P ops o v a w) (he : execOp a'.eval o = execOp a.eval o)
    (hw : Region.wanted o (yielded ops a'.tmps) = Region.wanted o (yielded ops a.tmps)) : YAt P ops o v a' w := by
  unfold YAt at *
  rw [he, hw]
  exact hy

theorem YAt.wpOp {P : Program} {ops : Array Oper} {Q : Exit → Act → World → Prop} {i : Nat} {o : Oper} {v : Value} {a : Act} {w : World} (hi : ops[i]? = some o) (hy : YAt P ops o v a w) {K : Act → World → Prop}
    (h : K (a.put o.dst v) w) : wpOp P ops Q i K a w := by
  unfold Go.wpOp
  simp only [hi]
  rcases hy with ⟨hw, hv⟩ | ⟨hw, rfl⟩
  · simp only [hw, if_true, Oper.wp, hv, Oper.upon]; exact .inl h
  · simp only [hw, Bool.false_eq_true, if_false]; exact h

/-- As 'wpAny', with what each operation of class p or r is known to yield. -/
def wpD (P : Program) (ops : Array Oper) (cls : Nat → Cls) (Q : Exit → Act → World → Prop) : Nat → Array Bool → Act → World → Prop
  | 0, listed, a, w => Region.ready .any ops listed = [] ∧ Q .normal a w
  | f + 1, listed, a, w => (Region.ready .any ops listed = [] → Q .normal a w) ∧ ∀ i ∈ Region.ready .any ops listed, match cls i with
    | .p => ∃ o v, ops[i]? = some o ∧ Yields P ops o v a ∧ wpD P ops cls Q f (listed.setIfInBounds i true) (a.put o.dst v) w
    | .r => ∃ o v, ops[i]? = some o ∧ YAt P ops o v a w ∧ wpD P ops cls Q f (listed.setIfInBounds i true) (a.put o.dst v) w
    | .g => wpOp P ops Q i (wpD P ops cls Q f (listed.setIfInBounds i true)) a w

section
variable {P : Program} {ops : Array Oper} {cls : Nat → Cls} {Q : Exit → Act → World → Prop}

theorem wpD_any : ∀ (f : Nat) (listed : Array Bool) (a : Act) (w : World), wpD P ops cls Q f listed a w → wpAny P .any ops Q f listed a w
  | 0, _, _, _, h => h
  | f + 1, listed, a, w, h => by
    refine ⟨h.1, fun i hi => ?_⟩
    have h1 := h.2 i hi
    split at h1
    · obtain ⟨o, v, ho, hy, hk⟩ := h1; exact hy.wpOp ho (wpD_any f _ _ _ hk)
    · obtain ⟨o, v, ho, hy, hk⟩ := h1; exact hy.wpOp ho (wpD_any f _ _ _ hk)
    · exact wpOp_mono (fun a w => wpD_any f _ a w) h1

inductive Anc (ops : Array Oper) (i : Nat) : Nat → Prop
  | here : Anc ops i i
  | step {j : Nat} {o : Oper} {e : Edge} (hj : ops[j]? = some o) (he : e ∈ o.after) (hb : Region.binds .any e = true) (h : Anc ops i e.on) : Anc ops i j

def Closed (ops : Array Oper) (listed : Array Bool) : Prop := ∀ (j : Nat) (o : Oper), ops[j]? = some o → listed.getD j false = true → ∀ e ∈ o.after, Region.binds .any e = true → listed.getD e.on false = true

theorem Anc.listed {listed : Array Bool} (hc : Closed ops listed) {i j : Nat} (h : Anc ops i j) : listed.getD j false = true → listed.getD i false = true := by
  induction h with
  | here => exact id
  | step hj he hb _ ih => exact fun hl => ih (hc _ _ hj hl _ he hb)

theorem Closed.set {listed : Array Bool} (hc : Closed ops listed) {i : Nat} (hi : i ∈ Region.ready .any ops listed) : Closed ops (listed.setIfInBounds i true) := by
  intro j o hj hl e he hb
  obtain ⟨_, oi, hoi, hall⟩ := mem_ready.1 hi
  by_cases hij : i = j
  · subst hij
    rw [hoi] at hj; cases hj
    exact getD_set_true (hall e he hb)
  · rw [getD_set_ne false hij] at hl
    exact getD_set_true (hc j o hj hl e he hb)

theorem ready_unlisted {listed : Array Bool} {i : Nat} (hi : i ∈ Region.ready .any ops listed) : listed.getD i false = false := by
  have h := (mem_ready.1 hi).1
  rcases Nat.lt_or_ge i listed.size with h' | h'
  · simpa [h'] using h
  · simp [Array.getElem?_eq_none h']

theorem wpD_first {i : Nat} {oi : Oper} {v : Value} (hi : ops[i]? = some oi) (hsel : ∀ (j : Nat) (o : Oper) cs b, ops[j]? = some o → o.op ≠ .select cs b)
    (hQ : ∀ c a w, Q (.panic c) (a.put oi.dst v) w → Q (.panic c) a w) (hcl : isG (cls i) = false) :
    ∀ (fuel : Nat) (listed : Array Bool) (a : Act) (w : World), Closed ops listed →
      (∀ j oj, ops[j]? = some oj → j ≠ i → listed.getD j true = false → (∀ e ∈ oj.after, Region.binds .any e = true → e.on ≠ i) → oi.apart ops oj = true) →
      (cls i = .r → ∀ j oj, ops[j]? = some oj → j ≠ i → listed.getD j true = false → cls j = .g → Anc ops i j) →
      i ∈ Region.ready .any ops listed → (cls i = .p → Yields P ops oi v a) → (cls i = .r → YAt P ops oi v a w) →
      wpD P ops cls Q fuel (listed.setIfInBounds i true) (a.put oi.dst v) w → wpD P ops cls Q (fuel + 1) listed a w := by
  have own : ∀ (fuel : Nat) (listed : Array Bool) (a : Act) (w : World), (cls i = .p → Yields P ops oi v a) → (cls i = .r → YAt P ops oi v a w) → wpD P ops cls Q fuel (listed.setIfInBounds i true) (a.put oi.dst v) w →
      match cls i with
      | .p => ∃ o v, ops[i]? = some o ∧ Yields P ops o v a ∧ wpD P ops cls Q fuel (listed.setIfInBounds i true) (a.put o.dst v) w
      | .r => ∃ o v, ops[i]? = some o ∧ YAt P ops o v a w ∧ wpD P ops cls Q fuel (listed.setIfInBounds i true) (a.put o.dst v) w
      | .g => wpOp P ops Q i (wpD P ops cls Q fuel (listed.setIfInBounds i true)) a w := by
    intro fuel listed a w hp hr H
    cases hc : cls i with
    | p => exact ⟨oi, v, hi, hp hc, H⟩
    | r => exact ⟨oi, v, hi, hr hc, H⟩
    | g => rw [hc] at hcl; cases hcl
  intro fuel
  induction fuel with
  | zero =>
    intro listed a w _ _ _ hr hp hy H
    refine ⟨fun h => (by rw [h] at hr; cases hr), fun j hj => ?_⟩
    by_cases hji : j = i
    · subst hji; exact own 0 listed a w hp hy H
    · have := ready_mono hj hji
      rw [H.1] at this
      cases this
  | succ fuel ih =>
    intro listed a w hclo hfree hg hr hp hy H
    refine ⟨fun h => (by rw [h] at hr; cases hr), fun j hj => ?_⟩
    by_cases hji : j = i
    · subst hji; exact own (fuel + 1) listed a w hp hy H
    · have h1 := H.2 j (ready_mono hj hji)
      obtain ⟨hjun, oj, hoj, hall⟩ := mem_ready.1 hj
      have hnot : ∀ e ∈ oj.after, Region.binds .any e = true → e.on ≠ i := fun e he hb heq => by
        have h1 := hall e he hb
        rw [heq, ready_unlisted hr] at h1
        cases h1
      have hap := hfree j oj hoj hji hjun hnot
      obtain ⟨a1, a2, a3⟩ := Oper.apart_spec hap
      have hfree' : ∀ k ok, ops[k]? = some ok → k ≠ i → (listed.setIfInBounds j true).getD k true = false →
          (∀ e ∈ ok.after, Region.binds .any e = true → e.on ≠ i) → oi.apart ops ok = true := fun k ok hk hki hun hno => by
        refine hfree k ok hk hki ?_ hno
        by_cases hjk : j = k
        · subst hjk; exact hjun
        · rw [getD_set_ne true hjk] at hun; exact hun
      have hg' : cls i = .r → ∀ k ok, ops[k]? = some ok → k ≠ i → (listed.setIfInBounds j true).getD k true = false → cls k = .g → Anc ops i k := fun hc k ok hk hki hun hkg => by
        refine hg hc k ok hk hki ?_ hkg
        by_cases hjk : j = k
        · subst hjk; exact hjun
        · rw [getD_set_ne true hjk] at hun; exact hun
      have hsi : ∀ cs b, oi.op ≠ .select cs b := fun cs b => hsel i oi cs b hi
      have hsj : ∀ cs b, oj.op ≠ .select cs b := fun cs b => hsel j oj cs b hoj
      have step : ∀ u, wpD P ops cls Q fuel ((listed.setIfInBounds i true).setIfInBounds j true) ((a.put oi.dst v).put oj.dst u) w → wpD P ops cls Q (fuel + 1) (listed.setIfInBounds j true) (a.put oj.dst u) w := by
        intro u hk
        refine ih (listed.setIfInBounds j true) (a.put oj.dst u) w (hclo.set hj) hfree' hg' (ready_mono hr (Ne.symm hji)) (fun hc => (hp hc).of_same (execOp_put oi hsi a oj.dst u a3) (wanted_put oi a oj.dst u a3))
          (fun hc => (hy hc).of_same (execOp_put oi hsi a oj.dst u a3) (wanted_put oi a oj.dst u a3)) ?_
        rw [Array.setIfInBounds_comm _ _ hji, ← Act.put_comm a v u a2]
        exact hk
      cases hcj : cls j with
      | p =>
        rw [hcj] at h1
        obtain ⟨o, u, ho, hyu, hk⟩ := h1
        rw [hoj] at ho; cases ho
        exact ⟨oj, u, hoj, hyu.of_same (execOp_put oj hsj a oi.dst v a1).symm (wanted_put oj a oi.dst v a1).symm, step u hk⟩
      | r =>
        rw [hcj] at h1
        obtain ⟨o, u, ho, hyu, hk⟩ := h1
        rw [hoj] at ho; cases ho
        exact ⟨oj, u, hoj, hyu.of_same (execOp_put oj hsj a oi.dst v a1).symm (wanted_put oj a oi.dst v a1).symm, step u hk⟩
      | g =>
        rw [hcj] at h1
        cases hci : cls i with
        | g => rw [hci] at hcl; cases hcl
        | r =>
          have hanc := hg hci j oj hoj hji hjun hcj
          cases hanc with
          | here => exact absurd rfl hji
          | step hj' he hb h =>
            rw [hoj] at hj'; cases hj'
            have := h.listed hclo (hall _ he hb)
            rw [ready_unlisted hr] at this; cases this
        | p =>
          have h2 := wpOp_put hoj hap hsi hsj hQ (hp hci) h1
          refine wpOp_mono (fun a' w' h3 => ih (listed.setIfInBounds j true) a' w' (hclo.set hj) hfree' hg' (ready_mono hr (Ne.symm hji)) (fun _ => h3.1) (fun hc => by rw [hci] at hc; cases hc) ?_) h2
          rw [Array.setIfInBounds_comm _ _ hji]
          exact h3.2

theorem descs_anc {i : Nat} : ∀ (js acc : List Nat), (∀ k, mem acc k = true → Anc ops i k) → ∀ k, mem (descs ops acc js) k = true → Anc ops i k
  | [], acc, h, k, hk => h k hk
  | j :: js, acc, h, k, hk => by
    unfold descs at hk
    split at hk
    · rename_i o ho
      cases hb : o.after.any (fun e => Region.binds .any e && mem acc e.on) with
      | false => rw [hb] at hk; exact descs_anc js acc h k hk
      | true =>
        rw [hb] at hk
        refine descs_anc js (j :: acc) (fun q hq => ?_) k hk
        unfold mem at hq
        by_cases e : j = q
        · subst e
          obtain ⟨e, he, hbe⟩ := Array.any_eq_true'.1 hb
          simp only [Bool.and_eq_true] at hbe
          exact .step ho he hbe.1 (h _ hbe.2)
        · rw [beq_ne e] at hq; exact h q hq
    · exact descs_anc js acc h k hk
end

/-! ### From 'vops' -/

section
variable {P : Program} {T : Tab} {c : Ctx}

theorem gop_cases {H : Hint} (hN : H.n = c.N) {ops : Array Oper} {σ : St} {a : Act} {w : World} (h : Sat c σ a w) {o : Oper} {g : GOp} (ho : gopOf P H ops o = some g) {K : St → Prop} (hk : gop T g σ K) :
    (∀ x, o.dst = some x → x < c.N) ∧ (∃ one, opOf P one o.op = some g.op) ∧
    ((Region.wanted o (yielded ops a.tmps) = true ∧ ∃ σ1, Sat c σ1 a w ∧ step T g.op σ1 fun σ v => K (σ.setO o.dst v)) ∨ (Region.wanted o (yielded ops a.tmps) = false ∧ ∃ σ1, Sat c σ1 a w ∧ K (σ1.setO o.dst .un))) := by
  unfold gopOf at ho
  obtain ⟨hd, ho⟩ := bif_some ho
  refine ⟨hN ▸ dst_lt hd, ?_⟩
  split at ho
  · rename_i i hi
    split at ho
    · rename_i hg
      simp only [Option.some.injEq] at ho; subst ho
      exact ⟨⟨_, hi⟩, .inl ⟨by simp [Region.wanted, hg], σ, h, hk⟩⟩
    · rename_i j pol hg
      split at ho
      · rename_i s hs
        simp only [Option.some.injEq] at ho; subst ho
        refine ⟨⟨_, hi⟩, ?_⟩
        simp only [Region.wanted, hg]
        simp only [gop] at hk
        have hs' : ((ops[j]?).bind (·.dst)).bind (a.tmps[·]?) = a.tmps[s]? := by rw [hs]; rfl
        have hval : ∀ {x : AV}, lkp σ.env s = some x → ∃ S ρ E, a.tmps[s]? = some (a.tmps.getD s undef) ∧ VOK w S ρ E (a.tmps.getD s undef) x := by
          intro x hx
          obtain ⟨h1, h2, h3, S, ρ, F, E, hM, hE⟩ := h
          obtain ⟨k1, k2⟩ := hE _ _ (lkp_mem hx)
          have hlt : s < a.tmps.size := h1 ▸ k1
          exact ⟨S, ρ, E, by simp [Array.getD_eq_getD_getElem?, Array.getElem?_eq_getElem hlt], k2⟩
        split at hk
        · rename_i b hb
          have hyb : yielded ops a.tmps j = some b.get := by
            obtain ⟨S, ρ, E, e, k2⟩ := hval hb
            unfold yielded
            rw [hs', e]
            generalize a.tmps.getD s undef = u at k2
            cases k2 with
            | d h => cases h with
              | b b => rfl
          rw [hyb]
          rcases bifB_elim hk with ⟨hv, hp⟩ | ⟨hv, hp⟩
          · cases pol with
            | true => exact .inl ⟨by simp [hv], _, h.lit hb hv, hp⟩
            | false => exact .inr ⟨by simp [hv], _, h.lit hb hv, hp⟩
          · cases pol with
            | true => exact .inr ⟨by simp [hv], _, h.lit hb hv, hp⟩
            | false => exact .inl ⟨by simp [hv], _, h.lit hb hv, hp⟩
        · rename_i hb
          have hyb : yielded ops a.tmps j = none := by
            obtain ⟨S, ρ, E, e, k2⟩ := hval hb
            unfold yielded
            rw [hs', e]
            generalize a.tmps.getD s undef = u at k2
            cases k2 with
            | un => rfl
          rw [hyb]
          exact .inr ⟨rfl, σ, h, hk⟩
        · exact hk.elim
      · cases ho
  · cases ho

theorem gop_pure (hT : T.base = c.base) {H : Hint} (hN : H.n = c.N) {ops : Array Oper} {σ : St} {a : Act} {w : World} (h : Sat c σ a w) {o : Oper} {g : GOp} (ho : gopOf P H ops o = some g) (hp : pureOp g.op = true) {K : St → Prop} (hk : gop T g σ K) :
    ∃ v σ', Yields P ops o v a ∧ Sat c σ' (a.put o.dst v) w ∧ K σ' := by
  obtain ⟨hd, ⟨one, hop⟩, h⟩ := gop_cases hN h ho hk
  rcases h with ⟨hw, σ1, hs, hstep⟩ | ⟨hw, σ1, hs, hk⟩
  · obtain ⟨h1, h2, h3, S, ρ, F, E, hM, hE⟩ := hs
    obtain ⟨v, hv, σ', u, S', ρ', F', E', hk', hM', hE', hvu, _⟩ := step_pure hT hM hE hop hp hstep
    exact ⟨v, _, .inl ⟨hw, hv⟩, Sat.put h1 h2 h3 hM' hE' hd hvu, hk'⟩
  · obtain ⟨h1, h2, h3, S, ρ, F, E, hM, hE⟩ := hs
    exact ⟨undef, _, .inr ⟨hw, rfl⟩, Sat.put h1 h2 h3 hM hE hd .un, hk⟩

theorem gop_load {H : Hint} (hN : H.n = c.N) {ops : Array Oper} {σ : St} {a : Act} {w : World} (h : Sat c σ a w) {o : Oper} {g : GOp} (ho : gopOf P H ops o = some g) (hp : loadOp o.op = true) {K : St → Prop} (hk : gop T g σ K) :
    ∃ v σ', YAt P ops o v a w ∧ Sat c σ' (a.put o.dst v) w ∧ K σ' := by
  obtain ⟨hd, ⟨one, hop⟩, h⟩ := gop_cases hN h ho hk
  rcases h with ⟨hw, σ1, hs, hstep⟩ | ⟨hw, σ1, hs, hk⟩
  · obtain ⟨h1, h2, h3, S, ρ, F, E, hM, hE⟩ := hs
    generalize hoo : o.op = oo at hop hp
    cases oo with
    | load t ox =>
      simp only [opOf] at hop
      split at hop
      · rename_i ag x e1 e2
        simp only [Option.some.injEq] at hop
        rw [← hop] at hstep
        obtain ⟨p, _, v, g', hrun, _, σ', u, S', ρ', F', E', hk', hM', hE', hvu, _⟩ := r_load hM hE hoo e1 e2 hstep
        exact ⟨v, _, .inl ⟨hw, hrun w rfl⟩, Sat.put h1 h2 h3 hM' hE' hd hvu, hk'⟩
      · cases hop
    | _ => cases hp
  · obtain ⟨h1, h2, h3, S, ρ, F, E, hM, hE⟩ := hs
    exact ⟨undef, _, .inr ⟨hw, rfl⟩, Sat.put h1 h2 h3 hM hE hd .un, hk⟩

theorem sameCls_eq {x y : Cls} (h : sameCls x y = true) : x = y := by cases x <;> cases y <;> first | rfl | cases h

theorem dr_sound (hP : TabOK P T) (hT : T.base = c.base) {H : Hint} (hN : H.n = c.N) {ops : Array Oper} {cls : Nat → Cls} {Q : Exit → Act → World → Prop} (hsel : Region.noSelect ops = true) (hQ : ∀ ch a w, ¬ Q (.panic ch) a w) :
    ∀ (l : List (Nat × Cls)) (listed : Array Bool) (gs : List GOp), drGo ops cls l listed = true → gopsD P H ops l = some gs → Closed ops listed → ∀ {σ : St} {a : Act} {w : World}, Sat c σ a w → ∀ {K : St → Prop}, vops T gs σ K →
    (∀ σ' a' w', Sat c σ' a' w' → K σ' → Q .normal a' w') → wpD P ops cls Q l.length listed a w := by
  intro l
  induction l with
  | nil =>
    intro listed gs hd hg hc σ a w hs K hk hn
    simp only [gopsD, Option.some.injEq] at hg; subst hg
    exact ⟨by simpa [drGo] using hd, hn σ a w hs hk⟩
  | cons x l ih =>
    obtain ⟨i, k⟩ := x
    intro listed gs hd hg hc σ a w hs K hk hn
    unfold drGo at hd
    cases hcls : sameCls (cls i) k with
    | false => rw [hcls] at hd; cases hd
    | true =>
      rw [hcls] at hd
      have hk' := sameCls_eq hcls
      subst hk'
      simp only [cond_true] at hd
      simp only [gopsD] at hg
      split at hg
      · rename_i o ho
        split at hg
        · rename_i g m hgo hm
          obtain ⟨hop, hg⟩ := bif_some hg
          simp only [Option.some.injEq] at hg; subst hg
          simp only [vops] at hk
          cases hck : cls i with
          | p =>
            rw [hck] at hd hop
            simp only at hd
            cases hcond : ((Region.ready .any ops listed).contains i && Region.free .any ops listed i) with
            | false => rw [hcond] at hd; cases hd
            | true =>
              rw [hcond] at hd
              simp only [Bool.and_eq_true, List.contains_eq_mem, decide_eq_true_eq] at hcond
              obtain ⟨hr, hf⟩ := hcond
              obtain ⟨v, σ', hy, hs', hk'⟩ := gop_pure hT hN hs hgo hop hk
              refine wpD_first ho (Region.noSelect_spec hsel) (fun ch a w h => (hQ ch _ _ h).elim) (by rw [hck]; rfl) l.length listed a w hc (Region.free_spec ho hf) (fun h => by rw [hck] at h; cases h) hr (fun _ => hy) (fun h => by rw [hck] at h; cases h) ?_
              exact ih _ m hd hm (hc.set hr) hs' hk' hn
          | r =>
            rw [hck] at hd hop
            simp only at hd
            cases hcond : ((Region.ready .any ops listed).contains i && Region.free .any ops listed i && (List.range ops.size).all fun j => listed.getD j true || Nat.beq j i || !isG (cls j) || mem (descs ops [i] (fsts l)) j) with
            | false => rw [hcond] at hd; cases hd
            | true =>
              rw [hcond] at hd
              simp only [Bool.and_eq_true, List.contains_eq_mem, decide_eq_true_eq] at hcond
              obtain ⟨⟨hr, hf⟩, hall⟩ := hcond
              obtain ⟨v, σ', hy, hs', hk'⟩ := gop_load hN hs hgo hop hk
              refine wpD_first ho (Region.noSelect_spec hsel) (fun ch a w h => (hQ ch _ _ h).elim) (by rw [hck]; rfl) l.length listed a w hc (Region.free_spec ho hf) (fun _ j oj hj hne hun hcj => ?_) hr (fun h => by rw [hck] at h; cases h) (fun _ => hy) ?_
              · rw [List.all_eq_true] at hall
                have := hall j (List.mem_range.2 (Array.getElem?_eq_some_iff.1 hj).1)
                rw [hun, beq_ne hne, hcj] at this
                simp only [isG, Bool.not_true, Bool.or_false, Bool.false_or] at this
                refine descs_anc (fsts l) [i] (fun k hk => ?_) j this
                unfold mem at hk
                by_cases e : i = k
                · subst e; exact .here
                · rw [beq_ne e] at hk; cases hk
              · exact ih _ m hd hm (hc.set hr) hs' hk' hn
          | g =>
            rw [hck] at hd
            simp only at hd
            have hrd : Region.ready .any ops listed = [i] ∧ drGo ops cls l (listed.setIfInBounds i true) = true := by
              split at hd
              · rename_i j hj
                cases hb : Nat.beq j i with
                | false => rw [hb] at hd; cases hd
                | true => rw [hb] at hd; have := beq_iff.1 hb; subst this; exact ⟨hj, hd⟩
              · cases hd
            obtain ⟨hr, hd⟩ := hrd
            have hmem : i ∈ Region.ready .any ops listed := by rw [hr]; exact List.mem_singleton.2 rfl
            refine ⟨fun h => (by rw [hr] at h; cases h), fun j hj => ?_⟩
            rw [hr] at hj
            have := List.mem_singleton.1 hj
            subst this
            rw [hck]
            have hnext : ∀ σ' a' w', Sat c σ' a' w' → vops T m σ' K → wpD P ops cls Q l.length (listed.setIfInBounds j true) a' w' := fun σ' a' w' hs' hk' => ih _ m hd hm (hc.set hmem) hs' hk' hn
            have hgop := gop_sound (Q := Q) hP hT hN hs hgo hk hnext
            unfold wpOp
            simp only [ho]
            split
            · rename_i hw
              rw [if_pos hw] at hgop
              exact .inl hgop
            · rename_i hw
              rw [if_neg hw] at hgop
              exact hgop
        · cases hg
      · cases hg

theorem Sat.drawn {σ : St} {a : Act} {w : World} (h : Sat c σ a w) : Sat c σ a { w with drawn := w.drawn + 1 } := by
  obtain ⟨h1, h2, h3, S, ρ, F, E, hM, hE⟩ := h
  refine ⟨h1, h2, ⟨h3.os, h3.tape, h3.output, h3.size, h3.block⟩, S, ρ, F, E, ⟨hM.slt, hM.s0, hM.snew, fun r x hr => @RowOK.mono w { w with drawn := w.drawn + 1 } S S (F r) (fun _ h => h) (fun _ _ => rfl) (fun _ _ => rfl) _ _ (hM.row r x hr), hM.blk, hM.esz, hM.dis, hM.pin⟩, @EnvOK.mono c σ.env a.tmps w { w with drawn := w.drawn + 1 } S S ρ E hE (fun _ h => h) fun _ _ => rfl⟩

theorem draw_sound (hmix : P.follows .mixedOrders = true) (hP : TabOK P T) (hT : T.base = c.base) {H : Hint} (hN : H.n = c.N) {ops : Array Oper} {Q : Exit → Act → World → Prop} (hQ : ∀ ch a w, ¬ Q (.panic ch) a w) {perm : List (Nat × Cls)} (hd : drOk ops perm = true)
    {gs : List GOp} (hg : gopsD P H ops perm = some gs) {σ : St} {a : Act} {w : World} (hs : Sat c σ a w) {K : St → Prop} (hk : vops T gs σ K) (hn : ∀ σ' a' w', Sat c σ' a' w' → K σ' → Q .normal a' w') {id : Nat} : (Code.region id ops true).wp P Q a w := by
  unfold drOk at hd
  simp only [Bool.and_eq_true] at hd
  obtain ⟨⟨h1, h2⟩, h3⟩ := hd
  refine wp_region_any hmix ?_
  have := dr_sound hP hT hN h1 hQ perm _ gs h3 hg (fun j o _ hl => by
    rcases Nat.lt_or_ge j ops.size with h | h
    · simp [Array.getD_eq_getD_getElem?, h] at hl
    · simp [Array.getD_eq_getD_getElem?, Nat.not_lt.2 h] at hl) hs.drawn hk hn
  rw [beq_iff.1 h2] at this
  exact wpD_any _ _ _ _ this
end

end Go.Eng
