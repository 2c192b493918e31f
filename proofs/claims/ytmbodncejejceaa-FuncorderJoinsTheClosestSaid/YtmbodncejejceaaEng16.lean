/- The engine, part 16: one state does for another. -/
import Derived.Test.YtmbodncejejceaaEng15
set_option linter.all false
namespace Go.Eng

theorem covDs_get : ∀ {xs ys : List D}, covD.covDs xs ys → xs.length = ys.length ∧ ∀ (j : Nat) (y : D), ys[j]? = some y → ∃ x, xs[j]? = some x ∧ covD x y
  | [], [], _ => ⟨rfl, fun j y h => by simp at h⟩
  | x :: xs, y :: ys, h => by
    simp only [covD.covDs] at h
    obtain ⟨i1, i2⟩ := covDs_get h.2
    refine ⟨by simp [i1], fun j z hz => ?_⟩
    cases j with
    | zero => simp only [List.getElem?_cons_zero, Option.some.injEq] at hz; subst hz; exact ⟨x, rfl, h.1⟩
    | succ j => exact i2 j z (by simpa using hz)
  | [], _ :: _, h => by simp [covD.covDs] at h
  | _ :: _, [], h => by simp [covD.covDs] at h

theorem covD_cases {x y : D} (h : covD x y) : x = y ∨ (∃ k m n, x = .i k m ∧ y = .i k n ∧ m () = n ()) ∨ (∃ a c, x = .b a ∧ y = .b c ∧ a.get = c.get) ∨
    (x = .v (.slice none 0 0) ∧ ∃ (α : Type) (esz : Nat) (cells : Th α → List D) (d0 : α) (xs : Th (List α)), y = .sl esz cells d0 xs ∧ xs () = []) ∨ (∃ xs ys, x = .agg xs ∧ y = .agg ys ∧ covD.covDs xs ys) := by
  unfold covD at h
  split at h
  · rename_i k m k' n
    cases hk : decide (k = k') with
    | false => rw [hk] at h; exact h.elim
    | true => rw [hk] at h; have := of_decide_eq_true hk; subst this; exact .inr (.inl ⟨_, _, _, rfl, rfl, h.h⟩)
  · rename_i a c
    cases hk : a == c with
    | false => rw [hk] at h; exact h.elim
    | true => have := eq_of_beq hk; subst this; exact .inl rfl
  · exact .inr (.inr (.inl ⟨_, _, rfl, rfl, h.h⟩))
  · exact .inl rfl
  · exact .inr (.inr (.inr (.inl ⟨rfl, _, _, _, _, _, rfl, h.h⟩)))
  · exact .inr (.inr (.inr (.inr ⟨_, _, rfl, rfl, h⟩)))
  · exact .inl h.h

theorem covD_sound {w : World} {S : Nat → Prop} {v : Value} {x : D} (hx : RD w S v x) : ∀ {y : D}, covD x y → RD w S v y := by
  induction hx with
  | @agg cs vs hs hrd ih =>
    intro y h
    rcases covD_cases h with rfl | ⟨k, m, n, e, rfl, hm⟩ | ⟨a, c, e, rfl, hm⟩ | ⟨e, _⟩ | ⟨xs, ys, e, rfl, h⟩
    · exact .agg vs hs hrd
    · cases e
    · cases e
    · cases e
    · cases e
      obtain ⟨k1, k2⟩ := covDs_get h
      exact .agg vs (hs.trans k1) fun j d hd => let ⟨x, e1, e2⟩ := k2 j d hd; ih j x e1 e2
  | v u =>
    intro y h
    rcases covD_cases h with rfl | ⟨k, m, n, e, rfl, hm⟩ | ⟨a, c, e, rfl, hm⟩ | ⟨e, _, _, _, _, _, rfl, hm⟩ | ⟨xs, ys, e, rfl, h⟩
    · exact .v _
    · cases e
    · cases e
    · cases e; exact .nilsl none 0 hm
    · cases e
  | i k n =>
    intro y h
    rcases covD_cases h with rfl | ⟨k, m, n, e, rfl, hm⟩ | ⟨a, c, e, rfl, hm⟩ | ⟨e, _⟩ | ⟨xs, ys, e, rfl, h⟩
    · exact .i _ _
    · cases e; rw [hm]; exact .i _ _
    · cases e
    · cases e
    · cases e
  | b b =>
    intro y h
    rcases covD_cases h with rfl | ⟨k, m, n, e, rfl, hm⟩ | ⟨a, c, e, rfl, hm⟩ | ⟨e, _⟩ | ⟨xs, ys, e, rfl, h⟩
    · exact .b _
    · cases e
    · cases e; rw [hm]; exact .b _
    · cases e
    · cases e
  | s x =>
    intro y h
    rcases covD_cases h with rfl | ⟨k, m, n, e, rfl, hm⟩ | ⟨a, c, e, rfl, hm⟩ | ⟨e, _⟩ | ⟨xs, ys, e, rfl, h⟩ <;> first | exact .s _ | cases e
  | nilsl a c hx =>
    intro y h
    rcases covD_cases h with rfl | ⟨k, m, n, e, rfl, hm⟩ | ⟨a, c, e, rfl, hm⟩ | ⟨e, _⟩ | ⟨xs, ys, e, rfl, h⟩ <;> first | exact .nilsl _ _ hx | cases e
  | sl b off n c us hb hn hlen hcell hrd hc _ =>
    intro y h
    rcases covD_cases h with rfl | ⟨k, m, n, e, rfl, hm⟩ | ⟨a, c, e, rfl, hm⟩ | ⟨e, _⟩ | ⟨xs, ys, e, rfl, h⟩ <;> first | exact .sl b off n c us hb hn hlen hcell hrd hc | cases e
  | box b us hb hcell hrd _ =>
    intro y h
    rcases covD_cases h with rfl | ⟨k, m, n, e, rfl, hm⟩ | ⟨a, c, e, rfl, hm⟩ | ⟨e, _⟩ | ⟨xs, ys, e, rfl, h⟩ <;> first | exact .box b us hb hcell hrd | cases e
  | fn vs hs hrd _ =>
    intro y h
    rcases covD_cases h with rfl | ⟨k, m, n, e, rfl, hm⟩ | ⟨a, c, e, rfl, hm⟩ | ⟨e, _⟩ | ⟨xs, ys, e, rfl, h⟩ <;> first | exact .fn vs hs hrd | cases e

theorem covRow_sound {w : World} {S G : Nat → Prop} {v : Value} {x y : Row} (hx : RowOK w S G v x) (h : covRow x y) : RowOK w S G v y := by
  unfold covRow at h
  split at h
  · cases hx with
    | box g ty cur hg hc hrd =>
      obtain ⟨k1, k2⟩ := covDs_get h
      exact .box g ty cur hg (hc.trans k1) fun j d hd => let ⟨z, e1, e2⟩ := k2 j d hd; covD_sound (hrd j z e1) e2
  · cases h with
    | same => exact hx
theorem covRow_esz {x y : Row} (h : covRow x y) : ∀ s ys, y = .sl s ys → ∃ xs, x = .sl s xs := by
  rintro s ys rfl
  unfold covRow at h
  split at h
  · rename_i e; cases e
  · cases h with
    | same => exact ⟨_, rfl⟩

section
variable {T : Tab} {c : Ctx}

theorem covRows_get {σ : St} : ∀ {rs : List (Nat × Row)}, covRows T σ rs → ∀ {r : Nat} {x : Row}, lkp rs r = some x →
    (∃ y, lkp σ.rows r = some y ∧ covRow y x) ∨ (lkp σ.rows r = none ∧ T.base ≤ r ∧ ∃ s xs, x = .sl s xs ∧ xs () = [])
  | [], _, r, x, h => by simp [lkp] at h
  | (q, z) :: rs, hc, r, x, h => by
    simp only [covRows] at hc
    by_cases e : q = r
    · subst e
      rw [lkp_cons_same] at h; simp only [Option.some.injEq] at h; subst h
      split at hc
      · rename_i y hy; exact .inl ⟨y, hy, hc.1⟩
      · rename_i hy
        split at hc
        · rename_i s xs
          cases hb : Nat.blt q T.base with
          | true => rw [hb] at hc; exact hc.elim
          | false =>
            rw [hb] at hc
            refine .inr ⟨hy, ?_, s, xs, rfl, hc.1.h⟩
            exact Nat.not_lt.1 fun hlt => by rw [show Nat.blt q T.base = true by rw [Nat.blt_eq]; exact hlt] at hb; cases hb
        · exact hc.elim
    · rw [lkp_cons_ne _ _ e] at h
      have : covRows T σ rs := by
        split at hc
        · exact hc.2
        · split at hc
          · cases hb : Nat.blt q T.base with
            | true => rw [hb] at hc; exact hc.elim
            | false => rw [hb] at hc; exact hc.2
          · exact hc.elim
      exact covRows_get this h

theorem covEnv_get {σ τ : St} : ∀ {l : List (Nat × AV)}, covEnv σ τ l → ∀ {s : Nat} {v : AV}, (s, v) ∈ l → ∃ u, lkp σ.env s = some u ∧ covA σ τ u v
  | (q, z) :: l, hc, s, v, h => by
    simp only [covEnv] at hc
    split at hc
    · rename_i u hu
      simp only [List.mem_cons, Prod.mk.injEq] at h
      rcases h with ⟨rfl, rfl⟩ | h
      · exact ⟨u, hu, hc.1⟩
      · exact covEnv_get hc.2 h
    · exact hc.elim
  | [], _, _, _, h => by simp at h

/-- A row of τ that σ has not: it is a nil slice. -/
def newRow (σ τ : St) (r : Nat) : Prop := lkp σ.rows r = none ∧ ∃ x, lkp τ.rows r = some x
open Classical in
noncomputable def ρn (σ τ : St) (ρ : Nat → Value) (r : Nat) : Value := if newRow σ τ r then .slice none 0 0 else ρ r
open Classical in
noncomputable def Fn' (σ τ : St) (F : Nat → Nat → Prop) (r : Nat) : Nat → Prop := if newRow σ τ r then fun _ => False else F r
def Row.esz' : Row → Nat
  | .sl s _ => s.esz
  | .box _ => 0
open Classical in
noncomputable def En' (σ τ : St) (E : Nat → Nat) (r : Nat) : Nat := if newRow σ τ r then (match lkp τ.rows r with | some x => x.esz' | none => 0) else E r

theorem not_new {σ τ : St} {r : Nat} {y : Row} (h : lkp σ.rows r = some y) : ¬ newRow σ τ r := fun hn => by rw [hn.1] at h; cases h

theorem VOK.live {w : World} {S : Nat → Prop} {ρ ρ' : Nat → Value} {E E' : Nat → Nat} {σ : St} (hρ : ∀ q, (lkp σ.rows q).isSome = true → ρ' q = ρ q) (hE : ∀ q, (lkp σ.rows q).isSome = true → E' q = E q) {v : Value} {x : AV}
    (h : VOK w S ρ E v x) : (∀ r, x.hits r = true → (lkp σ.rows r).isSome = true) → VOK w S ρ' E' v x := by
  induction h with
  | un => exact fun _ => .un
  | any v => exact fun _ => .any v
  | d h => exact fun _ => .d h
  | own q => intro hh; rw [← hρ q (hh q (by simp [AV.hits, Nat.beq_refl]))]; exact .own q
  | bptr q off g h => intro hh; exact .bptr q off g ((hρ q (hh q (by simp [AV.hits, Nat.beq_refl]))).trans h)
  | eptr q i off g n c h h0 h1 =>
    intro hh
    have := hh q (by simp [AV.hits, Nat.beq_refl])
    rw [← hE q this]
    exact .eptr q i off g n c ((hρ q this).trans h) h0 h1
  | dptr i off b o n c h h0 h1 => exact fun _ => .dptr i off b o n c h h0 h1
  | pptr off b h => exact fun _ => .pptr off b h
  | fn vs h _ ih => exact fun hh => .fn vs h fun j x hx => ih j x hx fun r hr => hh r (by simp only [AV.hits]; exact hitsL_get hx hr)
  | tup vs h _ ih => exact fun hh => .tup vs h fun j x hx => ih j x hx fun r hr => hh r (by simp only [AV.hits]; exact hitsL_get hx hr)

theorem cov_sound (hT : T.base = c.base) {σ τ : St} (h : cov T σ τ) {a : Act} {w : World} (hs : Sat c σ a w) : Sat c τ a w := by
  obtain ⟨h1, h2, h3, S, ρ, F, E, hM, hE⟩ := hs
  obtain ⟨hr, he⟩ := h
  have hold : ∀ q, (lkp σ.rows q).isSome = true → ρn σ τ ρ q = ρ q := fun q hq => by
    obtain ⟨y, hy⟩ := Option.isSome_iff_exists.1 hq
    unfold ρn; rw [if_neg (not_new hy)]
  have holdE : ∀ q, (lkp σ.rows q).isSome = true → En' σ τ E q = E q := fun q hq => by
    obtain ⟨y, hy⟩ := Option.isSome_iff_exists.1 hq
    unfold En'; rw [if_neg (not_new hy)]
  refine ⟨h1, h2, h3, S, ρn σ τ ρ, Fn' σ τ F, En' σ τ E, ⟨hM.slt, hM.s0, hM.snew, ?_, ?_, ?_, ?_, ?_⟩, ?_⟩
  · intro r x hx
    rcases covRows_get hr hx with ⟨y, hy, hc⟩ | ⟨hy, _, s, xs, rfl, hxs⟩
    · unfold ρn Fn'; rw [if_neg (not_new hy), if_neg (not_new hy)]
      exact covRow_sound (hM.row r y hy) hc
    · have hn : newRow σ τ r := ⟨hy, _, hx⟩
      unfold ρn Fn'; rw [if_pos hn, if_pos hn]
      exact .nil hxs
  · intro r x hx b hb
    rcases covRows_get hr hx with ⟨y, hy, hc⟩ | ⟨hy, _, s, xs, rfl, hxs⟩
    · unfold Fn' at hb; rw [if_neg (not_new hy)] at hb
      exact hM.blk r y hy b hb
    · have hn : newRow σ τ r := ⟨hy, _, hx⟩
      unfold Fn' at hb; rw [if_pos hn] at hb; exact hb.elim
  · intro r s xs hx
    rcases covRows_get hr hx with ⟨y, hy, hc⟩ | ⟨hy, _, s', xs', e, hxs⟩
    · obtain ⟨ys, rfl⟩ := covRow_esz hc s xs rfl
      unfold En'; rw [if_neg (not_new hy)]
      exact hM.esz r s ys hy
    · have hn : newRow σ τ r := ⟨hy, _, hx⟩
      unfold En'; rw [if_pos hn, hx]; rfl
  · intro r q x y hne hx hy b hb hb'
    rcases covRows_get hr hx with ⟨x', hx', _⟩ | ⟨hx', _, _⟩
    · rcases covRows_get hr hy with ⟨y', hy', _⟩ | ⟨hy', _, _⟩
      · unfold Fn' at hb hb'; rw [if_neg (not_new hx')] at hb; rw [if_neg (not_new hy')] at hb'
        exact hM.dis r q x' y' hne hx' hy' b hb hb'
      · unfold Fn' at hb'; rw [if_pos ⟨hy', _, hy⟩] at hb'; exact hb'
    · unfold Fn' at hb; rw [if_pos ⟨hx', _, hx⟩] at hb; exact hb
  · intro r x hlt hx
    rcases covRows_get hr hx with ⟨y, hy, hc⟩ | ⟨hy, hb, _⟩
    · unfold ρn Fn'; rw [if_neg (not_new hy), if_neg (not_new hy)]
      exact hM.pin r y hlt hy
    · exact absurd hlt (Nat.not_lt.2 (hT ▸ hb))
  · intro s v hm
    obtain ⟨u, hu, hc⟩ := covEnv_get he hm
    obtain ⟨k1, k2⟩ := hE _ _ (lkp_mem hu)
    refine ⟨k1, ?_⟩
    generalize a.tmps.getD s undef = z at k2
    unfold covA at hc
    split at hc
    · rename_i r q
      cases hb : Nat.beq r q with
      | false => rw [hb] at hc; exact hc.elim
      | true =>
        have := beq_iff.1 hb; subst this
        rw [hb] at hc
        split at hc
        · rename_i x hx
          refine k2.live hold holdE fun q hq => ?_
          simp only [AV.hits] at hq
          have := beq_iff.1 hq; subst this
          rw [hx]; rfl
        · exact hc.elim
    · rename_i q
      split at hc
      · rename_i s xs h1 h2
        cases k2 with
        | d h => cases h with
          | v =>
            have hn : newRow σ τ q := ⟨h2, _, h1⟩
            have : Value.slice none 0 0 = ρn σ τ ρ q := by unfold ρn; rw [if_pos hn]
            rw [this]; exact .own q
      · exact hc.elim
    · cases k2 with
      | d h => exact .d (covD_sound h hc)
    · rename_i r o q p
      cases hb : Nat.beq r q with
      | false => rw [hb] at hc; exact hc.elim
      | true =>
        have := beq_iff.1 hb; subst this
        rw [hb] at hc
        cases hb' : Nat.beq o p with
        | false => rw [hb'] at hc; exact hc.elim
        | true =>
          have := beq_iff.1 hb'; subst this
          rw [hb'] at hc
          simp only [cond_true] at hc
          split at hc
          · rename_i x hx
            refine k2.live hold holdE fun q hq => ?_
            simp only [AV.hits] at hq
            have := beq_iff.1 hq; subst this
            rw [hx]; rfl
          · exact hc.elim
    · exact .any _
    · rw [← hc.h]; exact k2.live hold holdE fun r hr => hc.live r (by rw [← hc.h]; exact hr)
end

end Go.Eng
