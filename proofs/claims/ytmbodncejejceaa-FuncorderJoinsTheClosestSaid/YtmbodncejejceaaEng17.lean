/- The engine, part 17: 'vc' is sound. -/
import Derived.Test.YtmbodncejejceaaEng20
set_option linter.all false
namespace Go.Eng

theorem exists_least {p : Nat → Prop} (h : ∃ n, p n) : ∃ n, p n ∧ ∀ m, p m → n ≤ m := by
  obtain ⟨n, hn⟩ := h
  induction n using Nat.strongRecOn with
  | _ n ih =>
    by_cases he : ∃ m, m < n ∧ p m
    · obtain ⟨m, h1, h2⟩ := he; exact ih m h1 h2
    · exact ⟨n, hn, fun m hm => Nat.not_lt.1 fun hlt => he ⟨m, hlt, hm⟩⟩

theorem wp_loop_ix {P : Program} {code : Code} {Q : Exit → Act → World → Prop} {ι : Type} (J : ι → Act → World → Prop) (μ : ι → Nat) {a : Act} {w : World} (h0 : ∃ i, J i a w)
    (round : ∀ i a w, J i a w → code.wp P (Exit.then (fun a' w' => ∃ j, J j a' w' ∧ μ j < μ i) Q) a w) : (Code.loop code).wp P Q a w := by
  have hl : ∀ a w, ∃ n, (∃ i, J i a w) → (∃ i, J i a w ∧ μ i = n) ∧ ∀ i, J i a w → n ≤ μ i := by
    intro a w
    by_cases h : ∃ i, J i a w
    · obtain ⟨n, h1, h2⟩ := exists_least (p := fun n => ∃ i, J i a w ∧ μ i = n) (let ⟨i, hi⟩ := h; ⟨_, i, hi, rfl⟩)
      exact ⟨n, fun _ => ⟨h1, fun i hi => h2 _ ⟨i, hi, rfl⟩⟩⟩
    · exact ⟨0, fun h' => (h h').elim⟩
  refine wp_loop (fun a w => ∃ i, J i a w) (fun a w => (hl a w).choose) h0 fun a w hI => ?_
  obtain ⟨⟨i, hi, e⟩, _⟩ := (hl a w).choose_spec hI
  refine wp_mono (round i a w hi) fun x a' w' hq => ?_
  cases x with
  | normal =>
    obtain ⟨j, hj, hlt⟩ := hq
    refine ⟨⟨j, hj⟩, ?_⟩
    have := ((hl a' w').choose_spec ⟨j, hj⟩).2 j hj
    omega
  | _ => exact hq

/-- The ways out of a piece of code. -/
def QQ (c : Ctx) (kn : St → Prop) (kx : Nat → St → Prop) (kr : St → Prop) : Exit → Act → World → Prop
  | .normal, a, w => ∃ σ, kn σ ∧ Sat c σ a w
  | .exit id, a, w => ∃ σ, kx id σ ∧ Sat c σ a w
  | .ret, a, w => ∃ σ, kr σ ∧ Sat c σ a w
  | _, _, _ => False

section
variable {P : Program} {T : Tab} {c : Ctx} {H : Hint}

theorem then_of {kn kn' : St → Prop} {kx : Nat → St → Prop} {kr : St → Prop} {next : Act → World → Prop} (h : ∀ σ a w, kn' σ → Sat c σ a w → next a w) (x : Exit) (a : Act) (w : World)
    (hq : QQ c kn' kx kr x a w) : Exit.then next (QQ c kn kx kr) x a w := by
  cases x with
  | normal => obtain ⟨σ, h1, h2⟩ := hq; exact h σ a w h1 h2
  | _ => exact hq

theorem reg_sound (hP : TabOK P T) (hT : T.base = c.base) (hN : H.n = c.N) {id : Nat} {ops : Array Oper} {gs : List GOp} (hg : gopsOf P H ops ops.toList = some gs) {σ : St} {a : Act} {w : World} (hs : Sat c σ a w)
    {kn : St → Prop} (ks : List Nat) (h : vops T gs σ fun σ' => kn (σ'.keep ks)) {kx : Nat → St → Prop} {kr : St → Prop} : (Code.region id ops false).wp P (QQ c kn kx kr) a w := by
  obtain ⟨h1, h2⟩ := gopsOf_get hg
  refine wp_region (vops_sound (K := fun σ' => kn (σ'.keep ks)) hP hT hN (List.range ops.size) gs (by rw [List.length_range, ← h1, Array.length_toList]) ?_ hs h ?_)
  · intro k i g hk hgk
    have hlt : k < ops.size := by
      have := (List.getElem?_eq_some_iff.1 hk).1
      simpa using this
    rw [List.getElem?_range hlt] at hk
    simp only [Option.some.injEq] at hk; subst hk
    refine ⟨ops[k], Array.getElem?_eq_getElem hlt, h2 k _ g ?_ hgk⟩
    rw [Array.getElem?_toList, Array.getElem?_eq_getElem hlt]
  · intro σ' a' w' hs' hk
    exact ⟨_, hk, hs'.keep ks⟩

theorem vc_sound (hmix : P.follows .mixedOrders = true) (hP : TabOK P T) (hT : T.base = c.base) (hN : H.n = c.N) (code : Code) : ∀ {σ : St} {kn : St → Prop} {kx : Nat → St → Prop} {kr : St → Prop}, vc T (erase P H code) σ kn kx kr →
    ∀ {a : Act} {w : World}, Sat c σ a w → code.wp P (QQ c kn kx kr) a w := by
  induction code with
  | skip => intro σ kn kx kr h a w hs; exact wp_skip ⟨σ, h, hs⟩
  | region id ops draw =>
    intro σ kn kx kr h a w hs
    cases draw with
    | false =>
      simp only [erase] at h
      split at h
      · rename_i l hl; exact reg_sound hP hT hN hl hs _ h
      · exact h.elim
    | true =>
      simp only [erase] at h
      split at h
      · rename_i perm hp
        cases hd : drOk ops perm with
        | false => rw [hd] at h; exact h.elim
        | true =>
          rw [hd] at h
          simp only [cond_true] at h
          split at h
          · rename_i gs hg
            exact draw_sound hmix hP hT hN (fun ch a w h => h) hd hg hs (K := fun σ' => kn (σ'.keep (H.keep id))) h fun σ' a' w' hs' hk => ⟨_, hk, hs'.keep _⟩
          · exact h.elim
      · exact h.elim
  | seq x y ihx ihy =>
    intro σ kn kx kr h a w hs
    have seq : vc T (.seq (erase P H x) (erase P H y)) σ kn kx kr → (Code.seq x y).wp P (QQ c kn kx kr) a w := by
      intro h
      simp only [vc] at h
      exact wp_seq (wp_mono (ihx h hs) (then_of fun σ' a' w' hk hs' => ihy hk hs'))
    simp only [erase] at h
    split at h
    · rename_i id _
      cases hc : H.cut id with
      | false => rw [hc] at h; exact seq h
      | true =>
        rw [hc] at h
        simp only [cond_true, vc] at h
        obtain ⟨ι, I, C, k1, k2⟩ := h.h
        refine wp_seq (wp_mono (ihx k1 hs) (then_of fun σ' a' w' hk hs' => ?_))
        obtain ⟨j, c1, c2⟩ := hk
        exact ihy (k2 j c1) (cov_sound hT c2 hs')
    · exact seq h
  | cond cnd x y ihx ihy =>
    intro σ kn kx kr h a w hs
    simp only [erase] at h
    split at h
    · rename_i z hz
      simp only [vc] at h
      split at h
      · rename_i t ht
        have hv : a.eval cnd = .bool t.get := by
          obtain ⟨h1, h2, h3, S, ρ, F, E, hM, hE⟩ := hs
          have := ev_sound hE hz ht
          generalize a.eval cnd = u at this
          cases this with
          | d h => cases h with
            | b b => rfl
        rcases bifB_elim h with ⟨e, hp⟩ | ⟨e, hp⟩
        · exact wp_cond_true (by rw [hv, e]) (ihx hp hs)
        · exact wp_cond_false (by rw [hv, e]) (ihy hp hs)
      · exact h.elim
    · exact h.elim
  | block id b ih =>
    intro σ kn kx kr h a w hs
    simp only [erase, vc] at h
    refine wp_block (wp_mono (ih h hs) fun x a' w' hq => ?_)
    cases x with
    | exit j =>
      obtain ⟨σ', h1, h2⟩ := hq
      simp only [Exit.inBlock]
      by_cases e : j = id
      · subst e; rw [if_pos rfl]; rw [Nat.beq_refl] at h1; exact ⟨σ', h1, h2⟩
      · rw [if_neg e]; rw [beq_ne e] at h1; exact ⟨σ', h1, h2⟩
    | _ => exact hq
  | loop b ih =>
    intro σ kn kx kr h a w hs
    simp only [erase, vc] at h
    obtain ⟨ι, I, C, μ, ⟨i, c1, c2⟩, hr⟩ := h.h
    refine wp_loop_ix (fun i a w => C i ∧ Sat c (I i) a w) μ ⟨i, c1, cov_sound hT c2 hs⟩ ?_
    rintro i a w ⟨hC, hS⟩
    refine wp_mono (ih (hr i hC) hS) (then_of fun σ' a' w' hk hs' => ?_)
    obtain ⟨j, d1, d2, d3⟩ := hk
    exact ⟨j, ⟨d1, cov_sound hT d3 hs'⟩, d2⟩
  | exit id => intro σ kn kx kr h a w hs; exact wp_exit ⟨σ, h, hs⟩
  | ret => intro σ kn kx kr h a w hs; exact wp_ret ⟨σ, h, hs⟩
  | _ => intro σ kn kx kr h a w hs; exact h.elim
end

end Go.Eng
