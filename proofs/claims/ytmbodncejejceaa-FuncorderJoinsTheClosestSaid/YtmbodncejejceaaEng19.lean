/- The engine, part 19: pure operations do not ask the memory. -/
import Derived.Test.YtmbodncejejceaaEng16
set_option linter.all false
namespace Go.Eng

section
variable {P : Program} {T : Tab} {c : Ctx} {σ : St} {K : St → AV → Prop} {ro : Oper} {a : Act} {w : World} {S : Nat → Prop} {ρ : Nat → Value} {F : Nat → Nat → Prop} {E : Nat → Nat}

theorem call_pure (hM : Mem c σ.rows w S ρ F E) (hE : EnvOK c σ.env a.tmps w S ρ E) {cl : Call} (hop : ro.op = .call cl) {o : IOp} {one : Bool} (ho : callOf P one cl = some o) (hp : pureOp o = true) (hk : step T o σ K) : PRes P T c σ.rows F K ro a w := by
  unfold callOf at ho
  split at ho
  · rename_i f hc
    split at ho
    · rename_i g xs h1 h2
      simp only [Option.some.injEq] at ho; subst ho
      cases hp
    · rename_i n xs h1 h2
      simp only [Option.some.injEq] at ho; subst ho
      cases hp
    · cases ho
  · cases ho
  · rename_i b hc
    split at ho
    · rename_i x t ha hat
      split at ho
      · rename_i e y ht hx
        simp only [Option.some.injEq] at ho; subst ho
        exact (p_len hM hE hop hc (toArray_of ha) (toArray_of hat) ht hx hk)
      · rename_i y ht hx
        simp only [Option.some.injEq] at ho; subst ho
        exact (p_slen hM hE hop hc (toArray_of ha) (toArray_of hat) ht hx hk)
      · cases ho
    · rename_i x y ha
      split at ho
      · rename_i a' b' h1 h2
        simp only [Option.some.injEq] at ho; subst ho
        exact (p_mm (mx := false) hM hE hop hc (toArray_of ha) h1 h2 hk)
      · cases ho
    · rename_i x y ha
      split at ho
      · rename_i a' b' h1 h2
        simp only [Option.some.injEq] at ho; subst ho
        exact (p_mm (mx := true) hM hE hop hc (toArray_of ha) h1 h2 hk)
      · cases ho
    · rename_i x y t u ha hat
      split at ho
      · rename_i e e' a' b' ht hu h1 h2
        obtain ⟨q, ho1⟩ := bif_some ho
        have hat' : cl.argTypes.toList = [t, t] := by rw [hat, beq_iff.1 q]
        split at ho1
        · rename_i i hi
          split at ho1
          · rename_i z hz
            obtain ⟨q1, ho2⟩ := bif_some ho1
            obtain ⟨q2, ho3⟩ := bif_some ho2
            obtain ⟨q3, ho4⟩ := bif_some ho3
            simp only [Option.some.injEq] at ho4
            cases one with
            | true => simp only [cond_true] at ho4; subst ho4; cases hp
            | false => simp only [cond_false] at ho4; subst ho4; cases hp
          · cases ho1
        · cases ho1
      · cases ho
    · cases ho

theorem step_pure (hT : T.base = c.base) (hM : Mem c σ.rows w S ρ F E) (hE : EnvOK c σ.env a.tmps w S ρ E) {one : Bool} {o : IOp} (ho : opOf P one ro.op = some o) (hp : pureOp o = true) (hk : step T o σ K) : PRes P T c σ.rows F K ro a w := by
  generalize hop : ro.op = op at ho
  cases op with
  | move x => obtain ⟨z, h1, h2⟩ := map_some' ho; subst h2; exact (p_mov hM hE (.inl hop) h1 hk)
  | assign x => obtain ⟨z, h1, h2⟩ := map_some' ho; subst h2; exact (p_mov hM hE (.inr hop) h1 hk)
  | pick oc oa ob =>
    simp only [opOf] at ho
    split at ho
    · rename_i c' a' b' h1 h2 h3
      simp only [Option.some.injEq] at ho; subst ho
      exact (p_pick hM hE hop h1 h2 h3 hk)
    · cases ho
  | alloc t =>
    simp only [opOf] at ho
    split at ho
    · rename_i i hi
      split at ho
      · rename_i z hz
        simp only [Option.some.injEq] at ho; subst ho
        cases hp
      · cases ho
    · cases ho
  | box t x => obtain ⟨z, h1, h2⟩ := map_some' ho; subst h2; cases hp
  | build t ps =>
    have hb : ∃ zs l, o = .build zs l := by
      simp only [opOf] at ho
      split at ho
      · split at ho
        · split at ho
          · simp only [Option.some.injEq] at ho; exact ⟨_, _, ho.symm⟩
          · cases ho
        · cases ho
      · split at ho
        · split at ho
          · simp only [Option.some.injEq] at ho; exact ⟨_, _, ho.symm⟩
          · cases ho
        · cases ho
      · cases ho
    obtain ⟨zs, l, rfl⟩ := hb
    exact (p_build hT hM hE hop ho hk)
  | buildSlice t n ps =>
    simp only [opOf] at ho
    split at ho
    · rename_i e ht
      split at ho
      · rename_i i xs hi hx
        obtain ⟨q1, ho1⟩ := bif_some ho
        obtain ⟨q2, ho2⟩ := bif_some ho1
        obtain ⟨q3, ho3⟩ := bif_some ho2
        split at ho3
        · rename_i z hz
          obtain ⟨q4, ho4⟩ := bif_some ho3
          simp only [Option.some.injEq] at ho4; subst ho4
          cases hp
        · cases ho3
      · cases ho
    · cases ho
  | load t x =>
    simp only [opOf] at ho
    split at ho
    · rename_i g y h1 h2
      simp only [Option.some.injEq] at ho; subst ho
      cases hp
    · cases ho
  | store t x v =>
    simp only [opOf] at ho
    split at ho
    · rename_i i y z h1 h2 h3
      simp only [Option.some.injEq] at ho; subst ho
      cases hp
    · cases ho
  | binOp op t x y yt => exact (bin_sound hM hE hop ho hk)
  | unOp op t x =>
    cases op with
    | not => obtain ⟨z, h1, h2⟩ := map_some' ho; subst h2; exact (p_not hM hE hop h1 hk)
    | neg =>
      simp only [opOf] at ho
      split at ho
      · rename_i k a' h1 h2
        simp only [Option.some.injEq] at ho; subst ho
        exact (p_neg hM hE hop h2 hk)
      · cases ho
    | _ => simp [opOf] at ho
  | convert s t x =>
    simp only [opOf] at ho
    split at ho
    · rename_i j k a' h1 h2 h3
      simp only [Option.some.injEq] at ho; subst ho
      exact (p_conv hM hE hop h1 h2 h3 hk)
    · cases ho
  | makeInterface t x =>
    obtain ⟨q, ho1⟩ := bif_some ho
    simp only [Option.some.injEq] at ho1; subst ho1
    exact (p_mki hM hE hop ⟨_, fun w' => run_makeInterface w' t _ q⟩ hk)
  | makeFunc fn first caps =>
    cases fn with
    | func f =>
      obtain ⟨q, ho1⟩ := bif_some ho
      obtain ⟨z, h1, h2⟩ := map_some' ho1
      subst h2
      have : first = #[] := by simpa using q
      subst this
      exact (p_mkf hM hE hop h1 hk)
    | _ => simp [opOf] at ho
  | makeSlice t l cc =>
    simp only [opOf] at ho
    split at ho
    · rename_i e a' b' ht h1 h2
      split at ho
      · rename_i i hi
        split at ho
        · rename_i z hz
          obtain ⟨q1, ho1⟩ := bif_some ho
          obtain ⟨q2, ho2⟩ := bif_some ho1
          obtain ⟨q3, ho3⟩ := bif_some ho2
          simp only [Option.some.injEq] at ho3; subst ho3
          cases hp
        · cases ho
      · cases ho
    · cases ho
  | slice t x lo hi mx =>
    simp only [opOf] at ho
    split at ho
    · rename_i e a' ht hx
      split at ho
      · rename_i i hi'
        obtain ⟨q1, ho1⟩ := bif_some ho
        cases lo with
        | none => cases hi with
          | none =>
            simp only [Option.some.injEq] at ho1; subst ho1
            exact (p_slc hM hE hop ht hi' hx (lo := none) (hi' := none) rfl rfl rfl rfl hk)
          | some h =>
            obtain ⟨z, h1, h2⟩ := map_some' ho1; subst h2
            exact (p_slc hM hE hop ht hi' hx (lo := none) (hi' := some z) rfl rfl h1 rfl hk)
        | some l => cases hi with
          | none =>
            obtain ⟨z, h1, h2⟩ := map_some' ho1; subst h2
            exact (p_slc hM hE hop ht hi' hx (lo := some z) (hi' := none) h1 rfl rfl rfl hk)
          | some h =>
            simp only at ho1
            split at ho1
            · rename_i z1 z2 h1 h2
              simp only [Option.some.injEq] at ho1; subst ho1
              exact (p_slc hM hE hop ht hi' hx (lo := some z1) (hi' := some z2) h1 rfl h2 rfl hk)
            · cases ho1
      · cases ho
    · cases ho
  | fieldAddr t x q =>
    simp only [opOf] at ho
    split at ho
    · rename_i fs a' ht hx
      split at ho
      · rename_i f hf
        split at ho
        · rename_i i hi
          obtain ⟨q1, ho1⟩ := bif_none ho
          simp only [Option.some.injEq] at ho1; subst ho1
          exact (p_faddr hM hE hop ht hf hi (fun e => by rw [e] at q1; cases q1) hx hk)
        · cases ho
      · cases ho
    · cases ho
  | field t x q =>
    simp only [opOf] at ho
    split at ho
    · rename_i fs a' ht hx
      split at ho
      · rename_i f hf
        obtain ⟨z, h1, h2⟩ := map_some' ho; subst h2
        exact (p_fld hM hE hop ht hf h1 hx hk)
      · cases ho
    · cases ho
  | indexAddr t x ix =>
    simp only [opOf] at ho
    split at ho
    · rename_i e a' j ht hx hj
      split at ho
      · rename_i ie hi
        obtain ⟨q1, ho1⟩ := bif_none ho
        simp only [Option.some.injEq] at ho1; subst ho1
        exact (p_iaddr hM hE hop ht hi hx hj hk)
      · cases ho
    · rename_i n e a' j ht hx hj
      split at ho
      · rename_i ie hi
        obtain ⟨q1, ho1⟩ := bif_none ho
        simp only [Option.some.injEq] at ho1; subst ho1
        exact (p_aaddr hM hE hop ht hi hx hj hk)
      · cases ho
    · cases ho
  | extract x k => obtain ⟨z, h1, h2⟩ := map_some' ho; subst h2; exact (p_ext hM hE hop h1 hk)
  | call cl => exact call_pure hM hE hop ho hp hk
  | panic x => simp only [opOf, Option.some.injEq] at ho; subst ho; exact hk.elim
  | _ => simp [opOf] at ho
end
end Go.Eng
