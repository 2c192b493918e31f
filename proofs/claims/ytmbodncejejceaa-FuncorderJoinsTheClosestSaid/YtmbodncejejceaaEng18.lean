/- The engine, part 18: from 'vc' to the contract of a function. -/
import Derived.Test.YtmbodncejejceaaEng17
set_option linter.all false
namespace Go.Eng

inductive RV
  | tmp (t : Nat)
  | cell (t : Nat) (ag : Option Nat)

def rvOf (P : Program) : ResultVar → Option RV
  | .tmp t => some (.tmp t)
  | .cell t ty => (aggOf P ty).map (.cell t)
def rvsOf (P : Program) : List ResultVar → Option (List RV)
  | [] => some []
  | x :: l => match rvOf P x, rvsOf P l with
    | some y, some m => some (y :: m)
    | _, _ => none

/-- The results that the slots and cells hold. -/
def fins (T : Tab) : List RV → List Res → St → (St → Prop) → Prop
  | [], [], σ, K => K σ
  | .tmp t :: rvs, .d x :: rs, σ, K => match lkp σ.env t with
    | some v => asD T σ v fun σ' y => covD y x ∧ fins T rvs rs σ' K
    | none => False
  | .tmp t :: rvs, .row x :: rs, σ, K => match lkp σ.env t with
    | some (.own r) => bif Nat.blt r T.base then False else match lkp σ.rows r with
      | some y => covRow y x ∧ fins T rvs rs ⟨dropHits r σ.env, del σ.rows r⟩ K
      | none => False
    | some (.d (.v (.slice none 0 0))) => match x with
      | .sl _ xs => Side (fun _ => xs () = []) ∧ fins T rvs rs σ K
      | _ => False
    | _ => False
  | .cell t ag :: rvs, .d x :: rs, σ, K => match lkp σ.env t with
    | some a => match cellsAt σ a with
      | some ds => partsOf ag ds fun y => covD y x ∧ fins T rvs rs σ K
      | none => False
    | none => False
  | _, _, _, _ => False

structure ShEq (x y : Row) : Prop where
  h : ∀ s ys, y = .sl s ys → ∃ xs, x = .sl s xs
theorem ShEq.sl {s : Sh} {xs ys : Th (List s.α)} : ShEq (.sl s xs) (.sl s ys) := ⟨fun _ _ h => by cases h; exact ⟨_, rfl⟩⟩
theorem ShEq.box {xs ys : List D} : ShEq (.box xs) (.box ys) := ⟨fun _ _ h => by cases h⟩

/-- The rows that were handed in, at the end. -/
def finP (σ : St) : Nat → List Arg → List Row → Prop
  | _, [], [] => True
  | r, .d _ :: as, xs => finP σ r as xs
  | r, .row x :: as, y :: xs => match lkp σ.rows r with
    | some z => covRow z y ∧ ShEq x y ∧ finP σ (r + 1) as xs
    | none => False
  | _, _, _ => False

def fin (T : Tab) (rvs : List RV) (as : List Arg) (R : Res) (xs : List Row) (σ : St) : Prop := match rvs with
  | [rv] => fins T [rv] [R] σ fun σ => finP σ 0 as xs
  | _ => match R with
    | .tup l => fins T rvs l σ fun σ => finP σ 0 as xs
    | _ => False

def argAV : D → AV
  | .box cs => .pptr cs 0
  | x => .d x
def rowAV (r : Nat) : Row → AV
  | .sl _ _ => .own r
  | .box _ => .bptr r 0
def env0 : Nat → Nat → List Arg → List (Nat × AV)
  | _, _, [] => []
  | i, r, .d x :: as => (i, argAV x) :: env0 (i + 1) r as
  | i, r, .row x :: as => (i, rowAV r x) :: env0 (i + 1) (r + 1) as
  | i, r, .take _ :: as => env0 (i + 1) (r + 1) as
def rows0 : Nat → List Arg → List (Nat × Row)
  | _, [] => []
  | r, .d _ :: as => rows0 r as
  | r, .row x :: as => (r, x) :: rows0 (r + 1) as
  | r, .take _ :: as => rows0 (r + 1) as
def nrows : List Arg → Nat
  | [] => 0
  | .d _ :: as => nrows as
  | .row _ :: as => nrows as + 1
  | .take _ :: as => nrows as + 1
def noTake : List Arg → Bool
  | [] => true
  | .take _ :: _ => false
  | _ :: as => noTake as
def rowVals : List Arg → List Value → List Value
  | .d _ :: as, _ :: vs => rowVals as vs
  | .row _ :: as, v :: vs => v :: rowVals as vs
  | .take _ :: as, v :: vs => v :: rowVals as vs
  | _, _ => []

def Ff (Fs : List (Nat → Prop)) (k : Nat) : Nat → Prop := fun b => ∃ G, Fs[k]? = some G ∧ G b

theorem args_len {w : World} {S : Nat → Prop} {as : List Arg} {vs : List Value} {Fs : List (Nat → Prop)} (h : ArgsOK w S as vs Fs) : as.length = vs.length ∧ nrows as = Fs.length := by
  induction h with
  | nil => exact ⟨rfl, rfl⟩
  | d _ _ ih => exact ⟨by simp [ih.1], by simp [nrows, ih.2]⟩
  | row _ _ _ _ ih => exact ⟨by simp [ih.1], by simp [nrows, ih.2]⟩
  | take _ _ _ _ ih => exact ⟨by simp [ih.1], by simp [nrows, ih.2]⟩

theorem rows0_ge : ∀ {as : List Arg} {r0 r : Nat} {x : Row}, lkp (rows0 r0 as) r = some x → r0 ≤ r
  | [], _, _, _, h => by simp [rows0, lkp] at h
  | .d _ :: as, r0, r, x, h => rows0_ge (as := as) h
  | .row y :: as, r0, r, x, h => by
    simp only [rows0] at h
    by_cases e : r0 = r
    · omega
    · rw [lkp_cons_ne _ _ e] at h; have := rows0_ge h; omega
  | .take y :: as, r0, r, x, h => by have := rows0_ge (as := as) (r0 := r0 + 1) h; omega

theorem init_rows {w : World} {S : Nat → Prop} {as : List Arg} {vs : List Value} {Fs : List (Nat → Prop)} (h : ArgsOK w S as vs Fs) : ∀ {r0 r : Nat} {x : Row}, lkp (rows0 r0 as) r = some x →
    ∃ G, Fs[r - r0]? = some G ∧ RowOK w S G ((rowVals as vs).getD (r - r0) undef) x ∧ ∀ b, G b → b < w.heap.size ∧ ¬ S b := by
  induction h with
  | nil => intro r0 r x h; simp [rows0, lkp] at h
  | d _ _ ih => intro r0 r x h; exact ih h
  | row hr hG hd _ ih =>
    intro r0 r x h
    simp only [rows0] at h
    by_cases e : r0 = r
    · subst e
      rw [lkp_cons_same] at h; simp only [Option.some.injEq] at h; subst h
      rw [Nat.sub_self]
      exact ⟨_, rfl, hr, hG⟩
    · rw [lkp_cons_ne _ _ e] at h
      have := rows0_ge h
      obtain ⟨G, e1, e2, e3⟩ := ih h
      have hs : r - r0 = (r - (r0 + 1)) + 1 := by omega
      rw [hs]
      exact ⟨G, by simpa using e1, by simpa [rowVals] using e2, e3⟩
  | take hr hG hd _ ih =>
    intro r0 r x h
    simp only [rows0] at h
    have := rows0_ge h
    obtain ⟨G, e1, e2, e3⟩ := ih h
    have hs : r - r0 = (r - (r0 + 1)) + 1 := by omega
    rw [hs]
    exact ⟨G, by simpa using e1, by simpa [rowVals] using e2, e3⟩

theorem init_dis {w : World} {S : Nat → Prop} {as : List Arg} {vs : List Value} {Fs : List (Nat → Prop)} (h : ArgsOK w S as vs Fs) : ∀ (i j : Nat) (G H : Nat → Prop), i < j → Fs[i]? = some G → Fs[j]? = some H → ∀ b, G b → ¬ H b := by
  have cons : ∀ {G0 : Nat → Prop} {Fs : List (Nat → Prop)}, (∀ H ∈ Fs, ∀ b, G0 b → ¬ H b) → (∀ (i j : Nat) (G H : Nat → Prop), i < j → Fs[i]? = some G → Fs[j]? = some H → ∀ b, G b → ¬ H b) →
      ∀ (i j : Nat) (G H : Nat → Prop), i < j → (G0 :: Fs)[i]? = some G → (G0 :: Fs)[j]? = some H → ∀ b, G b → ¬ H b := by
    intro G0 Fs hd ih i j G H hij hG hH
    cases j with
    | zero => omega
    | succ j =>
      simp only [List.getElem?_cons_succ] at hH
      cases i with
      | zero => simp only [List.getElem?_cons_zero, Option.some.injEq] at hG; subst hG; exact hd H (List.mem_of_getElem? hH)
      | succ i => exact ih i j G H (by omega) (by simpa using hG) hH
  induction h with
  | nil => intro i j G H _ h; simp at h
  | d _ _ ih => exact ih
  | row _ _ hd _ ih => exact cons hd ih
  | take _ _ hd _ ih => exact cons hd ih

theorem init_env {w : World} {S : Nat → Prop} {as : List Arg} {vs : List Value} {Fs : List (Nat → Prop)} (h : ArgsOK w S as vs Fs) {ρ : Nat → Value} {E : Nat → Nat} : ∀ {i r0 : Nat}, (∀ k, ρ (r0 + k) = (rowVals as vs).getD k undef) →
    ∀ s v, (s, v) ∈ env0 i r0 as → i ≤ s ∧ s < i + as.length ∧ VOK w S ρ E (vs.getD (s - i) undef) v := by
  have nx : ∀ {i s : Nat} {v : Value} {vs : List Value}, i + 1 ≤ s → (v :: vs).getD (s - i) undef = vs.getD (s - (i + 1)) undef := by
    intro i s v vs h
    have : s - i = (s - (i + 1)) + 1 := by omega
    rw [this]; simp
  induction h with
  | nil => intro i r0 _ s v h; simp [env0] at h
  | @d x u as vs Fs h _ ih =>
    intro i r0 hρ s v hm
    simp only [env0, List.mem_cons, Prod.mk.injEq] at hm
    rcases hm with ⟨rfl, rfl⟩ | hm
    · refine ⟨Nat.le_refl _, by simp, ?_⟩
      rw [Nat.sub_self]
      simp only [List.getD_cons_zero]
      unfold argAV
      split
      · cases h with
        | box b us hb hcell hrd => exact .pptr 0 b (.box b us hb hcell hrd)
      · exact .d h
    · obtain ⟨h1, h2, h3⟩ := ih (i := i + 1) (r0 := r0) hρ s v hm
      exact ⟨by omega, by simp only [List.length_cons]; omega, by rw [nx h1]; exact h3⟩
  | @row x G u as vs Fs h hG hd _ ih =>
    intro i r0 hρ s v hm
    simp only [env0, List.mem_cons, Prod.mk.injEq] at hm
    rcases hm with ⟨rfl, rfl⟩ | hm
    · refine ⟨Nat.le_refl _, by simp, ?_⟩
      rw [Nat.sub_self]
      simp only [List.getD_cons_zero]
      have hr := hρ 0
      simp only [Nat.add_zero, rowVals, List.getD_cons_zero] at hr
      cases x with
      | sl s xs => simp only [rowAV]; rw [← hr]; exact .own r0
      | box cs =>
        cases h with
        | box g ty cur hg hc hrd => exact .bptr r0 0 g hr
    · obtain ⟨h1, h2, h3⟩ := ih (i := i + 1) (r0 := r0 + 1) (fun k => by have := hρ (k + 1); rw [show r0 + 1 + k = r0 + (k + 1) by omega, this]; simp [rowVals]) s v hm
      exact ⟨by omega, by simp only [List.length_cons]; omega, by rw [nx h1]; exact h3⟩
  | @take x G u as vs Fs h hG hd _ ih =>
    intro i r0 hρ s v hm
    simp only [env0] at hm
    obtain ⟨h1, h2, h3⟩ := ih (i := i + 1) (r0 := r0 + 1) (fun k => by have := hρ (k + 1); rw [show r0 + 1 + k = r0 + (k + 1) by omega, this]; simp [rowVals]) s v hm
    exact ⟨by omega, by simp only [List.length_cons]; omega, by rw [nx h1]; exact h3⟩

/-! ### Results -/

def resOne (tmps : Array Value) : ResultVar → Sem Value
  | .tmp t => pure (tmps.getD t undef)
  | .cell a t => do loadVar t (← asAddr (tmps.getD a undef))

theorem run_mapM {P : Program} {α : Type} (f : α → Sem Value) (w : World) : ∀ (l : List α) (us : List Value), l.length = us.length → (∀ (k : Nat) (x : α) (u : Value), l[k]? = some x → us[k]? = some u → (f x).run P w = .ok u w) →
    (l.mapM f).run P w = .ok us w
  | [], [], _, _ => by simp
  | x :: l, u :: us, hl, h => by
    have h0 := h 0 x u rfl rfl
    have ih := run_mapM (P := P) f w l us (by simpa using hl) fun k x u h1 h2 => h (k + 1) x u (by simpa using h1) (by simpa using h2)
    simp [List.mapM_cons, h0, ih]
  | [], _ :: _, hl, _ => by simp at hl
  | _ :: _, [], hl, _ => by simp at hl

section
variable {P : Program} {T : Tab} {c : Ctx} {w : World} {ρ : Nat → Value} {F : Nat → Nat → Prop} {E : Nat → Nat}

theorem fins_sound (hT : T.base = c.base) {t : Array Value} : ∀ (rvs : List ResultVar) {rvs' : List RV}, rvsOf P rvs = some rvs' → ∀ {rs : List Res} {σ : St} {S G0 : Nat → Prop} {K : St → Prop}, fins T rvs' rs σ K → Mem c σ.rows w S ρ F E → EnvOK c σ.env t w S ρ E →
    (∀ b, G0 b → ¬ S b) → (∀ r x, lkp σ.rows r = some x → ∀ b, F r b → ¬ G0 b) →
    ∃ us S' H σ', us.length = rvs.length ∧ (∀ (k : Nat) (x : ResultVar) (u : Value), rvs[k]? = some x → us[k]? = some u → (resOne t x).run P w = .ok u w) ∧ K σ' ∧ Mem c σ'.rows w S' ρ F E ∧ (∀ b, S b → S' b) ∧ ResL w S' us rs H ∧
      (∀ b, H b → b < w.heap.size ∧ ¬ S' b ∧ c.w0.heap.size ≤ b) ∧ ∀ b, G0 b → ¬ S' b ∧ ¬ H b := by
  intro rvs
  induction rvs with
  | nil =>
    intro rvs' hr rs σ S G0 K h hM hE hG hF
    simp only [rvsOf, Option.some.injEq] at hr; subst hr
    cases rs with
    | nil => exact ⟨[], S, fun _ => False, σ, rfl, fun k x u h => by simp at h, h, hM, fun _ h => h, .nil, fun _ h => h.elim, fun b hb => ⟨hG b hb, id⟩⟩
    | cons r rs => exact h.elim
  | cons rv rvs ih =>
    intro rvs' hr rs σ S G0 K h hM hE hG hF
    simp only [rvsOf] at hr
    split at hr
    · rename_i y m h1 h2
      simp only [Option.some.injEq] at hr; subst hr
      -- the rest, behind a first result that reads as data
      have dat : ∀ {σ1 : St} {S1 : Nat → Prop} {x : D} {rs : List Res} {u : Value}, (resOne t rv).run P w = .ok u w → RD w S1 u x → (∀ b, S b → S1 b) → Mem c σ1.rows w S1 ρ F E → EnvOK c σ1.env t w S1 ρ E → (∀ b, G0 b → ¬ S1 b) →
          (∀ r x, lkp σ1.rows r = some x → ∀ b, F r b → ¬ G0 b) → fins T m rs σ1 K → ∃ us S' H σ', us.length = (rv :: rvs).length ∧ (∀ (k : Nat) (x : ResultVar) (u : Value), (rv :: rvs)[k]? = some x → us[k]? = some u → (resOne t x).run P w = .ok u w) ∧ K σ' ∧ Mem c σ'.rows w S' ρ F E ∧ (∀ b, S b → S' b) ∧ ResL w S' us (.d x :: rs) H ∧
            (∀ b, H b → b < w.heap.size ∧ ¬ S' b ∧ c.w0.heap.size ≤ b) ∧ ∀ b, G0 b → ¬ S' b ∧ ¬ H b := by
        intro σ1 S1 x rs u hu hrd hS hM1 hE1 hG1 hF1 hf
        obtain ⟨us, S', H, σ', e1, e2, e3, e4, e5, e6, e7, e8⟩ := ih h2 hf hM1 hE1 hG1 hF1
        refine ⟨u :: us, S', H, σ', by simp [e1], fun k z v hk hv => ?_, e3, e4, fun b hb => e5 b (hS b hb), .d (hrd.mono e5 fun _ _ => rfl) e6, e7, e8⟩
        cases k with
        | zero => simp only [List.getElem?_cons_zero, Option.some.injEq] at hk hv; subst hk hv; exact hu
        | succ k => exact e2 k z v (by simpa using hk) (by simpa using hv)
      cases rv with
      | tmp q =>
        simp only [rvOf, Option.some.injEq] at h1; subst h1
        have hu : (resOne t (.tmp q)).run P w = .ok (t.getD q undef) w := by simp [resOne]
        cases rs with
        | nil => exact h.elim
        | cons r rs =>
          cases r with
          | tup l => exact h.elim
          | d x =>
            simp only [fins] at h
            split at h
            · rename_i v hv
              have hvok := hE.lkp hv
              unfold asD at h
              split at h
              · generalize t.getD q undef = z at hvok hu
                cases hvok with
                | d hd => exact dat hu (covD_sound hd h.1) (fun _ h => h) hM hE hG hF h.2
              · rename_i r
                cases hb : Nat.blt r T.base with
                | true => rw [hb] at h; exact h.elim
                | false =>
                  rw [hb] at h
                  simp only [cond_false] at h
                  split at h
                  · rename_i s xs hr'
                    have hge : c.base ≤ r := by
                      rw [← hT]; exact Nat.not_lt.1 fun hlt => by rw [show Nat.blt r T.base = true by rw [Nat.blt_eq]; exact hlt] at hb; cases hb
                    obtain ⟨f1, f2, f3⟩ := freeze_sound hM hE hr' hge
                    have hval : t.getD q undef = ρ r := by generalize t.getD q undef = z at hvok; cases hvok; rfl
                    rw [hval] at hu
                    refine dat hu (covD_sound f3 h.1) (fun _ h => .inl h) f1 f2 (fun b hb hs => ?_) (fun r' x' hx' => hF r' x' (lkp_del_some hx')) h.2
                    rcases hs with hs | hs
                    · exact hG b hb hs
                    · exact hF r _ hr' b hs hb
                  · exact h.elim
              · exact h.elim
            · exact h.elim
          | row x =>
            simp only [fins] at h
            split at h
            · rename_i r hv
              have hvok := hE.lkp hv
              cases hb : Nat.blt r T.base with
              | true => rw [hb] at h; exact h.elim
              | false =>
                rw [hb] at h
                simp only [cond_false] at h
                split at h
                · rename_i z hr'
                  have hge : c.base ≤ r := by
                    rw [← hT]; exact Nat.not_lt.1 fun hlt => by rw [show Nat.blt r T.base = true by rw [Nat.blt_eq]; exact hlt] at hb; cases hb
                  have hval : t.getD q undef = ρ r := by generalize t.getD q undef = z at hvok; cases hvok; rfl
                  rw [hval] at hu
                  have hblk := hM.blk r z hr'
                  obtain ⟨us, S', H, σ', e1, e2, e3, e4, e5, e6, e7, e8⟩ := ih h2 (G0 := fun b => G0 b ∨ F r b) h.2 (hM.drop r) (hE.sub fun s v hm => (mem_dropHits hm).1)
                    (fun b hb hs => hb.elim (fun hb => hG b hb hs) fun hb => (hblk b hb).2.1 hs)
                    (fun r' x' hx' b hb hg => by
                      rcases hg with hg | hg
                      · exact hF r' x' (lkp_del_some hx') b hb hg
                      · have hne : r' ≠ r := by rintro rfl; rw [lkp_del_same] at hx'; cases hx'
                        exact hM.dis r' r x' z hne (lkp_del_some hx') hr' b hb hg)
                  refine ⟨ρ r :: us, S', fun b => F r b ∨ H b, σ', by simp [e1], fun k z v hk hv => ?_, e3, e4, e5, .row ((covRow_sound (hM.row r z hr') h.1).mono e5 (fun _ _ => rfl) fun _ _ => rfl) (fun b hb => (e8 b (.inr hb)).2) e6, ?_, ?_⟩
                  · cases k with
                    | zero => simp only [List.getElem?_cons_zero, Option.some.injEq] at hk hv; subst hk hv; exact hu
                    | succ k => exact e2 k z v (by simpa using hk) (by simpa using hv)
                  · rintro b (hb | hb)
                    · exact ⟨(hblk b hb).1, (e8 b (.inr hb)).1, (hblk b hb).2.2 hge⟩
                    · exact e7 b hb
                  · intro b hb
                    refine ⟨(e8 b (.inl hb)).1, ?_⟩
                    rintro (h | h)
                    · exact hF r z hr' b h hb
                    · exact (e8 b (.inl hb)).2 h
                · exact h.elim
            · rename_i hv
              have hvok := hE.lkp hv
              split at h
              · rename_i s xs
                have hval : t.getD q undef = .slice none 0 0 := by
                  generalize t.getD q undef = z at hvok
                  cases hvok with
                  | d h => cases h; rfl
                rw [hval] at hu
                obtain ⟨us, S', H, σ', e1, e2, e3, e4, e5, e6, e7, e8⟩ := ih h2 (G0 := G0) h.2 hM hE hG hF
                refine ⟨.slice none 0 0 :: us, S', fun b => False ∨ H b, σ', by simp [e1], fun k z v hk hv => ?_, e3, e4, e5, .row (.nil h.1.h) (fun _ h => h.elim) e6, fun b hb => e7 b (hb.resolve_left id), fun b hb => ⟨(e8 b hb).1, fun h => (e8 b hb).2 (h.resolve_left id)⟩⟩
                cases k with
                | zero => simp only [List.getElem?_cons_zero, Option.some.injEq] at hk hv; subst hk hv; exact hu
                | succ k => exact e2 k z v (by simpa using hk) (by simpa using hv)
              · exact h.elim
            · exact h.elim
      | cell q ty =>
        obtain ⟨ag, ha, e⟩ := map_some' h1; subst e
        cases rs with
        | nil => exact h.elim
        | cons r rs =>
          cases r with
          | tup l => exact h.elim
          | row x => exact h.elim
          | d x =>
            simp only [fins] at h
            split at h
            · rename_i v hv
              split at h
              · rename_i ds hds
                obtain ⟨g, off, us, h1, h2', h3⟩ := cellsAt_sound hM (hE.lkp hv) hds
                obtain ⟨u, d, e1, e2, e3⟩ := run_loadVar' (P := P) ha h2' h
                have hu : (resOne t (.cell q ty)).run P w = .ok u w := by simp [resOne, h1, asAddr, e1 w rfl]
                exact dat hu (covD_sound e3 e2.1) (fun _ h => h) hM hE hG hF e2.2
              · exact h.elim
            · exact h.elim
    · cases hr

theorem finP_sound {S : Nat → Prop} {σ : St} (hM : Mem c σ.rows w S ρ F E) {as : List Arg} {vs : List Value} {Gs : List (Nat → Prop)} {w0 : World} {S0 : Nat → Prop} (ha : ArgsOK w0 S0 as vs Gs) : noTake as = true → ∀ {r0 : Nat} {xs : List Row}, finP σ r0 as xs →
    r0 + nrows as ≤ c.base → (∀ k, c.pV (r0 + k) = (rowVals as vs).getD k undef) → (∀ k G b, Gs[k]? = some G → (c.pF (r0 + k) b ↔ G b)) → RowsOK w S as vs Gs xs := by
  induction ha with
  | nil =>
    intro _ r0 xs h _ _ _
    cases xs with
    | nil => exact .nil
    | cons => exact h.elim
  | d _ _ ih => intro hn r0 xs h hb hv hg; exact .d (ih hn h hb hv hg)
  | @row x G v as vs Fs _ _ _ _ ih =>
    intro hn r0 xs h hb hv hg
    cases xs with
    | nil => exact h.elim
    | cons y xs =>
      simp only [finP] at h
      split at h
      · rename_i z hz
        have hlt : r0 < c.base := by simp only [nrows] at hb; omega
        obtain ⟨p1, p2⟩ := hM.pin r0 z hlt hz
        have hG : F r0 = G := funext fun b => propext ((p2 b).trans (by have := hg 0 G b rfl; simpa using this))
        have hV : ρ r0 = v := by have := hv 0; simp only [Nat.add_zero, rowVals, List.getD_cons_zero] at this; rw [p1, this]
        have hrow := covRow_sound (hM.row r0 z hz) h.1
        rw [hG, hV] at hrow
        refine .row hrow h.2.1.h (fun b hb => (hM.blk r0 z hz b (hG ▸ hb)).2.1) (ih hn h.2.2 (by simp only [nrows] at hb; omega) (fun k => ?_) fun k G' b hk => ?_)
        · have := hv (k + 1); rw [show r0 + 1 + k = r0 + (k + 1) by omega, this]; simp [rowVals]
        · have := hg (k + 1) G' b (by simpa using hk); rw [show r0 + 1 + k = r0 + (k + 1) by omega]; exact this
      · exact h.elim
  | take _ _ _ _ ih => intro hn; cases hn
end

/-- FROM 'vc' TO THE CONTRACT. -/
theorem gcall_of_vc {P : Program} {T : Tab} {H : Hint} {f : FuncId} {fn : Func} {code : Code} {cc : CC} {rvs : List RV} (hf : P.funcs[f]? = some fn) (hb : fn.body = some code) (hcc : erase P H code = cc) (hn : H.n = fn.ntmps)
    (hrv : rvsOf P fn.results.toList = some rvs) (hmix : P.follows .mixedOrders = true) (hP : TabOK P T) {as : List Arg} {R : Res} {xs : List Row} (hT : T.base = nrows as) (hl : as.length ≤ fn.ntmps) (hnt : noTake as = true)
    (h : vc T cc ⟨env0 0 0 as, rows0 0 as⟩ (fin T rvs as R xs) (fun _ _ => False) (fin T rvs as R xs)) : GCall P f as R xs := by
  intro w S vs Fs hS ha
  obtain ⟨hl1, hl2⟩ := args_len ha
  let c : Ctx := { N := fn.ntmps, w0 := w, S0 := S, base := nrows as, pV := fun r => (rowVals as vs).getD r undef, pF := Ff Fs }
  have hsat : Sat c ⟨env0 0 0 as, rows0 0 as⟩ { tmps := vs.toArray ++ Array.replicate (fn.ntmps - vs.toArray.size) undef, defers := [] } w := by
    refine ⟨by simp [c]; omega, rfl, .refl _ _, S, c.pV, c.pF, fun r => match lkp (rows0 0 as) r with | some x => x.esz' | none => 0, ⟨hS, fun _ h => h, fun _ h => .inl h, ?_, ?_, ?_, ?_, ?_⟩, ?_⟩
    · intro r x hx
      obtain ⟨G, e1, e2, e3⟩ := init_rows ha hx
      have : c.pF r = G := funext fun b => propext ⟨fun ⟨G', e, hb⟩ => by rw [show r - 0 = r from rfl] at e1; rw [e1] at e; cases e; exact hb, fun hb => ⟨G, e1, hb⟩⟩
      rw [this]; exact e2
    · intro r x hx b hb
      obtain ⟨G, e1, e2, e3⟩ := init_rows ha hx
      obtain ⟨G', e, hb⟩ := hb
      rw [show r - 0 = r from rfl] at e1; rw [e1] at e; cases e
      refine ⟨(e3 b hb).1, (e3 b hb).2, fun hge => ?_⟩
      have hlt := (List.getElem?_eq_some_iff.1 e1).1
      exact absurd hge (Nat.not_le.2 (by show r < nrows as; omega))
    · intro r s ys hx
      simp only at hx
      simp only [hx]; rfl
    · intro r q x y hne hx hy b hb hb'
      obtain ⟨G, e, hb⟩ := hb
      obtain ⟨G', e', hb'⟩ := hb'
      rcases Nat.lt_or_gt_of_ne hne with hlt | hlt
      · exact init_dis ha r q G G' hlt e e' b hb hb'
      · exact init_dis ha q r G' G hlt e' e b hb' hb
    · intro r x _ _; exact ⟨rfl, fun _ => .rfl⟩
    · intro s v hm
      obtain ⟨h1, h2, h3⟩ := init_env (ρ := c.pV) (E := fun r => match lkp (rows0 0 as) r with | some x => x.esz' | none => 0) ha (i := 0) (r0 := 0) (fun k => by simp [c]) s v hm
      refine ⟨by show s < fn.ntmps; omega, ?_⟩
      have : (vs.toArray ++ Array.replicate (fn.ntmps - vs.toArray.size) undef).getD s undef = vs.getD s undef := by
        have hs : s < vs.length := by omega
        simp [Array.getD_eq_getD_getElem?, Array.getElem?_append, hs, List.getD_eq_getElem?_getD]
      rw [this]; exact h3
  refine calls_of_wp hf hb ?_
  refine wp_mono (vc_sound (c := c) hmix hP hT hn code (hcc ▸ h) hsat) ?_
  have done : ∀ a w', (∃ σ, fin T rvs as R xs σ ∧ Sat c σ a w') → a.defers = [] ∧ ∃ v, (results fn a.tmps).run P w' = .ok v w' ∧ (∃ v' S' H, Ending.returned v = .returned v' ∧ Ext w w' (fun b => ∃ G ∈ Fs, G b) ∧ (∀ b, S b → S' b) ∧ (∀ b, S' b → b < w'.heap.size ∧ (S b ∨ w.heap.size ≤ b)) ∧
      ResOK w' S' v' R H ∧ (∀ b, H b → b < w'.heap.size ∧ ¬ S' b ∧ (w.heap.size ≤ b ∨ Taken as Fs b)) ∧ RowsOK w' S' as vs Fs xs) := by
    rintro a w' ⟨σ, hfin, h1, h2, h3, S1, ρ, F, E, hM, hE⟩
    refine ⟨h2, ?_⟩
    have hx : Ext w w' (fun b => ∃ G ∈ Fs, G b) := h3.weaken fun b ⟨r, _, G, e, hb⟩ => ⟨G, List.mem_of_getElem? e, hb⟩
    have rest : ∀ {rs : List Res}, fins T rvs rs σ (fun σ => finP σ 0 as xs) → ∃ us S' H, us.length = fn.results.toList.length ∧ (fn.results.toList.mapM (resOne a.tmps)).run P w' = .ok us w' ∧ (∀ b, S b → S' b) ∧ (∀ b, S' b → b < w'.heap.size ∧ (S b ∨ w.heap.size ≤ b)) ∧ ResL w' S' us rs H ∧
        (∀ b, H b → b < w'.heap.size ∧ ¬ S' b ∧ (w.heap.size ≤ b ∨ Taken as Fs b)) ∧ RowsOK w' S' as vs Fs xs := by
      intro rs hf
      obtain ⟨us, S', H, σ', e1, e2, e3, e4, e5, e6, e7, _⟩ := fins_sound (P := P) (G0 := fun _ => False) hT fn.results.toList hrv hf hM hE (fun _ h => h.elim) (fun _ _ _ _ _ h => h)
      refine ⟨us, S', H, e1, run_mapM _ w' _ us e1.symm e2, fun b hb => e4.s0 b hb, fun b hb => ⟨e4.slt b hb, e4.snew b hb⟩, e6, fun b hb => ⟨(e7 b hb).1, (e7 b hb).2.1, .inl (e7 b hb).2.2⟩, ?_⟩
      refine finP_sound e4 ha hnt e3 (by show 0 + nrows as ≤ nrows as; omega) (fun k => by simp [c]) fun k G b hk => ?_
      simp only [Nat.zero_add]
      exact ⟨fun ⟨G', e, hb⟩ => by rw [hk] at e; cases e; exact hb, fun hb => ⟨G, hk, hb⟩⟩
    have hres : ∀ us : List Value, (fn.results.toList.mapM (resOne a.tmps)).run P w' = .ok us w' → (results fn a.tmps).run P w' = .ok (if h : us.toArray.size = 1 then us.toArray[0] else .tuple us.toArray) w' := by
      intro us hu
      have : (fn.results.mapM (resOne a.tmps)).run P w' = .ok us.toArray w' := by
        rw [Array.mapM_eq_mapM_toList]
        simp [hu]
      show ((fn.results.mapM (resOne a.tmps) >>= fun vs => pure (if h : vs.size = 1 then vs[0] else .tuple vs)) : Sem Value).run P w' = _
      simp [this]
    unfold fin at hfin
    split at hfin
    · rename_i rv
      obtain ⟨us, S', H, e1, e2, e3, e4, e5, e6, e7⟩ := rest hfin
      have hus : us.length = 1 := by cases e5 with
        | d h t => cases t; rfl
        | row h hd t => cases t; rfl
      match us, hus with
      | [u], _ =>
        refine ⟨u, by rw [hres _ e2]; simp, u, S', H, rfl, hx, e3, e4, ?_, e6, e7⟩
        cases e5 with
        | d hh ht => cases ht; exact .d hh
        | @row _ G H _ _ _ hh hd ht => 
          cases ht
          have e : (fun b => G b ∨ False) = G := funext fun b => propext ⟨fun h => h.resolve_right id, .inl⟩
          have hr : ResOK w' S' u (.row _) G := .row hh
          exact e.symm ▸ hr
    · rename_i hne
      split at hfin
      · rename_i l
        obtain ⟨us, S', H, e1, e2, e3, e4, e5, e6, e7⟩ := rest hfin
        have hus : ¬ us.toArray.size = 1 := by
          intro h
          have hlen : fn.results.toList.length = 1 := by rw [← e1]; simpa using h
          match hm : fn.results.toList, hlen with
          | [x], _ =>
            rw [hm] at hrv
            simp only [rvsOf] at hrv
            split at hrv
            · simp only [Option.some.injEq] at hrv
              rename_i y m _ h2
              simp only [Option.some.injEq] at h2; subst h2
              exact hne y hrv.symm
            · cases hrv
        refine ⟨.tuple us.toArray, by rw [hres _ e2, dif_neg hus], .tuple us.toArray, S', H, rfl, hx, e3, e4, .tup e5, e6, e7⟩
      · exact hfin.elim
  intro x a w' hq
  cases x with
  | normal => exact done a w' hq
  | ret => exact done a w' hq
  | exit id => obtain ⟨σ, h, _⟩ := hq; exact h.elim
  | _ => exact hq.elim

def codeOf (f : Func) : Code := match f.body with
  | some c => c
  | none => .skip

end Go.Eng
