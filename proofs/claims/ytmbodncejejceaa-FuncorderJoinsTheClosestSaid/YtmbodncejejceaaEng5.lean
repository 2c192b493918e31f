/- The engine, part 5: the operations that only compute. -/
import Derived.Test.YtmbodncejejceaaEng4
import Derived.Laws.StructEq
set_option linter.all false
namespace Go.Eng

/-- Where a row's blocks come from: from an elder row's (which may be written if this one may), or they are new. -/
def From (T : Tab) (rows0 : List (Nat × Row)) (F0 : Nat → Nat → Prop) (n0 : Nat) (rows : List (Nat × Row)) (F : Nat → Nat → Prop) : Prop :=
  ∀ q x b, lkp rows q = some x → F q b → (∃ r y, lkp rows0 r = some y ∧ F0 r b ∧ (allowed T q = true → allowed T r = true)) ∨ n0 ≤ b
theorem From.sub {T : Tab} {rows0 rows : List (Nat × Row)} {F : Nat → Nat → Prop} {n0 : Nat} (h : ∀ q x, lkp rows q = some x → lkp rows0 q = some x) : From T rows0 F n0 rows F :=
  fun q x b hq hb => .inl ⟨q, x, h q x hq, hb, id⟩

def OutG (T : Tab) (c : Ctx) (rows0 : List (Nat × Row)) (F0 : Nat → Nat → Prop) (n0 : Nat) (K : St → AV → Prop) (t : Array Value) (w : World) (v : Value) : Prop :=
  ∃ σ u S ρ F E, K σ u ∧ Mem c σ.rows w S ρ F E ∧ EnvOK c σ.env t w S ρ E ∧ VOK w S ρ E v u ∧ From T rows0 F0 n0 σ.rows F

def Pure (P : Program) (ro : Oper) (a : Act) (v : Value) : Prop := ∀ w, (execOp a.eval ro).run P w = .ok (.value v) w
def PRes (P : Program) (T : Tab) (c : Ctx) (rows : List (Nat × Row)) (F : Nat → Nat → Prop) (K : St → AV → Prop) (ro : Oper) (a : Act) (w : World) : Prop := ∃ v, Pure P ro a v ∧ OutG T c rows F w.heap.size K a.tmps w v

theorem cv_rd (w : World) (S : Nat → Prop) (v : Value) : RD w S v (cv v) := by
  cases v with
  | int k n => exact .i k fun _ => n
  | bool b => exact .b (.lit b)
  | string s => exact .s fun _ => s
  | _ => exact .v _

section
variable {P : Program} {T : Tab} {c : Ctx} {σ : St} {K : St → AV → Prop} {ro : Oper} {a : Act} {w : World} {S : Nat → Prop} {ρ : Nat → Value} {F : Nat → Nat → Prop} {E : Nat → Nat}

theorem ev_sound (hE : EnvOK c σ.env a.tmps w S ρ E) {o : Operand} {x : X} (hx : xOf o = some x) {v : AV} (he : σ.ev x = some v) : VOK w S ρ E (a.eval o) v := by
  cases o with
  | tmp t => simp only [xOf, Option.some.injEq] at hx; subst hx; exact hE.lkp he
  | const u => simp only [xOf, Option.some.injEq] at hx; subst hx; simp only [St.ev, Option.some.injEq] at he; subst he; exact .d (cv_rd _ _ _)
  | func f => simp only [xOf, Option.some.injEq] at hx; subst hx; simp only [St.ev, Option.some.injEq] at he; subst he; exact .d (.fn #[] rfl (by simp))
  | global g => simp [xOf] at hx

theorem evs_sound (hE : EnvOK c σ.env a.tmps w S ρ E) : ∀ {os : List Operand} {xs : List X}, xsOf' os = some xs → ∀ {vs : List AV}, σ.evs xs = some vs →
    os.length = vs.length ∧ ∀ j v, vs[j]? = some v → VOK w S ρ E ((os.map a.eval).getD j undef) v
  | [], xs, hx, vs, he => by
    simp only [xsOf', Option.some.injEq] at hx; subst hx; simp only [St.evs, Option.some.injEq] at he; subst he; simp
  | o :: os, xs, hx, vs, he => by
    simp only [xsOf'] at hx
    split at hx
    · rename_i y m hy hm
      simp only [Option.some.injEq] at hx; subst hx
      simp only [St.evs] at he
      split at he
      · rename_i v us hv hus
        simp only [Option.some.injEq] at he; subst he
        obtain ⟨h1, h2⟩ := evs_sound hE hm hus
        refine ⟨by simp [h1], fun j v' hj => ?_⟩
        cases j with
        | zero => simp only [List.getElem?_cons_zero, Option.some.injEq] at hj; subst hj; simpa using ev_sound hE hy hv
        | succ j => simpa using h2 j v' (by simpa using hj)
      · cases he
    · cases hx

/-- A state that goes on as it is. -/
theorem OutG.keep (hM : Mem c σ.rows w S ρ F E) (hE : EnvOK c σ.env a.tmps w S ρ E) {v : Value} {u : AV} (hk : K σ u) (hv : VOK w S ρ E v u) : OutG T c σ.rows F w.heap.size K a.tmps w v :=
  ⟨σ, u, S, ρ, F, E, hk, hM, hE, hv, .sub fun _ _ h => h⟩

theorem p_mov (hM : Mem c σ.rows w S ρ F E) (hE : EnvOK c σ.env a.tmps w S ρ E) {o : Operand} (ho : ro.op = .move o ∨ ro.op = .assign o) {x : X} (hx : xOf o = some x)
    (hk : step T (.mov x) σ K) : PRes P T c σ.rows F K ro a w := by
  simp only [step] at hk
  split at hk
  · rename_i v hv
    refine ⟨a.eval o, fun w' => ?_, .keep hM hE hk (ev_sound hE hx hv)⟩
    rcases ho with ho | ho <;> simp [execOp, ho]
  · exact hk.elim

theorem VIf.elim {f : Th Bool} {p q : Unit → Prop} (h : VIf f p q) : (f () = true ∧ p ()) ∨ (f () = false ∧ q ()) := by
  cases h with
  | tt h hp => exact .inl ⟨h, hp⟩
  | ff h hq => exact .inr ⟨h, hq⟩
theorem bifB_elim {b : BV} {p q : Unit → Prop} (h : bifB b p q) : (b.get = true ∧ p ()) ∨ (b.get = false ∧ q ()) := by
  cases b with
  | lit b => cases b with
    | true => exact .inl ⟨rfl, h.h⟩
    | false => exact .inr ⟨rfl, h.h⟩
  | dyn f => exact VIf.elim h

theorem VOK.b_inv {v : Value} {b : BV} (h : VOK w S ρ E v (.d (.b b))) : v = .bool b.get := by cases h with | d h => cases h with | b b => rfl
theorem VOK.i_inv {v : Value} {k : IntKind} {n : Th Int} (h : VOK w S ρ E v (.d (.i k n))) : v = .int k (n ()) := by cases h with | d h => cases h with | i k n => rfl

theorem p_pick (hM : Mem c σ.rows w S ρ F E) (hE : EnvOK c σ.env a.tmps w S ρ E) {oc oa ob : Operand} (ho : ro.op = .pick oc oa ob) {xc xa xb : X} (hc : xOf oc = some xc) (ha : xOf oa = some xa)
    (hb : xOf ob = some xb) (hk : step T (.pick xc xa xb) σ K) : PRes P T c σ.rows F K ro a w := by
  simp only [step] at hk
  split at hk
  · rename_i t hv
    have hc' := (ev_sound hE hc hv).b_inv
    rcases bifB_elim hk with ⟨h1, hk⟩ | ⟨h1, hk⟩
    · split at hk
      · rename_i v hv
        exact ⟨a.eval oa, fun w' => by simp [execOp, ho, hc', h1, asBool], .keep hM hE hk (ev_sound hE ha hv)⟩
      · exact hk.elim
    · split at hk
      · rename_i v hv
        exact ⟨a.eval ob, fun w' => by simp [execOp, ho, hc', h1, asBool], .keep hM hE hk (ev_sound hE hb hv)⟩
      · exact hk.elim
  · exact hk.elim

theorem wrap_in {k : IntKind} {n : Int} (h : inR k n) : k.wrap n = n := by
  obtain ⟨h1, h2⟩ := h
  cases k <;> simp [IntKind.min, IntKind.max, IntKind.bits, IntKind.signed] at h1 h2 <;> simp [IntKind.wrap, IntKind.bits, IntKind.signed] <;> (try split) <;> omega

theorem run_eqGuard_int (op : BinOp) (t : TypeId) (x y : Operand) (j k : IntKind) (m n : Int) (w : World) : (eqGuard op t x y (.int j m) (.int k n)).run P w = .ok () w := by
  unfold eqGuard
  split <;> simp
theorem run_eqGuard_bool (op : BinOp) (t : TypeId) (x y : Operand) (m n : Bool) (w : World) : (eqGuard op t x y (.bool m) (.bool n)).run P w = .ok () w := by
  unfold eqGuard
  split <;> simp

theorem p_bin (hM : Mem c σ.rows w S ρ F E) (hE : EnvOK c σ.env a.tmps w S ρ E) {op : BinOp} {t yt : TypeId} {ox oy : Operand} (ho : ro.op = .binOp op t ox oy yt) {k : IntKind} {x y : X}
    (hx : xOf ox = some x) (hy : xOf oy = some y) (hk : step T (.bin op k x y) σ K) : PRes P T c σ.rows F K ro a w := by
  simp only [step] at hk
  split at hk
  · rename_i k' m k'' n hm hn
    cases h1 : decide (k' = k) with
    | false => rw [h1] at hk; exact hk.elim
    | true =>
      cases h2 : decide (k'' = k) with
      | false => rw [h1, h2] at hk; exact hk.elim
      | true =>
        rw [h1, h2] at hk
        simp only [cond_true] at hk
        obtain rfl : k' = k := by simpa using h1
        obtain rfl : k'' = k' := by simpa using h2
        have ex := (ev_sound hE hx hm).i_inv
        have ey := (ev_sound hE hy hn).i_inv
        have run : ∀ v, (∀ w', (binOp op t (.int k'' (m ())) (.int k'' (n ()))).run P w' = .ok v w') → Pure P ro a v := fun v hv w' => by
          simp [execOp, ho, ex, ey, run_eqGuard_int, hv]
        cases op <;> simp only [binop] at hk
        case add => exact ⟨_, run (.int k'' (m () + n ())) (fun w' => by simp [binOp, Op.intArith, wrap_in hk.1.h]), .keep hM hE hk.2 (.d (.i k'' fun _ => m () + n ()))⟩
        case sub => exact ⟨_, run (.int k'' (m () - n ())) (fun w' => by simp [binOp, Op.intArith, wrap_in hk.1.h]), .keep hM hE hk.2 (.d (.i k'' fun _ => m () - n ()))⟩
        case mul => exact ⟨_, run (.int k'' (m () * n ())) (fun w' => by simp [binOp, Op.intArith, wrap_in hk.1.h]), .keep hM hE hk.2 (.d (.i k'' fun _ => m () * n ()))⟩
        case quo =>
          obtain ⟨h0, hp, hr⟩ := hk.1.h
          refine ⟨_, run (.int k'' (m () / n ())) (fun w' => ?_), .keep hM hE hk.2 (.d (.i k'' fun _ => m () / n ()))⟩
          have hz : n () ≠ 0 := by omega
          simp [binOp, Op.intDiv, hz, Int.tdiv_eq_ediv_of_nonneg h0, wrap_in hr]
        case rem =>
          obtain ⟨h0, hp⟩ := hk.1.h
          refine ⟨_, run (.int k'' (m () % n ())) (fun w' => ?_), .keep hM hE hk.2 (.d (.i k'' fun _ => m () % n ()))⟩
          have hz : n () ≠ 0 := by omega
          simp [binOp, Op.intDiv, hz, Int.tmod_eq_emod_of_nonneg h0]
        case eql => exact ⟨_, run (.bool (decide (m () = n ()))) (fun w' => by simp [binOp, Op.intCmp]; rfl), .keep hM hE hk (.d (.b (.dyn fun _ => decide (m () = n ()))))⟩
        case neq => exact ⟨_, run (.bool (decide (m () ≠ n ()))) (fun w' => by simp [binOp, Op.intCmp, bne]; rfl), .keep hM hE hk (.d (.b (.dyn fun _ => decide (m () ≠ n ()))))⟩
        case lss => exact ⟨_, run (.bool (decide (m () < n ()))) (fun w' => by simp [binOp, Op.intCmp]), .keep hM hE hk (.d (.b (.dyn fun _ => decide (m () < n ()))))⟩
        case leq => exact ⟨_, run (.bool (decide (m () ≤ n ()))) (fun w' => by simp [binOp, Op.intCmp]), .keep hM hE hk (.d (.b (.dyn fun _ => decide (m () ≤ n ()))))⟩
        case gtr => exact ⟨_, run (.bool (decide (n () < m ()))) (fun w' => by simp [binOp, Op.intCmp]), .keep hM hE hk (.d (.b (.dyn fun _ => decide (n () < m ()))))⟩
        case geq => exact ⟨_, run (.bool (decide (n () ≤ m ()))) (fun w' => by simp [binOp, Op.intCmp]), .keep hM hE hk (.d (.b (.dyn fun _ => decide (n () ≤ m ()))))⟩
        all_goals exact hk.elim
  · exact hk.elim

theorem run_underlying' {t : TypeId} {d : TypeDesc} (h : P.underlying t = some d) (w : World) : (underlying t).run P w = .ok d w := by simp [underlying, h]

theorem run_equal_bool {t : TypeId} (ht : P.underlying t = some .bool) (a b : Bool) (w : World) : (Op.equal t (.bool a) (.bool b)).run P w = .ok (a == b) w := by
  show (Op.equalIn (9999 + 1) t (.bool a) (.bool b)).run P w = _
  rw [Op.equalIn.eq_2]
  simp only [Sem.run_bind, run_underlying' ht, Result.andThen_ok, Sem.run_pure]
theorem binOp_eql_bool (t : TypeId) (a b : Bool) : binOp .eql t (.bool a) (.bool b) = (do pure (.bool (← Op.equal t (.bool a) (.bool b)))) := rfl
theorem binOp_neq_bool (t : TypeId) (a b : Bool) : binOp .neq t (.bool a) (.bool b) = (do pure (.bool (!(← Op.equal t (.bool a) (.bool b))))) := rfl

theorem p_eqb (hM : Mem c σ.rows w S ρ F E) (hE : EnvOK c σ.env a.tmps w S ρ E) {t yt : TypeId} {ox oy : Operand} {neg : Bool} (ho : ro.op = .binOp (if neg then .neq else .eql) t ox oy yt) (ht : P.underlying t = some .bool) {x y : X}
    (hx : xOf ox = some x) (hy : xOf oy = some y) (hk : step T (.eqb neg x y) σ K) : PRes P T c σ.rows F K ro a w := by
  simp only [step] at hk
  split at hk
  · rename_i m n hm hn
    have ex := (ev_sound hE hx hm).b_inv
    have ey := (ev_sound hE hy hn).b_inv
    cases neg with
    | false =>
      refine ⟨.bool (m.get == n.get), fun w' => ?_, .keep hM hE hk (.d (.b (.dyn fun _ => bif false then !(m.get == n.get) else m.get == n.get)))⟩
      simp [execOp, ho, ex, ey, run_eqGuard_bool, binOp_eql_bool, binOp_neq_bool, run_equal_bool ht]
    | true =>
      refine ⟨.bool (!(m.get == n.get)), fun w' => ?_, .keep hM hE hk (.d (.b (.dyn fun _ => bif true then !(m.get == n.get) else m.get == n.get)))⟩
      simp [execOp, ho, ex, ey, run_eqGuard_bool, binOp_eql_bool, binOp_neq_bool, run_equal_bool ht]
  · exact hk.elim

theorem p_not (hM : Mem c σ.rows w S ρ F E) (hE : EnvOK c σ.env a.tmps w S ρ E) {t : TypeId} {ox : Operand} (ho : ro.op = .unOp .not t ox) {x : X} (hx : xOf ox = some x)
    (hk : step T (.not x) σ K) : PRes P T c σ.rows F K ro a w := by
  simp only [step] at hk
  split at hk
  · rename_i b hb
    have ex := (ev_sound hE hx hb).b_inv
    exact ⟨.bool (!b), fun w' => by simp [execOp, ho, ex, Op.unary, BV.get], .keep hM hE hk (.d (.b (.lit (!b))))⟩
  · rename_i f hb
    have ex := (ev_sound hE hx hb).b_inv
    exact ⟨.bool (!f ()), fun w' => by simp [execOp, ho, ex, Op.unary, BV.get], .keep hM hE hk (.d (.b (.dyn fun _ => !f ())))⟩
  · exact hk.elim

theorem p_neg (hM : Mem c σ.rows w S ρ F E) (hE : EnvOK c σ.env a.tmps w S ρ E) {t : TypeId} {ox : Operand} (ho : ro.op = .unOp .neg t ox) {k : IntKind} {x : X} (hx : xOf ox = some x)
    (hk : step T (.neg k x) σ K) : PRes P T c σ.rows F K ro a w := by
  simp only [step] at hk
  split at hk
  · rename_i k' m hm
    cases h1 : decide (k' = k) with
    | false => rw [h1] at hk; exact hk.elim
    | true =>
      rw [h1] at hk; simp only [cond_true] at hk
      obtain rfl : k' = k := by simpa using h1
      have ex := (ev_sound hE hx hm).i_inv
      refine ⟨.int k' (- m ()), fun w' => ?_, .keep hM hE hk.2 (.d (.i k' fun _ => - m ()))⟩
      have := wrap_in hk.1.h
      simp [execOp, ho, ex, Op.unary, Op.intArith, this]
  · exact hk.elim

theorem p_conv (hM : Mem c σ.rows w S ρ F E) (hE : EnvOK c σ.env a.tmps w S ρ E) {s t : TypeId} {ox : Operand} (ho : ro.op = .convert s t ox) {j k : IntKind} (hs : P.underlying s = some (.int j))
    (ht : P.underlying t = some (.int k)) {x : X} (hx : xOf ox = some x) (hk : step T (.conv k x) σ K) : PRes P T c σ.rows F K ro a w := by
  simp only [step] at hk
  split at hk
  · rename_i k' m hm
    have ex := (ev_sound hE hx hm).i_inv
    refine ⟨.int k (m ()), fun w' => ?_, .keep hM hE hk.2 (.d (.i k m))⟩
    simp [execOp, ho, ex, convert, run_underlying' hs, run_underlying' ht, Conv.intToInt, wrap_in hk.1.h]
  · exact hk.elim

theorem run_sizeOf {t : TypeId} {i : TypeInfo} (h : P.info? t = some i) (w : World) : (sizeOf t).run P w = .ok i.size w := by simp [sizeOf, typeInfo, h]

theorem add_plain (g o n : Nat) : (⟨g, o, none⟩ : Addr).add n = ⟨g, o + n, none⟩ := by
  unfold Addr.add
  split
  · simp [*]
  · rfl

def AV.shift (n : Nat) : AV → AV
  | .bptr r o => .bptr r (o + n)
  | .eptr r i o => .eptr r i (o + n)
  | .dptr x i o => .dptr x i (o + n)
  | .pptr cs o => .pptr cs (o + n)
  | v => v
def AV.isPtr : AV → Bool
  | .bptr _ _ => true
  | .eptr _ _ _ => true
  | .dptr _ _ _ => true
  | .pptr _ _ => true
  | _ => false

theorem VOK.ptr {v : Value} {p : AV} (h : VOK w S ρ E v p) (hp : p.isPtr = true) (n : Nat) : ∃ g o, v = .pointer (some ⟨g, o, none⟩) ∧ VOK w S ρ E (.pointer (some ⟨g, o + n, none⟩)) (p.shift n) := by
  cases h with
  | bptr r o g h => exact ⟨g, o, rfl, .bptr r _ g h⟩
  | eptr r i o g m c h h0 h1 => exact ⟨g, _, rfl, by rw [Nat.add_assoc]; exact .eptr r i _ g m c h h0 h1⟩
  | dptr i o b p m c h h0 h1 => exact ⟨b, _, rfl, by rw [Nat.add_assoc, Nat.add_assoc]; exact .dptr i _ b p m c h h0 h1⟩
  | pptr o b h => exact ⟨b, o, rfl, .pptr _ b h⟩
  | _ => cases hp

theorem p_faddr (hM : Mem c σ.rows w S ρ F E) (hE : EnvOK c σ.env a.tmps w S ρ E) {t : TypeId} {ox : Operand} {q : Nat} (ho : ro.op = .fieldAddr t ox q) {fs : Array Field} (ht : P.underlying t = some (.struct fs))
    {f : Field} (hf : fs[q]? = some f) {i : TypeInfo} (hi : P.info? f.type = some i) (h0 : i.size ≠ 0) {x : X} (hx : xOf ox = some x) (hk : step T (.faddr f.offset x) σ K) : PRes P T c σ.rows F K ro a w := by
  have run : ∀ p, σ.ev x = some p → p.isPtr = true → K σ (p.shift f.offset) → PRes P T c σ.rows F K ro a w := fun p hv hp hk => by
    obtain ⟨g, o, he, h⟩ := (ev_sound hE hx hv).ptr hp f.offset
    exact ⟨.pointer (some ⟨g, o + f.offset, none⟩), fun w' => by simp [execOp, ho, he, Instr.fieldAt, run_underlying' ht, hf, Instr.sureAddr, fieldPlace, run_sizeOf hi, h0, add_plain], .keep hM hE hk h⟩
  simp only [step] at hk
  split at hk
  · rename_i r q hv; exact run (.bptr r q) hv rfl hk
  · rename_i r j q hv; exact run (.eptr r j q) hv rfl hk
  · rename_i y j q hv; exact run (.dptr y j q) hv rfl hk
  · rename_i cs q hv; exact run (.pptr cs q) hv rfl hk
  · exact hk.elim

theorem p_aaddr (hM : Mem c σ.rows w S ρ F E) (hE : EnvOK c σ.env a.tmps w S ρ E) {t : TypeId} {ox oi : Operand} (ho : ro.op = .indexAddr t ox oi) {n : Nat} {e : TypeId} (ht : P.underlying t = some (.array n e))
    {i : TypeInfo} (hi : P.info? e = some i) {x j : X} (hx : xOf ox = some x) (hj : xOf oi = some j) (hk : step T (.aaddr n i.size x j) σ K) : PRes P T c σ.rows F K ro a w := by
  simp only [step] at hk
  split at hk
  · rename_i kk m
    have hoi : a.eval oi = .int kk (Int.ofNat m) := by
      cases oi with
      | const v => simp only [xOf, Option.some.injEq, X.c.injEq] at hj; subst hj; rfl
      | _ => simp [xOf] at hj
    cases hb : Nat.blt m n with
    | false => rw [hb] at hk; exact hk.elim
    | true =>
      rw [hb] at hk; simp only [cond_true] at hk
      have hlt : m < n := by simpa [Nat.blt_eq] using hb
      have run : ∀ p, σ.ev x = some p → p.isPtr = true → K σ (p.shift (m * i.size)) → PRes P T c σ.rows F K ro a w := fun p hv hp hk => by
        obtain ⟨g, o, he, h⟩ := (ev_sound hE hx hv).ptr hp (m * i.size)
        exact ⟨.pointer (some ⟨g, o + m * i.size, none⟩), fun w' => by simp [execOp, ho, he, hoi, Instr.indexAt, asIntOf, run_underlying' ht, Instr.sureAddr, run_sizeOf hi, add_plain]; exact fun h => absurd hlt (by omega), .keep hM hE hk h⟩
      split at hk
      · rename_i r q hv; exact run (.bptr r q) hv rfl hk
      · rename_i r j q hv; exact run (.eptr r j q) hv rfl hk
      · rename_i y j q hv; exact run (.dptr y j q) hv rfl hk
      · rename_i cs q hv; exact run (.pptr cs q) hv rfl hk
      · exact hk.elim
  · exact hk.elim

theorem p_iaddr (hM : Mem c σ.rows w S ρ F E) (hE : EnvOK c σ.env a.tmps w S ρ E) {t : TypeId} {ox oi : Operand} (ho : ro.op = .indexAddr t ox oi) {e : TypeId} (ht : P.underlying t = some (.slice e))
    {i : TypeInfo} (hi : P.info? e = some i) {x j : X} (hx : xOf ox = some x) (hj : xOf oi = some j) (hk : step T (.iaddr i.size x j) σ K) : PRes P T c σ.rows F K ro a w := by
  have run : ∀ g o n cap kk m, a.eval ox = .slice (some ⟨g, o, none⟩) n cap → a.eval oi = .int kk m → 0 ≤ m → m < (n : Int) → Pure P ro a (.pointer (some ⟨g, o + m.toNat * i.size, none⟩)) := fun g o n cap kk m he hei h0 h1 w' => by
    simp [execOp, ho, he, hei, Instr.indexAt, asIntOf, run_underlying' ht, h0, h1, run_sizeOf hi, add_plain]
  simp only [step] at hk
  split at hk
  · rename_i r kk n hv hn
    split at hk
    · rename_i s xs hr
      cases hb : Nat.beq s.esz i.size with
      | false => rw [hb] at hk; exact hk.elim
      | true =>
        rw [hb] at hk; simp only [cond_true] at hk
        have hsz := beq_iff.1 hb
        obtain ⟨h0, h1⟩ := hk.1.h
        have hei := (ev_sound hE hj hn).i_inv
        have hvv := ev_sound hE hx hv
        have hro := hM.row r _ hr
        have hEr := hM.esz r s xs hr
        generalize he : a.eval ox = val at hvv
        cases hvv with
        | own r =>
          rcases hro.inv with ⟨h, _, _⟩ | ⟨g, m, cap, cur, hq, hm, hg, hnc, hmx, hc, hlen, hrd, _⟩
          · rw [h] at h1; simp at h1; omega
          · have h1' : n () < (m : Int) := by rw [hm]; exact h1
            rw [hq] at he
            refine ⟨_, run g 0 m cap kk (n ()) he hei h0 h1', .keep hM hE hk.2 ?_⟩
            have := VOK.eptr (w := w) (S := S) (ρ := ρ) (E := E) r n 0 g m cap hq h0 h1'
            rw [hEr, hsz, Nat.add_zero] at this
            rw [Nat.zero_add]; exact this
    · exact hk.elim
  · rename_i α esz' cells d0 xs kk n hv hn
    cases hb : Nat.beq esz' i.size with
    | false => rw [hb] at hk; exact hk.elim
    | true =>
      rw [hb] at hk; simp only [cond_true] at hk
      have hsz := beq_iff.1 hb
      subst hsz
      obtain ⟨h0, h1⟩ := hk.1.h
      have hei := (ev_sound hE hj hn).i_inv
      have hvv := ev_sound hE hx hv
      generalize he : a.eval ox = val at hvv
      cases hvv with
      | d h =>
        cases h with
        | nilsl a c h => rw [h] at h1; simp at h1; omega
        | sl b off m cap us hbS hm hlen hcell hrd hc =>
          have h1' : n () < (m : Int) := by rw [hm]; exact h1
          refine ⟨_, run b off m cap kk (n ()) he hei h0 h1', .keep hM hE hk.2 ?_⟩
          exact .dptr n 0 b off m cap (.sl b off m cap us hbS hm hlen hcell hrd hc) h0 h1'
  · exact hk.elim

theorem nth_get : ∀ (l : List D) (n : Nat), nth l n = l[n]?
  | [], n => by cases n <;> rfl
  | x :: l, 0 => rfl
  | x :: l, n + 1 => by simp [nth, nth_get l n]
theorem dropD_eq : ∀ (n : Nat) (l : List D), dropD n l = l.drop n
  | 0, l => by simp [dropD]
  | n + 1, [] => by simp [dropD]
  | n + 1, x :: l => by simp [dropD, dropD_eq n l]
theorem takeD_eq : ∀ (n : Nat) (l m : List D), takeD n l = some m → m = l.take n ∧ n ≤ l.length
  | 0, l, m, h => by simp [takeD] at h; simp [h]
  | n + 1, [], m, h => by simp [takeD] at h
  | n + 1, x :: l, m, h => by
    simp only [takeD] at h
    split at h
    · rename_i m' hm
      obtain ⟨h1, h2⟩ := takeD_eq n l m' hm
      cases h
      simp [h1]; omega
    · cases h
theorem len'_eq : ∀ l : List D, len' l = l.length
  | [] => rfl
  | _ :: l => by simp [len', len'_eq l]

/-- A part of a struct's or an array's cells. -/
theorem run_part {t : TypeId} {g : Option Nat} (hg : aggOf P t = some g) {cs : List D} {vs : Array Value} (hv : vs.size = cs.length) (hrd : ∀ j d, cs[j]? = some d → RD w S (vs.getD j undef) d) {off : Nat} {K' : D → Prop}
    (hk : partsOf g (dropD off cs) K') : ∃ v d, (∀ w', (part t vs off).run P w' = .ok v w') ∧ K' d ∧ RD w S v d := by
  unfold aggOf at hg
  rw [dropD_eq] at hk
  have agg : ∀ n : Nat, (P.info? t).map (fun i => i.size) = some n → (∀ w', (isAgg t).run P w' = .ok true w') → partsOf (some n) (cs.drop off) K' → ∃ v d, (∀ w', (part t vs off).run P w' = .ok v w') ∧ K' d ∧ RD w S v d := by
    intro n hn hagg hk
    simp only [partsOf] at hk
    split at hk
    · rename_i l hl
      obtain ⟨h1, h2⟩ := takeD_eq _ _ _ hl
      cases hi : P.info? t with
      | none => rw [hi] at hn; cases hn
      | some i =>
        rw [hi] at hn; simp only [Option.map_some, Option.some.injEq] at hn
        refine ⟨.agg (vs.extract off (off + n)), .agg l, fun w' => ?_, hk, ?_⟩
        · simp [part, hagg, sizeOf, typeInfo, hi, hn]
        · simp only [List.length_drop] at h2
          refine .agg _ (by simp [h1, hv]; omega) fun j d hd => ?_
          rw [h1, List.getElem?_take] at hd
          split at hd
          · rename_i hj
            rw [List.getElem?_drop] at hd
            have := hrd _ _ hd
            have e : (vs.extract off (off + n)).getD j undef = vs.getD (off + j) undef := by
              simp only [Array.getD_eq_getD_getElem?, Array.getElem?_extract]
              rw [if_pos (by rw [hv]; omega)]
            rw [e]; exact this
          · cases hd
    · exact hk.elim
  split at hg
  · rename_i fs ht
    cases hi : P.info? t with
    | none => rw [hi] at hg; cases hg
    | some i => rw [hi] at hg; cases hg; exact agg i.size (by rw [hi]; rfl) (fun w' => by simp [isAgg, run_underlying' ht]) hk
  · rename_i m e ht
    cases hi : P.info? t with
    | none => rw [hi] at hg; cases hg
    | some i => rw [hi] at hg; cases hg; exact agg i.size (by rw [hi]; rfl) (fun w' => by simp [isAgg, run_underlying' ht]) hk
  · rename_i d h1 h2 ht
    cases hg
    simp only [partsOf] at hk
    split at hk
    · rename_i dd l hl
      have hd : cs[off]? = some dd := by have := congrArg (fun l => l[0]?) hl; simpa using this
      have hlt : off < vs.size := by rw [hv]; exact (List.getElem?_eq_some_iff.1 hd).1
      refine ⟨vs.getD off undef, dd, fun w' => ?_, hk, hrd off dd hd⟩
      have hna : (isAgg t).run P w' = .ok false w' := by
        simp only [isAgg, Sem.run_bind, run_underlying' ht, Result.andThen_ok]
        first
          | rfl
          | (split
             · rename_i fs; exact (h1 fs rfl).elim
             · rename_i m e; exact (h2 m e rfl).elim
             · rfl)
      simp [part, hna, hlt]
    · exact hk.elim
  · cases hg

theorem p_fld (hM : Mem c σ.rows w S ρ F E) (hE : EnvOK c σ.env a.tmps w S ρ E) {t : TypeId} {ox : Operand} {q : Nat} (ho : ro.op = .field t ox q) {fs : Array Field} (ht : P.underlying t = some (.struct fs))
    {f : Field} (hf : fs[q]? = some f) {g : Option Nat} (hg : aggOf P f.type = some g) {x : X} (hx : xOf ox = some x) (hk : step T (.fld f.offset g x) σ K) : PRes P T c σ.rows F K ro a w := by
  simp only [step] at hk
  split at hk
  · rename_i cs hv
    have hvv := ev_sound hE hx hv
    generalize he : a.eval ox = val at hvv
    cases hvv with
    | d h =>
      cases h with
      | agg vs hs hrd =>
        obtain ⟨v, d, h1, h2, h3⟩ := run_part (P := P) (w := w) hg hs hrd hk
        exact ⟨v, fun w' => by simp [execOp, ho, he, Instr.field, run_underlying' ht, hf, asAgg, h1], .keep hM hE h2 (.d h3)⟩
  · exact hk.elim

theorem p_ext (hM : Mem c σ.rows w S ρ F E) (hE : EnvOK c σ.env a.tmps w S ρ E) {ox : Operand} {q : Nat} (ho : ro.op = .extract ox q) {x : X} (hx : xOf ox = some x) (hk : step T (.ext x q) σ K) : PRes P T c σ.rows F K ro a w := by
  have hn : ∀ (l : List AV) (q : Nat) (K' : AV → Prop), step.nthA l q K' → ∃ v, l[q]? = some v ∧ K' v := by
    intro l
    induction l with
    | nil => intro q K' h; cases q <;> exact h.elim
    | cons v l ih =>
      intro q K' h
      cases q with
      | zero => exact ⟨v, rfl, h⟩
      | succ q => simpa using ih q K' h
  simp only [step] at hk
  split at hk
  · rename_i l hv
    obtain ⟨v, h1, h2⟩ := hn l q _ hk
    have hvv := ev_sound hE hx hv
    generalize he : a.eval ox = val at hvv
    cases hvv with
    | tup vs hs hvs =>
      have hlt : q < vs.size := by rw [hs]; exact (List.getElem?_eq_some_iff.1 h1).1
      refine ⟨vs.getD q undef, fun w' => ?_, .keep hM hE h2 (hvs q v h1)⟩
      simp [execOp, ho, he, Instr.extract, hlt]
  · exact hk.elim

theorem p_len (hM : Mem c σ.rows w S ρ F E) (hE : EnvOK c σ.env a.tmps w S ρ E) {cl : Call} {ox : Operand} {t : TypeId} (ho : ro.op = .call cl) (hc : cl.callee = .builtin .len) (ha : cl.args = #[ox]) (hat : cl.argTypes = #[t])
    {e : TypeId} (ht : P.underlying t = some (.slice e)) {x : X} (hx : xOf ox = some x) (hk : step T (.len x) σ K) : PRes P T c σ.rows F K ro a w := by
  have run : ∀ ad n cap, a.eval ox = .slice ad n cap → Pure P ro a (.int .i64 n) := fun ad n cap he w' => by
    simp [execOp, ho, resolve, hc, ha, hat, invoke, builtin, he, Builtin.len_, run_underlying' ht, goInt]
  simp only [step] at hk
  split at hk
  · rename_i α esz cells d0 xs hv
    have hvv := ev_sound hE hx hv
    generalize he : a.eval ox = val at hvv
    cases hvv with
    | d h =>
      obtain ⟨ad, cap, rfl, _⟩ := h.len
      exact ⟨_, run ad _ cap he, .keep hM hE (hk.h h.maxl) (.d (.i .i64 fun _ => ((xs ()).length : Int)))⟩
  · rename_i hv
    have hvv := ev_sound hE hx hv
    generalize he : a.eval ox = val at hvv
    cases hvv with
    | d h => cases h with | v => exact ⟨_, run none 0 0 he, .keep hM hE hk (.d (.i .i64 fun _ => 0))⟩
  · rename_i r hv
    split at hk
    · rename_i s xs hr
      have hvv := ev_sound hE hx hv
      have hro := hM.row r _ hr
      generalize he : a.eval ox = val at hvv
      cases hvv with
      | own r =>
        obtain ⟨ad, cap, hq, _⟩ := hro.len
        rw [hq] at he
        exact ⟨_, run ad _ cap he, .keep hM hE (hk.h hro.maxl) (.d (.i .i64 fun _ => ((xs ()).length : Int)))⟩
    · exact hk.elim
  · exact hk.elim

theorem p_slen (hM : Mem c σ.rows w S ρ F E) (hE : EnvOK c σ.env a.tmps w S ρ E) {cl : Call} {ox : Operand} {t : TypeId} (ho : ro.op = .call cl) (hc : cl.callee = .builtin .len) (ha : cl.args = #[ox]) (hat : cl.argTypes = #[t])
    (ht : P.underlying t = some .string) {x : X} (hx : xOf ox = some x) (hk : step T (.slen x) σ K) : PRes P T c σ.rows F K ro a w := by
  simp only [step] at hk
  split at hk
  · rename_i y hv
    have hvv := ev_sound hE hx hv
    generalize he : a.eval ox = val at hvv
    cases hvv with
    | d h => cases h with
      | s => exact ⟨.int .i64 ((y ()).size : Int), fun w' => by simp [execOp, ho, resolve, hc, ha, hat, invoke, builtin, he, Builtin.len_, run_underlying' ht, goInt], .keep hM hE hk (.d (.i .i64 fun _ => ((y ()).size : Int)))⟩
  · exact hk.elim

theorem p_mm (hM : Mem c σ.rows w S ρ F E) (hE : EnvOK c σ.env a.tmps w S ρ E) {cl : Call} {ox oy : Operand} {mx : Bool} (ho : ro.op = .call cl) (hc : cl.callee = .builtin (if mx then .max else .min)) (ha : cl.args = #[ox, oy])
    {x y : X} (hx : xOf ox = some x) (hy : xOf oy = some y) (hk : step T (.mm mx x y) σ K) : PRes P T c σ.rows F K ro a w := by
  simp only [step] at hk
  split at hk
  · rename_i k m k' n hm hn
    cases h1 : decide (k = k') with
    | false => rw [h1] at hk; exact hk.elim
    | true =>
      rw [h1] at hk; simp only [cond_true] at hk
      obtain rfl : k = k' := by simpa using h1
      have ex := (ev_sound hE hx hm).i_inv
      have ey := (ev_sound hE hy hn).i_inv
      cases mx with
      | true =>
        have e : (if n () > m () then n () else m ()) = max (m ()) (n ()) := by simp only [Int.max_def]; split <;> split <;> omega
        refine ⟨.int k (max (m ()) (n ())), fun w' => ?_, .keep hM hE hk (.d (.i k fun _ => bif true then max (m ()) (n ()) else min (m ()) (n ())))⟩
        simp only [if_true] at hc
        rw [← e]
        simp [execOp, ho, resolve, hc, ha, invoke, builtin, ex, ey, Builtin.max_, Builtin.max2]
      | false =>
        have e : (if n () < m () then n () else m ()) = min (m ()) (n ()) := by simp only [Int.min_def]; split <;> split <;> omega
        refine ⟨.int k (min (m ()) (n ())), fun w' => ?_, .keep hM hE hk (.d (.i k fun _ => bif false then max (m ()) (n ()) else min (m ()) (n ())))⟩
        simp only [Bool.false_eq_true, if_false] at hc
        rw [← e]
        simp [execOp, ho, resolve, hc, ha, invoke, builtin, ex, ey, Builtin.min_, Builtin.min2]
  · exact hk.elim

theorem p_mkf (hM : Mem c σ.rows w S ρ F E) (hE : EnvOK c σ.env a.tmps w S ρ E) {f : FuncId} {caps : Array Operand} (ho : ro.op = .makeFunc (.func f) #[] caps) {xs : List X} (hx : xsOf' caps.toList = some xs)
    (hk : step T (.mkf f xs) σ K) : PRes P T c σ.rows F K ro a w := by
  simp only [step] at hk
  split at hk
  · rename_i vs hv
    obtain ⟨h1, h2⟩ := evs_sound hE hx hv
    refine ⟨.func (.func f) #[] (caps.map a.eval), fun w' => by simp [execOp, ho, Instr.makeFunc], .keep hM hE hk (.fn _ (by simpa using h1) fun j v hj => ?_)⟩
    have := h2 j v hj
    simpa [Array.getD_eq_getD_getElem?] using this
  · exact hk.elim

theorem p_mki (hM : Mem c σ.rows w S ρ F E) (hE : EnvOK c σ.env a.tmps w S ρ E) {t : TypeId} {x : Operand} (ho : ro.op = .makeInterface t x) (hr : ∃ v, ∀ w', (Instr.makeInterface t (a.eval x)).run P w' = .ok v w')
    (hk : step T .mki σ K) : PRes P T c σ.rows F K ro a w := by
  obtain ⟨v, hv⟩ := hr
  exact ⟨v, fun w' => by simp [execOp, ho, hv], .keep hM hE hk (.any v)⟩

theorem p_eqn (hM : Mem c σ.rows w S ρ F E) (hE : EnvOK c σ.env a.tmps w S ρ E) {t yt : TypeId} {ox oy : Operand} {neg : Bool} (ho : ro.op = .binOp (if neg then .neq else .eql) t ox oy yt) {e : TypeId} (ht : P.underlying t = some (.slice e))
    (hy : a.eval oy = .slice none 0 0) {x : X} (hx : xOf ox = some x) (hk : step T (.eqn neg x) σ K) : PRes P T c σ.rows F K ro a w := by
  have hg : ∀ (op : BinOp) (ad : Option Addr) (n cap : Nat) (w' : World), (eqGuard op t ox oy (.slice ad n cap) (.slice none 0 0)).run P w' = .ok () w' := fun op ad n cap w' => by unfold eqGuard; split <;> simp
  have hq : ∀ (ad : Option Addr) (n cap : Nat) (w' : World), (Op.equal t (.slice ad n cap) (.slice none 0 0)).run P w' = .ok ad.isNone w' := fun ad n cap w' => by
    show (Op.equalIn (9999 + 1) t (.slice ad n cap) (.slice none 0 0)).run P w' = _
    rw [Op.equalIn.eq_2]
    simp only [Sem.run_bind, run_underlying' ht, Result.andThen_ok]
    cases ad <;> rfl
  have run : ∀ ad n cap, a.eval ox = .slice ad n cap → Pure P ro a (.bool (bif neg then !ad.isNone else ad.isNone)) := fun ad n cap hv w' => by
    have e1 : binOp .eql t (.slice ad n cap) (.slice none 0 0) = (do pure (.bool (← Op.equal t (.slice ad n cap) (.slice none 0 0)))) := rfl
    have e2 : binOp .neq t (.slice ad n cap) (.slice none 0 0) = (do pure (.bool (!(← Op.equal t (.slice ad n cap) (.slice none 0 0))))) := rfl
    cases neg with
    | false => simp [execOp, ho, hv, hy, hg, e1, hq]
    | true => simp [execOp, ho, hv, hy, hg, e2, hq]
  simp only [step] at hk
  split at hk
  · rename_i v hv
    have hvv := ev_sound hE hx hv
    cases hb : nilD v with
    | true =>
      rw [hb] at hk; simp only [cond_true] at hk
      unfold nilD at hb
      split at hb
      · generalize he : a.eval ox = val at hvv
        cases hvv with
        | d h => cases h with | v => exact ⟨_, run none 0 0 he, .keep hM hE hk (by cases neg <;> exact .d (.b (.lit _)))⟩
      · cases hb
    | false =>
      rw [hb] at hk; simp only [cond_false] at hk
      split at hk
      · rename_i α esz cells d0 xs
        obtain ⟨hne, hk⟩ := hk
        generalize he : a.eval ox = val at hvv
        cases hvv with
        | d h =>
          obtain ⟨ad, cap, rfl, hn⟩ := h.len
          have := hn hne.h
          have hisn : ad.isNone = false := by cases ad with | none => exact absurd rfl this | some _ => rfl
          have hr := run ad _ cap he
          rw [hisn] at hr
          exact ⟨_, hr, .keep hM hE hk (by cases neg <;> exact .d (.b (.lit _)))⟩
      · exact hk.elim
  · rename_i r hv
    have hvv := ev_sound hE hx hv
    split at hk
    · rename_i s xs hr
      obtain ⟨hne, hk⟩ := hk
      have hro := hM.row r _ hr
      generalize he : a.eval ox = val at hvv
      cases hvv with
      | own r =>
        obtain ⟨ad, cap, hq', hn⟩ := hro.len
        rw [hq'] at he
        have := hn hne.h
        have hisn : ad.isNone = false := by cases ad with | none => exact absurd rfl this | some _ => rfl
        have hr := run ad _ cap he
        rw [hisn] at hr
        exact ⟨_, hr, .keep hM hE hk (by cases neg <;> exact .d (.b (.lit _)))⟩
    · exact hk.elim
  · exact hk.elim
/-! ### structs compared -/

theorem part_one {t : TypeId} {d : TypeDesc} (ht : P.underlying t = some d) (h1 : ∀ fs, d ≠ .struct fs) (h2 : ∀ n e, d ≠ .array n e) {vs : Array Value} {o : Nat} (ho : o < vs.size) (w' : World) : (part t vs o).run P w' = .ok (vs.getD o undef) w' := by
  have hna : (isAgg t).run P w' = .ok false w' := by
    simp only [isAgg, Sem.run_bind, run_underlying' ht, Result.andThen_ok]
    cases d <;> first
      | rfl
      | exact absurd rfl (h1 _)
      | exact absurd rfl (h2 _ _)
  simp [part, hna, ho]

theorem run_eqFields (n : Nat) {xs ys : Array Value} {cs ds : List D} (hxs : xs.size = cs.length) (hx : ∀ j d, cs[j]? = some d → RD w S (xs.getD j undef) d) (hys : ys.size = ds.length)
    (hy : ∀ j d, ds[j]? = some d → RD w S (ys.getD j undef) d) : ∀ (fs : List Field) (offs : List (Nat × Bool)) (e : Th Bool), eqFields P fs = some offs → eqFs offs cs ds = some e → ∀ w', (Op.eqFields (n + 1) xs ys fs).run P w' = .ok (e ()) w'
  | [], offs, e, ho, he, w' => by simp only [eqFields, Option.some.injEq] at ho; subst ho; simp only [eqFs, Option.some.injEq] at he; subst he; rfl
  | f :: fs, offs, e, ho, he, w' => by
    unfold eqFields at ho
    cases hn : (f.name == "_") with
    | true => rw [hn] at ho; cases ho
    | false =>
      rw [hn] at ho; simp only [cond_false] at ho
      have hne : f.name ≠ "_" := by simpa using hn
      have main : ∀ m q (d : TypeDesc), P.underlying f.type = some d → (∀ fs, d ≠ .struct fs) → (∀ n e, d ≠ .array n e) → eqFields P fs = some m → offs = (f.offset, q) :: m →
          (∀ u v x y r, RD w S u x → RD w S v y → eqD q x y = some r → ∀ w', (Op.equalIn (n + 1) f.type u v).run P w' = .ok (r ()) w') → (Op.eqFields (n + 1) xs ys (f :: fs)).run P w' = .ok (e ()) w' := by
        intro m q d ht h1 h2 hm ho heq
        subst ho
        unfold eqFs at he
        rw [nth_get, nth_get] at he
        split at he
        · rename_i x y r hx' hy' hr
          split at he
          · rename_i z hq
            simp only [Option.some.injEq] at he; subst he
            have hlx : f.offset < xs.size := by rw [hxs]; exact (List.getElem?_eq_some_iff.1 hx').1
            have hly : f.offset < ys.size := by rw [hys]; exact (List.getElem?_eq_some_iff.1 hy').1
            have ih := run_eqFields n hxs hx hys hy fs m r hm hr
            simp only [Op.eqFields, if_pos hne, Sem.run_bind, part_one ht h1 h2 hlx, part_one ht h1 h2 hly, Result.andThen_ok, heq _ _ x y z (hx _ _ hx') (hy _ _ hy') hq]
            cases hq1 : z () with
            | true => simp [ih]
            | false => simp
          · cases he
        · cases he
      split at ho
      · rename_i k m ht hm
        simp only [Option.some.injEq] at ho
        refine main m true _ ht (by simp) (by simp) hm ho.symm ?_
        intro u v x y r hu hv hr w'
        unfold eqD at hr
        split at hr
        · rename_i k1 a1 k2 a2 _
          cases hk : decide (k1 = k2) with
          | false => rw [hk] at hr; cases hr
          | true =>
            rw [hk] at hr; simp only [cond_true, Option.some.injEq] at hr; subst hr
            obtain rfl : k1 = k2 := by simpa using hk
            cases hu; cases hv
            rw [Op.equalIn.eq_2]
            simp only [Sem.run_bind, run_underlying' ht, Result.andThen_ok, if_true, Sem.run_pure]
            rfl
        · rename_i h; cases h
        · cases hr
      · rename_i m ht hm
        simp only [Option.some.injEq] at ho
        refine main m false _ ht (by simp) (by simp) hm ho.symm ?_
        intro u v x y r hu hv hr w'
        unfold eqD at hr
        split at hr
        · rename_i h; cases h
        · cases hu; cases hv
          simp only [Option.some.injEq] at hr; subst hr
          rw [Op.equalIn.eq_2]
          simp only [Sem.run_bind, run_underlying' ht, Result.andThen_ok, Sem.run_pure]
        · cases hr
      · cases ho

theorem p_eqa (hM : Mem c σ.rows w S ρ F E) (hE : EnvOK c σ.env a.tmps w S ρ E) {t yt : TypeId} {ox oy : Operand} {neg : Bool} (ho : ro.op = .binOp (if neg then .neq else .eql) t ox oy yt) {fs : Array Field}
    (ht : P.underlying t = some (.struct fs)) (hp : P.stoodInHeld t = false) (hg : P.eqGuardType P.depth t = false) {offs : List (Nat × Bool)} (hf : eqFields P fs.toList = some offs) {x y : X}
    (hx : xOf ox = some x) (hy : xOf oy = some y) (hk : step T (.eqa neg offs x y) σ K) : PRes P T c σ.rows F K ro a w := by
  simp only [step] at hk
  split at hk
  · rename_i cs ds hm hn
    split at hk
    · rename_i e he
      have hxv := ev_sound hE hx hm
      have hyv := ev_sound hE hy hn
      generalize hex : a.eval ox = vx at hxv
      generalize hey : a.eval oy = vy at hyv
      cases hxv with
      | d hxv => cases hxv with
        | agg xs h1 h2 => cases hyv with
          | d hyv => cases hyv with
            | agg ys h3 h4 =>
              have hF : P.fieldsOf t = fs := by simp [Program.fieldsOf, ht]
              have run : ∀ w', (Op.equalIn 10000 t (.agg xs) (.agg ys)).run P w' = .ok (e ()) w' := fun w' => by
                have := run_equalIn_struct (P := P) w' 9999 t xs ys (by rw [hF]; exact ht) hp
                rw [show (10000 : Nat) = 9999 + 1 from rfl, this, hF]
                exact run_eqFields 9998 h1 h2 h3 h4 fs.toList offs e hf he w'
              cases neg with
              | false =>
                refine ⟨.bool (e ()), fun w' => ?_, .keep hM hE hk (.d (.b (.dyn fun _ => bif false then !e () else e ())))⟩
                simp only [Bool.false_eq_true, if_false] at ho
                simp [execOp, ho, hex, hey, run_eqGuard_agg w' .eql t ox oy xs ys hg, run_eql_struct, run]
              | true =>
                refine ⟨.bool (!e ()), fun w' => ?_, .keep hM hE hk (.d (.b (.dyn fun _ => bif true then !e () else e ())))⟩
                simp only [if_true] at ho
                simp [execOp, ho, hex, hey, run_eqGuard_agg w' .neq t ox oy xs ys hg, run_neq_struct, run]
    · exact hk.elim
  · exact hk.elim

/-! ### slices cut -/

theorem bnd_sound (hE : EnvOK c σ.env a.tmps w S ρ E) {o : Option Operand} {x : Option X} (hx : o.bind xOf = x) (ho : o.isSome = x.isSome) {d : Th Int} {K' : Th Int → Prop} (hk : step.bnd σ x d K') :
    ∃ n : Th Int, K' n ∧ ((o = none ∧ n = d) ∨ ∃ p k, o = some p ∧ a.eval p = .int k (n ())) := by
  cases o with
  | none => simp only [Option.bind_none] at hx; subst hx; exact ⟨d, hk, .inl ⟨rfl, rfl⟩⟩
  | some p =>
    cases x with
    | none => simp at ho
    | some y =>
      simp only [Option.bind_some] at hx
      simp only [step.bnd] at hk
      split at hk
      · rename_i k n hv
        exact ⟨n, hk, .inr ⟨p, k, rfl, (ev_sound hE hx hv).i_inv⟩⟩
      · exact hk.elim

theorem RD.slc {v : Value} {α : Type} {esz : Nat} {cells : Th α → List D} {d0 : α} {xs : Th (List α)} (h : RD w S v (.sl esz cells d0 xs)) {l m : Nat} (hl : l ≤ m) (hm : m ≤ (xs ()).length) :
    ∃ ad n cap, v = .slice ad n cap ∧ m ≤ cap ∧ n = (xs ()).length ∧ RD w S (.slice (if cap = l then ad else ad.map (·.add (l * esz))) (m - l) (cap - l)) (.sl esz cells d0 (fun _ => ((xs ()).drop l).take (m - l))) := by
  cases h with
  | nilsl ad cap h =>
    rw [h] at hm
    simp only [List.length_nil, Nat.le_zero] at hm
    subst hm
    obtain rfl : l = 0 := by omega
    exact ⟨ad, 0, cap, rfl, Nat.zero_le _, by rw [h]; rfl, .nilsl _ _ (by simp)⟩
  | sl b off n cap us hb hn hlen hcell hrd hc =>
    refine ⟨some ⟨b, off, none⟩, n, cap, rfl, by omega, hn, ?_⟩
    by_cases hz : m - l = 0
    · rw [hz]; exact .nilsl _ _ (by simp)
    · rw [if_neg (by omega)]
      simp only [Option.map_some, add_plain]
      refine .sl b _ _ _ (fun i => us (l * esz + i)) hb (by simp; omega) ?_ ?_ ?_ (by omega)
      · intro x hx
        exact hlen x (List.mem_of_mem_drop (List.mem_of_mem_take hx))
      · intro i hi
        rw [Nat.add_assoc]
        refine hcell _ ?_
        have : l * esz + i < l * esz + (m - l) * esz := by omega
        rw [← Nat.add_mul] at this
        exact Nat.lt_of_lt_of_le this (Nat.mul_le_mul_right _ (by omega))
      · intro i j d hi hd
        have e : (((xs ()).drop l).take (m - l)).getD i d0 = (xs ()).getD (l + i) d0 := by
          simp only [List.getD_eq_getElem?_getD, List.getElem?_take, List.getElem?_drop]
          rw [if_pos hi]
        simp only [e] at hd
        have := hrd (l + i) j d (by omega) hd
        rw [Nat.add_mul, Nat.add_assoc] at this
        exact this

theorem p_slc (hM : Mem c σ.rows w S ρ F E) (hE : EnvOK c σ.env a.tmps w S ρ E) {t : TypeId} {ox : Operand} {olo ohi : Option Operand} (ho : ro.op = .slice t ox olo ohi none) {e : TypeId} (ht : P.underlying t = some (.slice e))
    {i : TypeInfo} (hi : P.info? e = some i) {x : X} (hx : xOf ox = some x) {lo hi' : Option X} (h1 : olo.bind xOf = lo) (h1' : olo.isSome = lo.isSome) (h2 : ohi.bind xOf = hi') (h2' : ohi.isSome = hi'.isSome)
    (hk : step T (.slc i.size x lo hi') σ K) : PRes P T c σ.rows F K ro a w := by
  simp only [step] at hk
  split at hk
  · rename_i α esz cells d0 xs hv
    cases hb : Nat.beq esz i.size with
    | false => rw [hb] at hk; exact hk.elim
    | true =>
      rw [hb] at hk; simp only [cond_true] at hk
      have hsz := beq_iff.1 hb
      obtain ⟨l, hk, hl⟩ := bnd_sound hE h1 h1' hk
      obtain ⟨h, hk, hh⟩ := bnd_sound hE h2 h2' hk
      obtain ⟨⟨hs⟩, hk⟩ := hk
      obtain ⟨hl0, hlh, hhn⟩ := hs
      have hvv := ev_sound hE hx hv
      generalize he : a.eval ox = val at hvv
      cases hvv with
      | d hvv =>
        obtain ⟨ad, n, cap, rfl, hmc, hn, hrd⟩ := hvv.slc (l := (l ()).toNat) (m := (h ()).toNat) (by omega) (by omega)
        subst hsz
        have hsub : (h ()).toNat - (l ()).toNat = (h () - l ()).toNat := by omega
        rw [hsub] at hrd
        refine ⟨_, fun w' => ?_, .keep hM hE hk (.d hrd)⟩
        have hh' : (h ()).toNat ≤ cap := hmc
        have hnl : ¬ ((xs ()).length : Int) < 0 := by omega
        rcases hl with ⟨rfl, rfl⟩ | ⟨p, k, rfl, hp⟩ <;> rcases hh with ⟨rfl, rfl⟩ | ⟨q, k', rfl, hq⟩
        · have e1 : cap - (cap - cap) = cap := by omega
          simp [execOp, ho, he, Instr.sliceAt, run_underlying' ht, Instr.slice, Instr.sliceBounds, run_sizeOf hi, hn]
        · have c1 : (0 : Int) ≤ h () ∧ h () ≤ (cap : Int) := by omega
          simp [execOp, ho, he, Instr.sliceAt, run_underlying' ht, Instr.slice, Instr.sliceBounds, run_sizeOf hi, Instr.sliceBound, hq, asIntOf, c1]
        · have c1 : (0 : Int) ≤ l () ∧ l () ≤ (n : Int) := by omega
          have c2 : (((xs ()).length : Int) - l ()).toNat = n - (l ()).toNat := by omega
          simp [execOp, ho, he, Instr.sliceAt, run_underlying' ht, Instr.slice, Instr.sliceBounds, run_sizeOf hi, Instr.sliceBound, hp, asIntOf, c1, c2]
        · have c1 : (0 : Int) ≤ h () ∧ h () ≤ (cap : Int) := by omega
          have c2 : (0 : Int) ≤ l () ∧ l () ≤ ((h ()).toNat : Int) := by omega
          have c3 : (h () - l ()).toNat = (h ()).toNat - (l ()).toNat := by omega
          simp only [execOp, ho, he, Instr.sliceAt, Sem.run_bind, run_underlying' ht, Result.andThen_ok, Instr.slice, Instr.sliceBounds, Option.map_some, Option.map_none, Sem.run_pure, Instr.sliceBound, hp, hq, asIntOf, Option.isSome_none, Bool.false_eq_true, if_false, if_true, Sem.run_ite, run_sizeOf hi]
          rw [if_pos c1]
          simp only [Result.andThen_ok, Sem.run_pure]
          rw [if_pos c2]
          simp [c3]
  · exact hk.elim
end
end Go.Eng
