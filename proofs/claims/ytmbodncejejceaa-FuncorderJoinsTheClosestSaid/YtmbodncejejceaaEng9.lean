/- The engine, part 9: slices laid out and made, append. -/
import Derived.Test.YtmbodncejejceaaEng8
set_option linter.all false
namespace Go.Eng

theorem fill_row (sz : Nat) : ∀ (vs : List Value) (k : Nat) (us : Array Value), (∀ v ∈ vs, v.cells.size = sz) → (k + vs.length) * sz ≤ us.size →
    ∃ out, Instr.fill (fun i => some (i * sz, sz)) us ((vs.zipIdx k).map fun p => (p.2, p.1)) = some out ∧ out.size = us.size ∧ (∀ p, p < k * sz → out.getD p undef = us.getD p undef) ∧
      ∀ q j, q < vs.length → j < sz → out.getD ((k + q) * sz + j) undef = (vs.getD q undef).cells.getD j undef
  | [], k, us, _, _ => ⟨us, rfl, rfl, fun _ _ => rfl, fun q j h _ => by cases h⟩
  | v :: vs, k, us, hc, hs => by
    have hv : v.cells.size = sz := hc v List.mem_cons_self
    simp only [List.length_cons] at hs
    have hk : k * sz + sz ≤ us.size := by
      have : (k + 1) * sz ≤ (k + (vs.length + 1)) * sz := Nat.mul_le_mul_right _ (by omega)
      rw [Nat.add_mul, Nat.one_mul] at this; omega
    let us1 := v.cells.toList.zipIdx.foldl (fun cs (p : Value × Nat) => cs.setIfInBounds (k * sz + p.2) p.1) us
    have hs1 : us1.size = us.size := foldl_put_size _ _ _
    have hg1 : ∀ j, j < us.size → us1.getD j undef = if k * sz ≤ j ∧ j < k * sz + sz then v.cells.getD (j - k * sz) undef else us.getD j undef := fun j hj => by
      have := foldl_put_get (k * sz) v.cells.toList 0 us j hj
      simp only [Nat.add_zero, Array.length_toList, hv] at this
      rw [this]
      split
      · simp [Array.getD_eq_getD_getElem?, List.getD_eq_getElem?_getD]
      · rfl
    obtain ⟨out, h1, h2, h3, h4⟩ := fill_row sz vs (k + 1) us1 (fun x hx => hc x (List.mem_cons_of_mem _ hx)) (by rw [hs1, show k + 1 + vs.length = k + (vs.length + 1) by omega]; exact hs)
    refine ⟨out, ?_, h2.trans hs1, fun p hp => ?_, fun q j hq hj => ?_⟩
    · simp only [List.zipIdx_cons, List.map_cons, Instr.fill]
      rw [if_neg (by simp only [Bool.or_eq_true, decide_eq_true_eq, not_or]; exact ⟨fun h => h hv, by rw [hv]; omega⟩)]
      rw [← Array.foldl_toList, Array.toList_zipIdx]
      exact h1
    · rw [h3 p (by rw [Nat.add_mul]; omega), hg1 p (by omega), if_neg (by omega)]
    · cases q with
      | zero =>
        rw [Nat.add_zero, h3 _ (by rw [Nat.add_mul]; omega), hg1 _ (by omega), if_pos ⟨by omega, by omega⟩]
        simp [show k * sz + j - k * sz = j by omega]
      | succ q =>
        have := h4 q j (by simpa using hq) hj
        rw [show k + (q + 1) = k + 1 + q by omega, this]; simp

section
variable {P : Program} {T : Tab} {c : Ctx} {σ : St} {K : St → AV → Prop} {ro : Oper} {a : Act} {w : World} {S : Nat → Prop} {ρ : Nat → Value} {F : Nat → Nat → Prop} {E : Nat → Nat}

theorem inRow_spec : ∀ {ps : List (Nat × Operand)} {k : Nat} {xs : List X}, inRow k ps = some xs → xsOf' (ps.map (·.2)) = some xs ∧ ∀ f : Operand → Value, (ps.map fun (i, x) => (i, f x)) = (((ps.map (·.2)).map f).zipIdx k).map fun p => (p.2, p.1)
  | [], k, xs, h => by simp only [inRow, Option.some.injEq] at h; subst h; exact ⟨rfl, fun _ => rfl⟩
  | (i, x) :: ps, k, xs, h => by
    simp only [inRow] at h
    cases hb : Nat.beq i k with
    | false => rw [hb] at h; cases h
    | true =>
      rw [hb] at h; simp only [cond_true] at h
      split at h
      · rename_i y m h1 h2
        simp only [Option.some.injEq] at h; subst h
        obtain ⟨e1, e2⟩ := inRow_spec h2
        refine ⟨by simp [xsOf', h1, e1], fun f => ?_⟩
        simp only [List.map_cons, List.zipIdx_cons, e2 f]
        rw [beq_iff.1 hb]
      · cases h

theorem onesAll_mem : ∀ {l : List D}, onesAll l = true → ∀ d ∈ l, ones d.parts = true
  | [], _, _, h => by cases h
  | x :: l, ho, d, h => by
    unfold onesAll at ho
    cases hx : ones x.parts with
    | false => rw [hx] at ho; cases ho
    | true =>
      rw [hx] at ho; simp only [cond_true] at ho
      rcases List.mem_cons.1 h with rfl | h
      · exact hx
      · exact onesAll_mem ho d h

theorem g_bsl (hT : T.base = c.base) (hM : Mem c σ.rows w S ρ F E) (hE : EnvOK c σ.env a.tmps w S ρ E) (h0 : Ext c.w0 w c.Fp) {t : TypeId} {n : Nat} {ps : Array (Nat × Operand)} (ho : ro.op = .buildSlice t n ps) {e : TypeId}
    (ht : P.underlying t = some (.slice e)) {i : TypeInfo} (hi : P.info? e = some i) {xs : List X} (hx : inRow 0 ps.toList = some xs) (hn : xs.length = n) (hb1 : n * i.size ≤ 16777216) (hb2 : n ≤ 16777216) {z : Value} (hz : i.zero = some z)
    (hk : step T (.bsl e i.size xs) σ K) : GRes P T c σ.rows F K ro a w := by
  obtain ⟨q1, q2⟩ := inRow_spec hx
  simp only [step] at hk
  obtain ⟨σ1, ds, S1, hk, hM1, hE1, hl, hds, hS1, hr1⟩ := evDs_sound hT hM hE q1 hk
  split at hk
  · rename_i s hs
    cases c1 : Nat.beq s.ty e with
    | false => rw [c1] at hk; exact hk.elim
    | true => cases c2 : Nat.beq s.esz i.size with
      | false => rw [c1, c2] at hk; exact hk.elim
      | true => cases c3 : onesAll ds with
        | false => rw [c1, c2, c3] at hk; exact hk.elim
        | true =>
          rw [c1, c2, c3] at hk; simp only [cond_true] at hk
          have hty := beq_iff.1 c1
          have hsz := beq_iff.1 c2
          obtain ⟨ys, hys, hk⟩ := dec'_sound hk
          generalize hvs : (ps.toList.map (·.2)).map a.eval = vs at hds
          have hlv : vs.length = ds.length := by rw [← hvs]; simpa using hl
          have hly : (ys ()).length = ds.length := by have := congrArg List.length hys; simpa using this.symm
          have hlx : ∀ {os : List Operand} {xs : List X}, xsOf' os = some xs → xs.length = os.length := fun {os} => by
            induction os with
            | nil => intro xs h; simp only [xsOf', Option.some.injEq] at h; subst h; rfl
            | cons o os ih =>
              intro xs h
              simp only [xsOf'] at h
              split at h
              · rename_i y m h1 h2; simp only [Option.some.injEq] at h; subst h; simp [ih h2]
              · cases h
          have hnn : vs.length = n := by rw [← hn, hlx q1, ← hvs]; simp
          have part : ∀ q, q < vs.length → ∃ d, ds[q]? = some d ∧ CRD w S1 (vs.getD q undef).cells d.parts ∧ d.parts = s.cells (fun _ => (ys ()).getD q s.d0) := fun q hq => by
            have hq' : q < ds.length := by omega
            refine ⟨ds[q], List.getElem?_eq_getElem hq', (parts_sound (hds q _ (List.getElem?_eq_getElem hq')) (onesAll_mem c3 _ (List.getElem_mem _))).1, ?_⟩
            have := congrArg (fun l => l[q]?) hys
            simp only [List.getElem?_map, List.getElem?_eq_getElem hq', Option.map_some] at this
            rw [List.getElem?_eq_getElem (by omega)] at this
            simp only [Option.map_some, Option.some.injEq] at this
            rw [this, List.getD_eq_getElem?_getD, List.getElem?_eq_getElem (by omega)]
            rfl
          have hcs : ∀ v ∈ vs, v.cells.size = s.esz := fun v hv => by
            obtain ⟨q, hq, rfl⟩ := List.getElem_of_mem hv
            obtain ⟨d, _, h2, h3⟩ := part q hq
            have := h2.size
            rw [h3, s.hlen] at this
            rw [← this, List.getD_eq_getElem?_getD, List.getElem?_eq_getElem hq]; rfl
          generalize hus : (Array.range (n * i.size)).map (fun x => (if n * i.size = 0 then (#[] : Array Value) else z.cells)[x % (if n * i.size = 0 then (#[] : Array Value) else z.cells).size]!) = us
          have husz : us.size = n * i.size := by rw [← hus]; simp
          obtain ⟨out, f1, f2, _, f4⟩ := fill_row s.esz vs 0 us hcs (by rw [husz, hnn, hsz]; simp)
          have hrun : (execOp a.eval ro).run P w = .ok (.value (.slice (some ⟨w.heap.size, 0, none⟩) n n)) (w.alloc (.cells out e)) := by
            have hf : Instr.fill (fun i_1 => some (i_1 * i.size, i.size)) us (ps.toList.map fun (i, x) => (i, a.eval x)) = some out := by rw [q2 a.eval, hvs, ← hsz]; exact f1
            have h16 : ¬ (n * i.size > 2 ^ 24) := by omega
            by_cases hzz : n * i.size = 0
            · have hu0 : us = #[] := Array.eq_empty_of_size_eq_zero (by rw [husz, hzz])
              rw [hu0] at hf
              have hb : (Instr.buildSlice t n (ps.map fun (i, x) => (i, a.eval x))).run P w = .ok (.slice (some ⟨w.heap.size, 0, none⟩) n n) (w.alloc (.cells out e)) := by
                unfold Instr.buildSlice
                simp only [Sem.run_bind, run_underlying' ht, Result.andThen_ok, run_sizeOf hi, hzz]
                have hr0 : (Array.range 0 : Array Nat) = #[] := rfl
                have hf2 : Instr.fill (fun i_1 => some (i_1 * i.size, i.size)) #[] (ps.toList.map fun x => (x.fst, a.eval x.snd)) = some out := hf
                simp [newRow, hr0, hf2]
              simp [execOp, ho, hb]
            · rw [← hus, if_neg hzz] at hf
              simp [execOp, ho, Instr.buildSlice, run_underlying' ht, run_sizeOf hi, hzz, newRow, zeroValue, typeInfo, hi, hz, hf, show ¬ (16777216 < n * i.size) by omega]
          have hsame := (Ext.alloc w (.cells out e) (fun _ => False)).same (S := S1) hM1.slt (fun _ _ h => h)
          have hrow : RowOK (w.alloc (.cells out e)) S1 (fun b => b = w.heap.size) (.slice (some ⟨w.heap.size, 0, none⟩) n n) (.sl s ys) := by
            refine .sl w.heap.size n n out (by omega) (by rw [hty]; exact alloc_new w _) (Nat.le_refl _) (by unfold maxLen; omega) (by rw [f2, husz, hsz]) (fun _ _ => s.hlen _) fun q j d hq hd => ?_
            have hj : j < s.esz := by have := (List.getElem?_eq_some_iff.1 hd).1; rwa [s.hlen] at this
            obtain ⟨d', _, h2, h3⟩ := part q (by omega)
            have := f4 q j (by omega) hj
            rw [Nat.zero_add] at this
            rw [this]
            exact (h2.rd j d (by rw [h3]; exact hd)).mono (fun _ h => h) hsame
          obtain ⟨k1, k2, k3⟩ := add_sound hT hM1 hE1 (Ext.alloc w _ _) h0 hrow (fun b hb => by subst hb; exact ⟨Nat.le_refl _, by rw [alloc_size]; exact Nat.lt_succ_self _⟩) (e := s.esz) (fun s' xs' h => by cases h; rfl)
          refine ⟨_, _, .inl hrun, Ext.alloc w (.cells out e) _, _, _, S1, _, _, _, hk, k1, k2, ?_, ?_⟩
          · have := VOK.own (w := w.alloc (.cells out e)) (S := S1) (ρ := upd ρ (σ1.fresh T) (.slice (some ⟨w.heap.size, 0, none⟩) n n)) (E := upd E (σ1.fresh T) s.esz) (σ1.fresh T)
            rw [upd_same] at this; exact this
          · intro q y b hq hb'
            rcases k3 q y b hq hb' with ⟨r, z, e1, e2, e3⟩ | h
            · exact .inl ⟨r, z, hr1 r z e1, e2, e3⟩
            · exact .inr h
  · exact hk.elim

theorem zeq_eq : ∀ {l m : List Value}, zeq l m = true → l.length = m.length ∧ ∀ (j : Nat) (w : World) (S : Nat → Prop) (u v : Value) (d : D), l[j]? = some u → m[j]? = some v → zrep u d → RD w S v d
  | [], [], _ => ⟨rfl, fun j w S u v d h => by simp at h⟩
  | [], _ :: _, h => by simp [zeq] at h
  | _ :: _, [], h => by simp [zeq] at h
  | a :: l, b :: m, h => by
    simp only [zeq, Bool.and_eq_true] at h
    obtain ⟨h1, h2⟩ := h
    obtain ⟨e1, e2⟩ := zeq_eq h2
    refine ⟨by simp [e1], fun j w S u v d hu hv hz => ?_⟩
    cases j with
    | succ j => exact e2 j w S u v d (by simpa using hu) (by simpa using hv) hz
    | zero =>
      simp only [List.getElem?_cons_zero, Option.some.injEq] at hu hv
      subst hu; subst hv
      have : a = b ∨ ∃ s t, a = .string s ∧ b = .string t ∧ s = t := by
        unfold zeq1 at h1
        split at h1
        · simp only [Bool.and_eq_true, decide_eq_true_eq] at h1; obtain ⟨rfl, rfl⟩ := h1; exact .inl rfl
        · simp only [beq_iff_eq] at h1; subst h1; exact .inl rfl
        · exact .inl rfl
        · rename_i s t
          right
          refine ⟨s, t, rfl, rfl, ?_⟩
          simp only [beq_iff_eq] at h1
          cases s; cases t; simp_all
        · cases h1
      rcases this with rfl | ⟨s, t, rfl, rfl, rfl⟩ <;> exact zrep_rd hz w S

theorem madeCells_get (z : Array Value) (n sz i j : Nat) (hz : z.size = sz) (hi : i < n) (hj : j < sz) : (madeCells z (n * sz)).getD (i * sz + j) undef = z.getD j undef := by
  have h1 : i * sz + j < n * sz := by
    have : (i + 1) * sz ≤ n * sz := Nat.mul_le_mul_right _ hi
    rw [Nat.add_mul, Nat.one_mul] at this; omega
  have h2 : (i * sz + j) % sz = j := by rw [Nat.add_comm, Nat.add_mul_mod_self_right]; exact Nat.mod_eq_of_lt hj
  simp only [madeCells, Array.getD_eq_getD_getElem?, Array.getElem?_map, Array.getElem?_range, h1, if_true, Option.map_some, Option.getD_some, hz, h2]
  rw [getElem!_pos z j (by omega)]
  simp [hz ▸ hj]

theorem g_mks (hT : T.base = c.base) (hM : Mem c σ.rows w S ρ F E) (hE : EnvOK c σ.env a.tmps w S ρ E) (h0 : Ext c.w0 w c.Fp) {t : TypeId} {ol oc : Operand} (ho : ro.op = .makeSlice t ol oc) {e : TypeId}
    (ht : P.underlying t = some (.slice e)) {i : TypeInfo} (hi : P.info? e = some i) {z : Value} (hz : i.zero = some z) (hzs : z.cells.size = i.size) (hby : 0 < i.bytes) {xl xc : X} (hxl : xOf ol = some xl) (hxc : xOf oc = some xc)
    (hk : step T (.mks e i.size i.bytes z.cells.toList xl xc) σ K) : GRes P T c σ.rows F K ro a w := by
  simp only [step] at hk
  split at hk
  · rename_i m n s hm hn hs
    cases c1 : Nat.beq s.ty e with
    | false => rw [c1] at hk; exact hk.elim
    | true => cases c2 : Nat.beq s.esz i.size with
      | false => rw [c1, c2] at hk; exact hk.elim
      | true => cases c3 : zeq s.zs z.cells.toList with
        | false => rw [c1, c2, c3] at hk; exact hk.elim
        | true =>
          rw [c1, c2, c3] at hk; simp only [cond_true] at hk
          have hty := beq_iff.1 c1
          have hsz := beq_iff.1 c2
          obtain ⟨⟨hs1⟩, hk⟩ := hk
          obtain ⟨p1, p2, p3⟩ := hs1
          have el := (ev_sound hE hxl hm).i_inv
          have ec := (ev_sound hE hxc hn).i_inv
          have hby1 : (1 : Int) ≤ (i.bytes : Int) := by omega
          have p4 : n () ≤ 140737488355328 := by
            have : n () * 1 ≤ n () * (i.bytes : Int) := Int.mul_le_mul_of_nonneg_left hby1 (by omega)
            omega
          have hrun := run_make (P := P) w t e i z ht hi hz .i64 .i64 (m ()) (n ()) p1 p2 (by rw [Int.mul_comm]; omega) (by omega)
          obtain ⟨zl, zr⟩ := zeq_eq c3
          have hrow : RowOK (w.alloc (.cells (madeCells z.cells ((n ()).toNat * i.size)) e)) S (fun b => b = w.heap.size) (.slice (some ⟨w.heap.size, 0, none⟩) (m ()).toNat (n ()).toNat) (.sl s (fun _ => List.replicate (m ()).toNat s.d0)) := by
            refine .sl w.heap.size _ _ _ (by simp) (by rw [hty]; exact alloc_new w _) (by omega) (by unfold maxLen; omega) (by rw [size_madeCells, hsz]) (fun _ _ => s.hlen _) fun q j d hq hd => ?_
            have hj : j < s.esz := by have := (List.getElem?_eq_some_iff.1 hd).1; rwa [s.hlen] at this
            rw [hsz, madeCells_get z.cells _ i.size q j hzs (by omega) (by omega)]
            have hrep : (List.replicate (m ()).toNat s.d0).getD q s.d0 = s.d0 := by simp [List.getD_eq_getElem?_getD, hq]
            rw [hrep] at hd
            have hjz : j < s.zs.length := by rw [s.hz.1]; exact hj
            have hjc : j < z.cells.size := by omega
            refine zr j _ S s.zs[j] _ d (List.getElem?_eq_getElem hjz) ?_ (s.hz.2 j _ d (List.getElem?_eq_getElem hjz) hd)
            simp [Array.getD_eq_getD_getElem?, hjc]
          obtain ⟨k1, k2, k3⟩ := add_sound hT hM hE (Ext.alloc w _ _) h0 hrow (fun b hb => by subst hb; exact ⟨Nat.le_refl _, by rw [alloc_size]; exact Nat.lt_succ_self _⟩) (e := s.esz) (fun s' xs' h => by cases h; rfl)
          refine ⟨.slice (some ⟨w.heap.size, 0, none⟩) (m ()).toNat (n ()).toNat, _, .inl (by simp [execOp, ho, el, ec, hrun]), Ext.alloc w _ _, _, _, S, _, _, _, hk, k1, k2, ?_, k3⟩
          have := VOK.own (w := w.alloc (.cells (madeCells z.cells ((n ()).toNat * i.size)) e)) (S := S) (ρ := upd ρ (σ.fresh T) (.slice (some ⟨w.heap.size, 0, none⟩) (m ()).toNat (n ()).toNat)) (E := upd E (σ.fresh T) s.esz) (σ.fresh T)
          rw [upd_same] at this; exact this
  · exact hk.elim
end
end Go.Eng
