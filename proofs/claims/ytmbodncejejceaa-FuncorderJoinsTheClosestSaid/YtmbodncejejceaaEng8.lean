/- The engine, part 8: stores, slices laid out and made, append. -/
import Derived.Test.YtmbodncejejceaaEng7
import Derived.Laws.MakeOwn
set_option linter.all false
namespace Go.Eng

theorem upd_self {α : Sort _} (f : Nat → α) (r : Nat) : upd f r (f r) = f := by
  funext q
  unfold upd
  split
  · rename_i h; rw [h]
  · rfl

theorem Ext.setRow {w : World} {g ty : Nat} {cur new : Array Value} (_hg : w.heap[g]? = some (.cells cur ty (0, 0))) {M : Nat → Prop} (hM : M g) : Ext w (w.setRow g new) M :=
  ⟨rfl, rfl, rfl, by simp [World.setRow], fun b _ hb => setRow_other w g b new (fun e => hb (e ▸ hM))⟩

theorem zrep_rd {v : Value} {d : D} (h : zrep v d) (w : World) (S : Nat → Prop) : RD w S v d := by
  rcases h with rfl | h
  · exact cv_rd w S v
  · split at h
    · obtain ⟨rfl, h⟩ := h; exact .nilsl none 0 h
    · rw [h]; exact .b _
    · exact h.elim

theorem dec1_sound {s : Sh} {ds : List D} {K : Th s.α → Prop} (h : dec1 s ds K) : ∃ x : Th s.α, ds = s.cells x ∧ K x := by
  unfold dec1 at h
  split at h
  · rename_i x hx; exact ⟨x, s.hdec _ _ hx, h⟩
  · obtain ⟨x, h1, h2⟩ := h.h; exact ⟨fun _ => x, h1, h2⟩
theorem decs_sound {s : Sh} : ∀ {dss : List (List D)} {xs : List (Th s.α)}, decs s dss = some xs → dss = (thl xs).map (fun x => s.cells (fun _ => x))
  | [], xs, h => by simp only [decs, Option.some.injEq] at h; subst h; rfl
  | ds :: l, xs, h => by
    simp only [decs] at h
    split at h
    · rename_i x m h1 h2
      simp only [Option.some.injEq] at h; subst h
      rw [decs_sound h2, s.hdec _ _ h1]
      rfl
    · cases h
theorem dec'_sound {s : Sh} {dss : List (List D)} {K : Th (List s.α) → Prop} (h : dec' s dss K) : ∃ xs : Th (List s.α), dss = (xs ()).map (fun x => s.cells (fun _ => x)) ∧ K xs := by
  unfold dec' at h
  split at h
  · rename_i xs hx; exact ⟨_, decs_sound hx, h⟩
  · obtain ⟨xs, h1, h2⟩ := h.h; exact ⟨fun _ => xs, h1, h2⟩

/-- Cells of a row with some of them written. -/
theorem seg_get (cur : Array Value) (vs : List Value) (o j : Nat) (hl : o + vs.length ≤ cur.size) :
    (cur.toList.take o ++ vs ++ cur.toList.drop (o + vs.length)).toArray.getD j undef = if o ≤ j ∧ j < o + vs.length then vs.getD (j - o) undef else cur.getD j undef := by
  have hlo : (cur.toList.take o).length = o := by simp; omega
  simp only [Array.getD_eq_getD_getElem?, List.getElem?_toArray, List.getD_eq_getElem?_getD, List.append_assoc]
  by_cases c1 : j < o
  · rw [if_neg (by omega), List.getElem?_append_left (by omega), List.getElem?_take, if_pos c1]; simp
  · rw [List.getElem?_append_right (by omega), hlo]
    by_cases c2 : j < o + vs.length
    · rw [if_pos ⟨by omega, c2⟩, List.getElem?_append_left (by omega)]
    · rw [if_neg (by omega), List.getElem?_append_right (by omega), List.getElem?_drop]
      rw [show o + vs.length + (j - o - vs.length) = j by omega]; simp
theorem extract_getD (arr : Array Value) (s e j : Nat) (h1 : s + j < e) (h2 : s + j < arr.size) : (arr.extract s e).getD j undef = arr.getD (s + j) undef := by
  simp only [Array.getD_eq_getD_getElem?, Array.getElem?_extract]
  rw [if_pos (by omega)]
theorem seg_size (cur : Array Value) (vs : List Value) (o : Nat) (hl : o + vs.length ≤ cur.size) : (cur.toList.take o ++ vs ++ cur.toList.drop (o + vs.length)).toArray.size = cur.size := by
  simp; omega

section
variable {P : Program} {T : Tab} {c : Ctx} {σ : St} {K : St → AV → Prop} {ro : Oper} {a : Act} {w : World} {S : Nat → Prop} {ρ : Nat → Value} {F : Nat → Nat → Prop} {E : Nat → Nat}

/-- A row written in place. -/
theorem put_sound (hM : Mem c σ.rows w S ρ F E) {t : Array Value} (hE : EnvOK c σ.env t w S ρ E) (h0 : Ext c.w0 w c.Fp) {r : Nat} {x y : Row} (hr : lkp σ.rows r = some y) (ha : allowed T r = true) {g : Nat} {cur new : Array Value} {ty : Nat}
    (hg : w.heap[g]? = some (.cells cur ty (0, 0))) (hF : ∀ b, F r b ↔ b = g) (hrow : RowOK (w.setRow g new) S (F r) (ρ r) x) (he : ∀ s xs, x = .sl s xs → E r = s.esz) :
    Ext w (w.setRow g new) (Mb T σ.rows F) ∧ Mem c (σ.putRow r x).rows (w.setRow g new) S ρ F E ∧ EnvOK c (σ.putRow r x).env t (w.setRow g new) S ρ E ∧ From T σ.rows F w.heap.size (σ.putRow r x).rows F := by
  have hx : Ext w (w.setRow g new) (F r) := Ext.setRow hg ((hF g).2 rfl)
  have hlt : g < w.heap.size := (Array.getElem?_eq_some_iff.1 hg).1
  have hm := hM.put (x := x) (v := ρ r) (G := F r) (e := E r) hr hx hrow (fun b hb => ⟨.inl hb, by rw [(hF b).1 hb]; simpa [World.setRow] using hlt⟩) h0 he (fun _ => ⟨rfl, fun _ => Iff.rfl⟩)
  rw [upd_self, upd_self, upd_self] at hm
  refine ⟨hx.weaken fun b hb => ⟨r, y, ha, hr, hb⟩, hm, hE.mono (fun _ h => h) (hx.same (S := S) hM.slt fun b hs hf => (hM.blk r y hr b hf).2.1 hs), ?_⟩
  intro q z b hq hb
  by_cases e : r = q
  · subst e; exact .inl ⟨r, y, hr, hb, id⟩
  · have : lkp ((r, x) :: del σ.rows r) q = some z := hq
    rw [lkp_cons_ne _ _ e] at this
    exact .inl ⟨q, z, lkp_del_some this, hb, id⟩

theorem g_store (hT : T.base = c.base) (hM : Mem c σ.rows w S ρ F E) (hE : EnvOK c σ.env a.tmps w S ρ E) (h0 : Ext c.w0 w c.Fp) {t : TypeId} {oa ov : Operand} (ho : ro.op = .store t oa ov) {i : TypeInfo} (hi : P.info? t = some i)
    {xa xv : X} (hxa : xOf oa = some xa) (hxv : xOf ov = some xv) (hk : step T (.store i.size xa xv) σ K) : GRes P T c σ.rows F K ro a w := by
  simp only [step] at hk
  obtain ⟨σ1, d, S1, hk, hM1, hE1, hd, hS1, hr1⟩ := evD_sound hT hM hE hxv hk
  cases hb : Nat.beq (len' d.parts) i.size with
  | false => rw [hb] at hk; exact hk.elim
  | true =>
    rw [hb] at hk; simp only [cond_true] at hk
    cases ho1 : ones d.parts with
    | false => rw [ho1] at hk; exact hk.elim
    | true =>
      rw [ho1] at hk; simp only [cond_true] at hk
      obtain ⟨hc, hone⟩ := parts_sound hd ho1
      have hsz : (a.eval ov).cells.size = i.size := by rw [hc.size, ← len'_eq]; exact beq_iff.1 hb
      generalize hvs : (a.eval ov).cells = vs at hc hone hsz
      have run : ∀ g o ty (cur : Array Value), a.eval oa = .pointer (some ⟨g, o, none⟩) → w.heap[g]? = some (.cells cur ty (0, 0)) → o + vs.size ≤ cur.size →
          (execOp a.eval ro).run P w = .ok .skip (w.setRow g (cur.toList.take o ++ vs.toList ++ cur.toList.drop (o + vs.toList.length)).toArray) := fun g o ty cur he hg hl => by
        have := run_storeCells_at P g o ty vs.toList 0 cur w hg (by simpa using hl) hone
        simp only [Nat.add_zero] at this
        simp [execOp, ho, Instr.storeAt, he, Instr.sureAddr, storeVar, run_sizeOf hi, hvs, hsz, this]
      have fin : ∀ {w' : World} {rows : List (Nat × Row)}, From T σ1.rows F w.heap.size rows F → From T σ.rows F w.heap.size rows F := fun h q y b hq hb => by
        rcases h q y b hq hb with ⟨r, z, e1, e2, e3⟩ | h
        · exact .inl ⟨r, z, hr1 r z e1, e2, e3⟩
        · exact .inr h
      have extm : ∀ {w' : World}, Ext w w' (Mb T σ1.rows F) → Ext w w' (Mb T σ.rows F) := fun h => h.weaken fun b ⟨r, x, e1, e2, e3⟩ => ⟨r, x, e1, hr1 r x e2, e3⟩
      split at hk
      · rename_i r o hv
        cases hal : allowed T r with
        | false => rw [hal] at hk; exact hk.elim
        | true =>
          rw [hal] at hk; simp only [cond_true] at hk
          split at hk
          · rename_i cs hr
            split at hk
            · rename_i l hl
              have hvv := ev_sound hE1 hxa hv
              generalize he : a.eval oa = val at hvv
              cases hvv with
              | bptr r o g hq =>
                obtain ⟨g', ty, cur, e1, e2, e3, e4, e5⟩ := (hM1.row r _ hr).invBox
                rw [hq] at e1; cases e1
                have hle := (over_eq _ _ _ _ hl).2
                have hbd : o + vs.size ≤ cur.size := by rw [hc.size, e3]; exact hle
                have hlt : vs.toList.length = vs.size := by simp
                have hrow : RowOK (w.setRow g (cur.toList.take o ++ vs.toList ++ cur.toList.drop (o + vs.toList.length)).toArray) S1 (F r) (ρ r) (.box l) := by
                  have hcrd : CRD w S1 (cur.toList.take o ++ vs.toList ++ cur.toList.drop (o + vs.toList.length)).toArray l :=
                    (CRD.mk e3 e4 : CRD w S1 cur cs).over hc hl _ (seg_size _ _ _ (by rw [hlt]; exact hbd)) fun j _ => by
                      rw [seg_get _ _ _ _ (by rw [hlt]; exact hbd), hlt]
                      split
                      · simp [Array.getD_eq_getD_getElem?, List.getD_eq_getElem?_getD]
                      · rfl
                  have hsame : ∀ b, S1 b → (w.setRow g (cur.toList.take o ++ vs.toList ++ cur.toList.drop (o + vs.toList.length)).toArray).heap[b]? = w.heap[b]? := fun b hs =>
                    setRow_other w g b _ fun e => (hM1.blk r _ hr b ((e5 b).2 e)).2.1 hs
                  have := RowOK.box (w := w.setRow g (cur.toList.take o ++ vs.toList ++ cur.toList.drop (o + vs.toList.length)).toArray) (S := S1) g ty _ (setRow_heap w g cur _ ty _ e2) hcrd.size (fun j y hy => (hcrd.rd j y hy).mono (fun _ h => h) hsame)
                  rw [hq]
                  have hFe : F r = fun b => b = g := by funext b; exact propext (e5 b)
                  rw [hFe]; exact this
                obtain ⟨k1, k2, k3, k4⟩ := put_sound hM1 hE1 h0 hr hal e2 e5 hrow (fun s xs h => by cases h)
                exact ⟨undef, _, .inr ⟨run g o ty cur he e2 hbd, rfl⟩, extm k1, _, _, S1, ρ, F, E, hk, k2, k3, .un, fin (w' := w) k4⟩
            · exact hk.elim
          · exact hk.elim
      · rename_i r ix o hv
        cases hal : allowed T r with
        | false => rw [hal] at hk; exact hk.elim
        | true =>
          rw [hal] at hk; simp only [cond_true] at hk
          split at hk
          · rename_i s xs hr
            split at hk
            · rename_i l hl
              obtain ⟨x, hx, hk⟩ := dec1_sound hk
              have hvv := ev_sound hE1 hxa hv
              have hEr := hM1.esz r s xs hr
              generalize he : a.eval oa = val at hvv
              cases hvv with
              | eptr r ix o g n cap hq hi0 hi1 =>
                rcases (hM1.row r _ hr).inv with ⟨_, e, _⟩ | ⟨g', n', cap', cur, e1, hn, e2, hnc, hm, hcs, hlen, hrd, e5⟩
                · rw [hq] at e; cases e
                · rw [hq] at e1; cases e1
                  rw [hEr] at he
                  generalize hk' : (ix ()).toNat = k at *
                  have hkn : k < n := by omega
                  have hle := (over_eq _ _ _ _ hl).2
                  rw [s.hlen] at hle
                  have hke : k * s.esz + s.esz ≤ cap * s.esz := by rw [← Nat.succ_mul]; exact Nat.mul_le_mul_right _ (by omega)
                  have hbd : k * s.esz + o + vs.size ≤ cur.size := by rw [hc.size, hcs]; omega
                  have hlt : vs.toList.length = vs.size := by simp
                  generalize hnew : (cur.toList.take (k * s.esz + o) ++ vs.toList ++ cur.toList.drop (k * s.esz + o + vs.toList.length)).toArray = new at *
                  have hnsz : new.size = cur.size := by rw [← hnew]; exact seg_size _ _ _ (by rw [hlt]; exact hbd)
                  have hget : ∀ j, new.getD j undef = if k * s.esz + o ≤ j ∧ j < k * s.esz + o + vs.size then vs.getD (j - (k * s.esz + o)) undef else cur.getD j undef := fun j => by
                    rw [← hnew, seg_get _ _ _ _ (by rw [hlt]; exact hbd), hlt]
                    split
                    · simp [Array.getD_eq_getD_getElem?, List.getD_eq_getElem?_getD]
                    · rfl
                  have hsame : ∀ b, S1 b → (w.setRow g new).heap[b]? = w.heap[b]? := fun b hs => setRow_other w g b _ fun e => (hM1.blk r _ hr b ((e5 b).2 e)).2.1 hs
                  have hlen' : ((xs ()).set k (x ())).length = (xs ()).length := by simp
                  have hrow : RowOK (w.setRow g new) S1 (F r) (ρ r) (.sl s (fun _ => (xs ()).set k (x ()))) := by
                    have hFe : F r = fun b => b = g := by funext b; exact propext (e5 b)
                    rw [hq, hFe]
                    refine .sl g n cap new (by simp [hn]) (setRow_heap w g cur _ s.ty _ e2) hnc hm (by rw [hnsz]; exact hcs) (fun _ _ => s.hlen _) ?_
                    intro p j y hp hy
                    by_cases hpk : p = k
                    · subst hpk
                      have hxe : ((xs ()).set p (x ())).getD p s.d0 = x () := by simp [List.getD_eq_getElem?_getD, hn ▸ hp]
                      rw [hxe] at hy
                      have hy' : l[j]? = some y := by rw [hx]; exact hy
                      have hje : j < s.esz := by
                        have := (List.getElem?_eq_some_iff.1 hy).1
                        rwa [s.hlen] at this
                      have hold : CRD w S1 (cur.extract (p * s.esz) (p * s.esz + s.esz)) (s.cells fun _ => (xs ()).getD p s.d0) := by
                        refine ⟨by rw [s.hlen]; simp; omega, fun j z hz => ?_⟩
                        have := hrd p j z hp hz
                        have hj : j < s.esz := by have := (List.getElem?_eq_some_iff.1 hz).1; rwa [s.hlen] at this
                        rw [extract_getD _ _ _ _ (by omega) (by omega)]; exact this
                      have hcrd := hold.over hc hl (new.extract (p * s.esz) (p * s.esz + s.esz)) (by simp [hnsz]) fun j hj => by
                        have hj' : j < s.esz := by simp at hj; omega
                        have g1 : ∀ arr : Array Value, arr.size = cur.size → (arr.extract (p * s.esz) (p * s.esz + s.esz)).getD j undef = arr.getD (p * s.esz + j) undef := fun arr ha => by
                          exact extract_getD _ _ _ _ (by omega) (by omega)
                        rw [g1 new hnsz, g1 cur rfl, hget]
                        by_cases c1 : o ≤ j ∧ j < o + vs.size
                        · rw [if_pos c1, if_pos ⟨by omega, by omega⟩]; congr 1; omega
                        · rw [if_neg c1, if_neg (by omega)]
                      have := hcrd.rd j y hy'
                      have g2 : (new.extract (p * s.esz) (p * s.esz + s.esz)).getD j undef = new.getD (p * s.esz + j) undef := by
                        exact extract_getD _ _ _ _ (by omega) (by omega)
                      rw [g2] at this
                      exact this.mono (fun _ h => h) hsame
                    · have hxe : ((xs ()).set k (x ())).getD p s.d0 = (xs ()).getD p s.d0 := by simp [List.getD_eq_getElem?_getD, List.getElem?_set_ne (Ne.symm hpk)]
                      rw [hxe] at hy
                      have hje : j < s.esz := by
                        have := (List.getElem?_eq_some_iff.1 hy).1
                        rwa [s.hlen] at this
                      have hout : ¬ (k * s.esz + o ≤ p * s.esz + j ∧ p * s.esz + j < k * s.esz + o + vs.size) := by
                        rw [hc.size]
                        rcases Nat.lt_or_gt_of_ne hpk with h | h
                        · have : p * s.esz + s.esz ≤ k * s.esz := by rw [← Nat.succ_mul]; exact Nat.mul_le_mul_right _ h
                          omega
                        · have : k * s.esz + s.esz ≤ p * s.esz := by rw [← Nat.succ_mul]; exact Nat.mul_le_mul_right _ h
                          omega
                      rw [hget, if_neg hout]
                      exact (hrd p j y hp hy).mono (fun _ h => h) hsame
                  obtain ⟨k1, k2, k3, k4⟩ := put_sound hM1 hE1 h0 hr hal e2 e5 hrow (fun s' xs' h => by cases h; exact hEr)
                  exact ⟨undef, _, .inr ⟨by rw [run g (k * s.esz + o) s.ty cur he e2 hbd, hnew], rfl⟩, extm k1, _, _, S1, ρ, F, E, hk, k2, k3, .un, fin (w' := w) k4⟩
            · exact hk.elim
          · exact hk.elim
      · exact hk.elim
end
end Go.Eng
