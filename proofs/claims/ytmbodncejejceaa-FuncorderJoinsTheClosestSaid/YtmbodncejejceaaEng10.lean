/- The engine, part 10: append. -/
import Derived.Test.YtmbodncejejceaaEng9
import Derived.Laws.AppendOwnNone
set_option linter.all false
namespace Go.Eng

/-- What is appended: m elements, their cells in a row. -/
structure Src (w : World) (S : Nat → Prop) (esz : Nat) (dss : List (List D)) (u : Value) : Prop where
  h : ∃ (ao : Option Addr) (c : Nat) (us : Nat → Value), u = .slice ao dss.length c ∧
    (dss.length ≠ 0 → ∃ b o, ao = some ⟨b, o, none⟩ ∧ ∀ i, i < dss.length * esz → w.cell? ⟨b, o + i, none⟩ = some (us i)) ∧
    ∀ (i j : Nat) (ds : List D) (d : D), dss[i]? = some ds → ds[j]? = some d → RD w S (us (i * esz + j)) d

theorem RD.src {w : World} {S : Nat → Prop} {u : Value} {α : Type} {esz : Nat} {cells : Th α → List D} {d0 : α} {xs : Th (List α)} (h : RD w S u (.sl esz cells d0 xs)) :
    Src w S esz ((xs ()).map fun x => cells fun _ => x) u := by
  cases h with
  | nilsl a c h => exact ⟨a, c, fun _ => undef, by simp [h], by simp [h], by simp [h]⟩
  | sl b off n c us hb hn hlen hcell hrd hc =>
    refine ⟨some ⟨b, off, none⟩, c, us, by simp [hn], fun _ => ⟨b, off, rfl, fun i hi => hcell i (by simpa [hn] using hi)⟩, fun i j ds d hi hj => ?_⟩
    rw [List.getElem?_map] at hi
    have hlt : i < (xs ()).length := by
      cases hx : (xs ())[i]? with
      | none => rw [hx] at hi; cases hi
      | some x => exact (List.getElem?_eq_some_iff.1 hx).1
    rw [List.getElem?_eq_getElem hlt] at hi
    simp only [Option.map_some, Option.some.injEq] at hi
    refine hrd i j d (by omega) ?_
    have : (xs ()).getD i d0 = (xs ())[i] := by simp [List.getD_eq_getElem?_getD, hlt]
    rw [this, hi]; exact hj

theorem RowOK.src {w : World} {S F : Nat → Prop} {u : Value} {s : Sh} {xs : Th (List s.α)} (h : RowOK w S F u (.sl s xs)) : Src w S s.esz ((xs ()).map fun x => s.cells fun _ => x) u := by
  rcases h.inv with ⟨e, rfl, _⟩ | ⟨g, n, cap, cur, rfl, hn, hg, hnc, hm, hc, hlen, hrd, _⟩
  · exact ⟨none, 0, fun _ => undef, by simp [e], by simp [e], by simp [e]⟩
  · refine ⟨some ⟨g, 0, none⟩, cap, fun i => cur.getD i undef, by simp [hn], fun _ => ⟨g, 0, rfl, fun i hi => ?_⟩, fun i j ds d hi hj => ?_⟩
    · rw [Nat.zero_add]
      refine cell_of_row hg ?_
      rw [hc]
      have hi' : i < n * s.esz := by simpa [hn] using hi
      exact Nat.lt_of_lt_of_le hi' (Nat.mul_le_mul_right _ hnc)
    · rw [List.getElem?_map] at hi
      have hlt : i < (xs ()).length := by
        cases hx : (xs ())[i]? with
        | none => rw [hx] at hi; cases hi
        | some x => exact (List.getElem?_eq_some_iff.1 hx).1
      rw [List.getElem?_eq_getElem hlt] at hi
      simp only [Option.map_some, Option.some.injEq] at hi
      refine hrd i j d (by omega) ?_
      have : (xs ()).getD i s.d0 = (xs ())[i] := by simp [List.getD_eq_getElem?_getD, hlt]
      rw [this, hi]; exact hj

theorem ext_drew_alloc (w : World) (o : Obj) (M : Nat → Prop) : Ext w (w.drew.alloc o) M :=
  ⟨rfl, rfl, rfl, by rw [alloc_size]; exact Nat.le_succ _, fun b hb h => (Ext.alloc w.drew o M).block b hb h⟩

section
variable {P : Program} {w : World} {S G : Nat → Prop}

theorem app_run {t ty : TypeId} {s : Sh} {i : TypeInfo} {z : Value} (ht : P.underlying t = some (.slice s.ty)) (hi : P.info? s.ty = some i) (hz : i.zero = some z) (hzs : z.cells.size = i.size) (hsz : s.esz = i.size) (h0 : 0 < i.size) (hby : 0 < i.bytes)
    {v : Value} {xs : Th (List s.α)} (hr : RowOK w S G v (.sl s xs)) (hS : ∀ b, S b → b < w.heap.size ∧ ¬ G b) (hG : ∀ b, G b → b < w.heap.size) {ys : List s.α} {u : Value} (hu : Src w S s.esz (ys.map fun y => s.cells fun _ => y) u)
    (hb : ((xs ()).length + ys.length) * i.bytes ≤ 140737488355328) :
    ∃ v' w' G', (Builtin.append_ #[t, t] ty #[v, u]).run P w = .ok v' w' ∧ Ext w w' G ∧ RowOK w' S G' v' (.sl s (fun _ => xs () ++ ys)) ∧ ∀ b, G' b → (G b ∨ w.heap.size ≤ b) ∧ b < w'.heap.size := by
  obtain ⟨ao, c, us, rfl, hcell, hrdu⟩ := hu.h
  simp only [List.length_map] at hcell ⊢
  by_cases hm0 : ys.length = 0
  · -- nothing is appended
    have hy : ys = [] := List.eq_nil_of_length_eq_zero hm0
    subst hy
    have hown : ∃ n x, w.ownsRow 0 s.ty s.esz v n x := by
      rcases hr.inv with ⟨e, rfl, _⟩ | ⟨g, n, cap, cur, rfl, hn, hg, hnc, hm, hc, _⟩
      · exact ⟨0, [], by simp, .inl ⟨rfl, rfl⟩⟩
      · refine ⟨n, cur.toList.take (n * s.esz), ?_, .inr ⟨g, cap, cur, rfl, Nat.zero_le _, hg, hnc, hm, hc, rfl⟩⟩
        simp only [List.length_take, Array.length_toList, hc]
        exact Nat.min_eq_left (Nat.mul_le_mul_right _ hnc)
    refine ⟨v, w, G, ?_, .refl _ _, by simpa using hr, fun b hb => ⟨.inl hb, hG b hb⟩⟩
    have hl0 : ([] : List s.α).length = 0 := rfl
    rcases hr.inv with ⟨e, rfl, _⟩ | ⟨g, n, cap, cur, rfl, hn, hg, hnc, hm, hc, _⟩
    · cases ao <;> simp [Builtin.append_, run_underlying' ht, run_sizeOf hi, Builtin.lenOf, Builtin.firstCells, loadCells, loadCellsFrom]
    · cases ao <;> simp [Builtin.append_, run_underlying' ht, run_sizeOf hi, Builtin.lenOf, Builtin.firstCells, loadCells, loadCellsFrom, hnc, storeCells]
  · obtain ⟨b0, o0, rfl, hcl⟩ := hcell hm0
    clear hcell
    generalize hm : ys.length = m at *
    let news : List Value := (List.range (m * s.esz)).map us
    have hns : news.length = m * s.esz := by simp [news]
    have hnl : news.length = m * i.size := by rw [hns, hsz]
    have hnews : ∀ (j : Nat) (x : Value), news[j]? = some x → w.cell? ((⟨b0, o0, none⟩ : Addr).add j) = some x := fun j x hj => by
      have hlt : j < m * s.esz := by have := (List.getElem?_eq_some_iff.1 hj).1; simpa [news] using this
      rw [add_plain, hcl j hlt]
      simp only [news, List.getElem?_map, List.getElem?_range hlt, Option.map_some, Option.some.injEq] at hj
      rw [hj]
    have hy : ∀ q, q < m → ∃ x, ys[q]? = some x := fun q hq => ⟨ys[q], List.getElem?_eq_getElem (by omega)⟩
    have hcd : ∀ q j d, q < m → (s.cells fun _ => ys.getD q s.d0)[j]? = some d → RD w S (us (q * s.esz + j)) d := fun q j d hq hd => by
      obtain ⟨x, hx⟩ := hy q hq
      have e : ys.getD q s.d0 = x := by simp [List.getD_eq_getElem?_getD, hx]
      rw [e] at hd
      exact hrdu q j _ d (by rw [List.getElem?_map, hx]; rfl) hd
    have h1 : ∀ x ∈ news, x.oneCell' = true := fun x hx => by
      simp only [news, List.mem_map, List.mem_range] at hx
      obtain ⟨k, hk, rfl⟩ := hx
      have hes : 0 < s.esz := by omega
      have hq : k / s.esz < m := Nat.div_lt_of_lt_mul (by rw [Nat.mul_comm]; exact hk)
      have hj : k % s.esz < (s.cells fun _ => ys.getD (k / s.esz) s.d0).length := by rw [s.hlen]; exact Nat.mod_lt _ hes
      have := hcd (k / s.esz) (k % s.esz) _ hq (List.getElem?_eq_getElem hj)
      have e : k / s.esz * s.esz + k % s.esz = k := by rw [Nat.mul_comm]; exact Nat.div_add_mod k s.esz
      rw [e] at this
      exact (one_cell this (ones_mem (s.hone _) _ (List.getElem_mem _))).1
    have hnb : ∀ n : Nat, n ≤ n * i.bytes := fun n => Nat.le_mul_of_pos_right n hby
    have hsum := hnb ((xs ()).length + m)
    -- the row behind it
    have mk : ∀ (w' : World) (g cap n : Nat) (cur : Array Value), n = (xs ()).length → w'.heap[g]? = some (.cells cur s.ty (0, 0)) → n + m ≤ cap → cap ≤ maxLen → cur.size = cap * s.esz → (∀ b, S b → w'.heap[b]? = w.heap[b]?) →
        (∀ p j d, p < n → (s.cells fun _ => (xs ()).getD p s.d0)[j]? = some d → RD w S (cur.getD (p * s.esz + j) undef) d) → (∀ k, k < m * s.esz → cur.getD (n * s.esz + k) undef = us k) →
        RowOK w' S (fun b => b = g) (.slice (some ⟨g, 0, none⟩) (n + m) cap) (.sl s (fun _ => xs () ++ ys)) := by
      intro w' g cap n cur hn hg hcap hmx hcs hsame hold hnew
      refine .sl g (n + m) cap cur (by simp [hn, hm]) hg hcap hmx hcs (fun _ _ => s.hlen _) fun p j d hp hd => ?_
      by_cases hpn : p < n
      · have e : (xs () ++ ys).getD p s.d0 = (xs ()).getD p s.d0 := by simp [List.getD_eq_getElem?_getD, List.getElem?_append_left (show p < (xs ()).length by omega)]
        rw [e] at hd
        exact (hold p j d hpn hd).mono (fun _ h => h) hsame
      · have e : (xs () ++ ys).getD p s.d0 = ys.getD (p - n) s.d0 := by simp [List.getD_eq_getElem?_getD, List.getElem?_append_right (show (xs ()).length ≤ p by omega), hn]
        rw [e] at hd
        have hj : j < s.esz := by have := (List.getElem?_eq_some_iff.1 hd).1; rwa [s.hlen] at this
        have hq : p - n < m := by omega
        have e2 : p * s.esz + j = n * s.esz + ((p - n) * s.esz + j) := by
          rw [← Nat.add_assoc, ← Nat.add_mul]; congr 2; omega
        have hk : (p - n) * s.esz + j < m * s.esz := by
          have : (p - n + 1) * s.esz ≤ m * s.esz := Nat.mul_le_mul_right _ hq
          rw [Nat.add_mul, Nat.one_mul] at this; omega
        rw [e2, hnew _ hk]
        exact (hcd (p - n) j d hq hd).mono (fun _ h => h) hsame
    have hgetnew : ∀ k, k < m * s.esz → news.getD k undef = us k := fun k hk => by simp [news, List.getD_eq_getElem?_getD, List.getElem?_range hk]
    rcases hr.inv with ⟨e, rfl, hGn⟩ | ⟨g, n, cap, cur, rfl, hn, hg, hnc, hmx, hc, hlen, hrd, hGi⟩
    · -- onto nil
      have hx0 : (xs ()).length = 0 := by simp [e]
      have hrun := run_append_nil (P := P) w t ty s.ty i z ht hi hz ⟨b0, o0, none⟩ m c news hnl hnews (by omega) (by omega) (by have := hb; rw [hx0] at this; simp at this; omega)
      have hge := grownCap_ge w m 0 s.ty
      have hlm := grownCap_le_maxLen w m 0 s.ty (by unfold maxLen; omega)
      refine ⟨_, _, fun b => b = w.heap.size, hrun, ext_drew_alloc w _ _, ?_, fun b hb => by subst hb; exact ⟨.inr (Nat.le_refl _), by rw [alloc_size]; exact Nat.lt_succ_self _⟩⟩
      have := mk (w.drew.alloc (.cells (news.toArray ++ Builtin.zeroCells z.cells (grownCap w m 0 s.ty - m)) s.ty)) w.heap.size (grownCap w m 0 s.ty) 0 _ hx0.symm (alloc_new w.drew _) (by omega) hlm
        (by simp only [Array.size_append, List.size_toArray, size_zeroCells, hzs, hnl, hsz, ← Nat.add_mul]; congr 1; omega)
        (fun b hs => (ext_drew_alloc w _ (fun _ => False)).block b (hS b hs).1 (fun h => h)) (fun p j d hp => by omega)
        (fun k hk => by rw [Nat.zero_mul, Nat.zero_add, ← hgetnew k hk]; simp [Array.getD_eq_getD_getElem?, List.getD_eq_getElem?_getD, Array.getElem?_append, hnl, show k < m * i.size by rw [← hsz]; exact hk])
      rw [Nat.zero_add] at this; exact this
    · by_cases hroom : n + m ≤ cap
      · -- in place
        have hfit : n * i.size + news.length ≤ cur.size := by rw [hnl, hc, hsz, ← Nat.add_mul]; exact Nat.mul_le_mul_right _ hroom
        have hrun := run_append_room (P := P) w t ty s.ty i ht hi g n cap cur hg ⟨b0, o0, none⟩ m c news hnl hnews h1 hroom hfit
        have hlt : g < w.heap.size := (Array.getElem?_eq_some_iff.1 hg).1
        refine ⟨_, _, fun b => b = g, hrun, Ext.setRow hg ((hGi g).2 rfl), ?_, fun b hb => by subst hb; exact ⟨.inl ((hGi _).2 rfl), by simpa [World.setRow] using hlt⟩⟩
        refine mk _ g cap n _ hn (setRow_heap w g cur _ s.ty _ hg) hroom hmx (by rw [seg_size _ _ _ hfit]; exact hc) (fun b hs => setRow_other w g b _ fun e => (hS b hs).2 ((hGi b).2 e)) ?_ ?_
        · intro p j d hp hd
          have hj : j < s.esz := by have := (List.getElem?_eq_some_iff.1 hd).1; rwa [s.hlen] at this
          have hpe : p * s.esz + j < n * s.esz := by
            have : (p + 1) * s.esz ≤ n * s.esz := Nat.mul_le_mul_right _ hp
            rw [Nat.add_mul, Nat.one_mul] at this; omega
          rw [seg_get _ _ _ _ hfit, if_neg (by rw [← hsz]; omega)]
          exact hrd p j d hp hd
        · intro k hk
          rw [seg_get _ _ _ _ hfit, if_pos (by rw [hnl, ← hsz]; omega), ← hsz, show n * s.esz + k - n * s.esz = k by omega]
          exact hgetnew k hk
      · -- into a new block
        have hol : (cur.toList.take (n * s.esz)).length = n * i.size := by simp only [List.length_take, Array.length_toList, hc]; rw [Nat.min_eq_left (Nat.mul_le_mul_right _ hnc), hsz]
        have holds : ∀ (j : Nat) (x : Value), (cur.toList.take (n * s.esz))[j]? = some x → w.cell? ((⟨g, 0, none⟩ : Addr).add j) = some x := fun j x hj => by
          have hlt : j < n * s.esz := by have := (List.getElem?_eq_some_iff.1 hj).1; rw [hol, ← hsz] at this; exact this
          have hlc : j < cur.size := by rw [hc]; exact Nat.lt_of_lt_of_le hlt (Nat.mul_le_mul_right _ hnc)
          rw [add_plain, Nat.zero_add, cell_of_row hg hlc]
          rw [List.getElem?_take, if_pos hlt] at hj
          simp only [Array.getD_eq_getD_getElem?, ← Array.getElem?_toList, hj, Option.getD_some]
        have hrun := run_append_grow (P := P) w t ty s.ty i z ht hi hz ⟨g, 0, none⟩ n cap _ hol holds ⟨b0, o0, none⟩ m c news hnl hnews (by omega) (by omega) (growslice_fits (by omega) (by rw [hn]; exact hb))
        have hge := grownCap_ge w (n + m) cap s.ty
        have hlm := grownCap_le_maxLen w (n + m) cap s.ty (by unfold maxLen; omega)
        refine ⟨_, _, fun b => b = w.heap.size, hrun, ext_drew_alloc w _ _, ?_, fun b hb => by subst hb; exact ⟨.inr (Nat.le_refl _), by rw [alloc_size]; exact Nat.lt_succ_self _⟩⟩
        refine mk _ w.heap.size _ n _ hn (alloc_new w.drew _) hge hlm ?_ (fun b hs => (ext_drew_alloc w _ (fun _ => False)).block b (hS b hs).1 (fun h => h)) ?_ ?_
        · rw [Array.size_append, Array.size_append, List.size_toArray, List.size_toArray, size_zeroCells, hzs, hnl, hol, hsz, ← Nat.add_mul, ← Nat.add_mul]; congr 1; omega
        · intro p j d hp hd
          have hj : j < s.esz := by have := (List.getElem?_eq_some_iff.1 hd).1; rwa [s.hlen] at this
          have hpe : p * s.esz + j < n * s.esz := by
            have : (p + 1) * s.esz ≤ n * s.esz := Nat.mul_le_mul_right _ hp
            rw [Nat.add_mul, Nat.one_mul] at this; omega
          have := hrd p j d hp hd
          have e : ((cur.toList.take (n * s.esz)).toArray ++ news.toArray ++ Builtin.zeroCells z.cells (grownCap w (n + m) cap s.ty - (n + m))).getD (p * s.esz + j) undef = cur.getD (p * s.esz + j) undef := by
            simp only [Array.getD_eq_getD_getElem?, Array.append_assoc]
            rw [Array.getElem?_append_left (by simp only [List.size_toArray, hol, ← hsz]; exact hpe)]
            simp [List.getElem?_take, hpe]
          rw [e]; exact this
        · intro k hk
          rw [← hgetnew k hk]
          simp only [Array.getD_eq_getD_getElem?, Array.append_assoc, List.getD_eq_getElem?_getD]
          have hos : (cur.toList.take (n * s.esz)).toArray.size = n * s.esz := by rw [List.size_toArray, hol, hsz]
          rw [Array.getElem?_append_right (by rw [hos]; omega), hos, show n * s.esz + k - n * s.esz = k by omega, Array.getElem?_append_left (by rw [List.size_toArray, hns]; exact hk)]
          simp only [List.getElem?_toArray]
end
end Go.Eng
