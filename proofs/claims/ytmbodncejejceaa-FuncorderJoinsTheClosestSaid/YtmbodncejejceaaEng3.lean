/- The engine, part 3: what an abstract state says of the machine's memory. -/
import Derived.Test.YtmbodncejejceaaEng2
import Derived.Laws.AppendOwn
import Derived.Calls
import Derived.Orders
set_option linter.all false
namespace Go.Eng

/-- Value v reads as x; whatever memory is read lies in the blocks S. -/
inductive RD (w : World) (S : Nat → Prop) : Value → D → Prop
  | v (x : Value) : RD w S x (.v x)
  | i (k : IntKind) (n : Th Int) : RD w S (.int k (n ())) (.i k n)
  | b (b : BV) : RD w S (.bool b.get) (.b b)
  | s (x : Th ByteArray) : RD w S (.string (x ())) (.s x)
  | nilsl {α : Type} {esz : Nat} {cells : Th α → List D} {d0 : α} {xs : Th (List α)} (a : Option Addr) (c : Nat) (h : xs () = []) :
      RD w S (.slice a 0 c) (.sl esz cells d0 xs)
  | sl {α : Type} {esz : Nat} {cells : Th α → List D} {d0 : α} {xs : Th (List α)} (b off n c : Nat) (us : Nat → Value) (hb : S b) (hn : n = (xs ()).length)
      (hlen : ∀ x ∈ xs (), (cells fun _ => x).length = esz)
      (hcell : ∀ i, i < n * esz → w.cell? ⟨b, off + i, none⟩ = some (us i))
      (hrd : ∀ i j d, i < n → (cells fun _ => (xs ()).getD i d0)[j]? = some d → RD w S (us (i * esz + j)) d)
      (hc : n ≤ c ∧ n ≤ maxLen) : RD w S (.slice (some ⟨b, off, none⟩) n c) (.sl esz cells d0 xs)
  | agg {cs : List D} (vs : Array Value) (h : vs.size = cs.length) (hrd : ∀ j d, cs[j]? = some d → RD w S (vs.getD j undef) d) : RD w S (.agg vs) (.agg cs)
  | box {cs : List D} (b : Nat) (us : Nat → Value) (hb : S b) (hcell : ∀ j, j < cs.length → w.cell? ⟨b, j, none⟩ = some (us j))
      (hrd : ∀ j d, cs[j]? = some d → RD w S (us j) d) : RD w S (.pointer (some ⟨b, 0, none⟩)) (.box cs)
  | fn {f : FuncId} {caps : List D} (vs : Array Value) (h : vs.size = caps.length) (hrd : ∀ j d, caps[j]? = some d → RD w S (vs.getD j undef) d) :
      RD w S (.func (.func f) #[] vs) (.fn f caps)

theorem RD.mono {w w' : World} {S S' : Nat → Prop} (hS : ∀ b, S b → S' b) (hw : ∀ b, S b → w'.heap[b]? = w.heap[b]?) {v : Value} {x : D} (h : RD w S v x) : RD w' S' v x := by
  induction h with
  | v x => exact .v x
  | i k n => exact .i k n
  | b b => exact .b b
  | s x => exact .s x
  | nilsl a c h => exact .nilsl a c h
  | sl b off n c us hb hn hlen hcell _ hc ih =>
    exact .sl b off n c us (hS b hb) hn hlen (fun i hi => by rw [← hcell i hi]; exact World.cell?_of_block (hw b hb)) (fun i j d hi hd => ih i j d hi hd) hc
  | agg vs h _ ih => exact .agg vs h ih
  | box b us hb hcell _ ih => exact .box b us (hS b hb) (fun j hj => by rw [← hcell j hj]; exact World.cell?_of_block (hw b hb)) ih
  | fn vs h _ ih => exact .fn vs h ih

/-- A row of the call's own: its blocks F, the value by which it is known. -/
inductive RowOK (w : World) (S : Nat → Prop) : (Nat → Prop) → Value → Row → Prop
  | nil {s : Sh} {xs : Th (List s.α)} (h : xs () = []) : RowOK w S (fun _ => False) (.slice none 0 0) (.sl s xs)
  | sl {s : Sh} {xs : Th (List s.α)} (g n cap : Nat) (cur : Array Value) (hn : n = (xs ()).length) (hg : w.heap[g]? = some (.cells cur s.ty (0, 0)))
      (hnc : n ≤ cap) (hm : cap ≤ maxLen) (hc : cur.size = cap * s.esz) (hlen : ∀ x ∈ xs (), (s.cells fun _ => x).length = s.esz)
      (hrd : ∀ i j d, i < n → (s.cells fun _ => (xs ()).getD i s.d0)[j]? = some d → RD w S (cur.getD (i * s.esz + j) undef) d) :
      RowOK w S (fun b => b = g) (.slice (some ⟨g, 0, none⟩) n cap) (.sl s xs)
  | box {cs : List D} (g ty : Nat) (cur : Array Value) (hg : w.heap[g]? = some (.cells cur ty (0, 0))) (hc : cur.size = cs.length)
      (hrd : ∀ j d, cs[j]? = some d → RD w S (cur.getD j undef) d) : RowOK w S (fun b => b = g) (.pointer (some ⟨g, 0, none⟩)) (.box cs)

theorem RowOK.mono {w w' : World} {S S' F : Nat → Prop} (hS : ∀ b, S b → S' b) (hw : ∀ b, S b → w'.heap[b]? = w.heap[b]?) (hf : ∀ b, F b → w'.heap[b]? = w.heap[b]?)
    {v : Value} {x : Row} (h : RowOK w S F v x) : RowOK w' S' F v x := by
  cases h with
  | nil h => exact .nil h
  | sl g n cap cur hn hg hnc hm hc hlen hrd => exact .sl g n cap cur hn ((hf g rfl).trans hg) hnc hm hc hlen fun i j d hi hd => (hrd i j d hi hd).mono hS hw
  | box g ty cur hg hc hrd => exact .box g ty cur ((hf g rfl).trans hg) hc fun j d hd => (hrd j d hd).mono hS hw

/-- A slot's value. ρ: the rows' own values; E: the cells an element of a row takes. -/
inductive VOK (w : World) (S : Nat → Prop) (ρ : Nat → Value) (E : Nat → Nat) : Value → AV → Prop
  | un : VOK w S ρ E undef .un
  | any (v : Value) : VOK w S ρ E v .any
  | d {v : Value} {x : D} (h : RD w S v x) : VOK w S ρ E v (.d x)
  | own (r : Nat) : VOK w S ρ E (ρ r) (.own r)
  | bptr (r off g : Nat) (h : ρ r = .pointer (some ⟨g, 0, none⟩)) : VOK w S ρ E (.pointer (some ⟨g, off, none⟩)) (.bptr r off)
  | eptr (r : Nat) (i : Th Int) (off g n c : Nat) (h : ρ r = .slice (some ⟨g, 0, none⟩) n c) (h0 : 0 ≤ i ()) (h1 : i () < n) :
      VOK w S ρ E (.pointer (some ⟨g, (i ()).toNat * E r + off, none⟩)) (.eptr r i off)
  | dptr {α : Type} {esz : Nat} {cells : Th α → List D} {d0 : α} {xs : Th (List α)} (i : Th Int) (off b o n c : Nat)
      (h : RD w S (.slice (some ⟨b, o, none⟩) n c) (.sl esz cells d0 xs)) (h0 : 0 ≤ i ()) (h1 : i () < n) :
      VOK w S ρ E (.pointer (some ⟨b, o + ((i ()).toNat * esz + off), none⟩)) (.dptr (.sl esz cells d0 xs) i off)
  | pptr {cs : List D} (off b : Nat) (h : RD w S (.pointer (some ⟨b, 0, none⟩)) (.box cs)) : VOK w S ρ E (.pointer (some ⟨b, off, none⟩)) (.pptr cs off)
  | fn {f : FuncId} {caps : List AV} (vs : Array Value) (h : vs.size = caps.length) (hv : ∀ j x, caps[j]? = some x → VOK w S ρ E (vs.getD j undef) x) :
      VOK w S ρ E (.func (.func f) #[] vs) (.fn f caps)
  | tup {l : List AV} (vs : Array Value) (h : vs.size = l.length) (hv : ∀ j x, l[j]? = some x → VOK w S ρ E (vs.getD j undef) x) : VOK w S ρ E (.tuple vs) (.tup l)

theorem VOK.mono {w w' : World} {S S' : Nat → Prop} {ρ : Nat → Value} {E : Nat → Nat} (hS : ∀ b, S b → S' b) (hw : ∀ b, S b → w'.heap[b]? = w.heap[b]?) {v : Value} {x : AV}
    (h : VOK w S ρ E v x) : VOK w' S' ρ E v x := by
  induction h with
  | un => exact .un
  | any v => exact .any v
  | d h => exact .d (h.mono hS hw)
  | own r => exact .own r
  | bptr r off g h => exact .bptr r off g h
  | eptr r i off g n c h h0 h1 => exact .eptr r i off g n c h h0 h1
  | dptr i off b o n c h h0 h1 => exact .dptr i off b o n c (h.mono hS hw) h0 h1
  | pptr off b h => exact .pptr off b (h.mono hS hw)
  | fn vs h _ ih => exact .fn vs h ih
  | tup vs h _ ih => exact .tup vs h ih

/-- What lies around a call: the world at its start, what it may read, and the rows that were handed in. -/
structure Ctx where
  N : Nat
  w0 : World
  S0 : Nat → Prop
  base : Nat
  pV : Nat → Value
  pF : Nat → Nat → Prop

def Ctx.Fp (c : Ctx) (b : Nat) : Prop := ∃ r, r < c.base ∧ c.pF r b

/-- Nothing has turned but blocks of M and new ones. -/
structure Ext (w w' : World) (M : Nat → Prop) : Prop where
  os : w'.os = w.os
  tape : w'.tape = w.tape
  output : w'.output = w.output
  size : w.heap.size ≤ w'.heap.size
  block : ∀ b, b < w.heap.size → ¬ M b → w'.heap[b]? = w.heap[b]?

theorem Ext.refl (w : World) (M : Nat → Prop) : Ext w w M := ⟨rfl, rfl, rfl, Nat.le_refl _, fun _ _ _ => rfl⟩
theorem Ext.trans {a b c : World} {M M' : Nat → Prop} (h : Ext a b M) (k : Ext b c M') (hM : ∀ x, x < a.heap.size → M' x → M x) : Ext a c M :=
  ⟨k.os.trans h.os, k.tape.trans h.tape, k.output.trans h.output, Nat.le_trans h.size k.size, fun i hi hm => (k.block i (Nat.lt_of_lt_of_le hi h.size) (fun e => hm (hM i hi e))).trans (h.block i hi hm)⟩
theorem Ext.weaken {a b : World} {M M' : Nat → Prop} (h : Ext a b M) (hM : ∀ x, M x → M' x) : Ext a b M' := ⟨h.os, h.tape, h.output, h.size, fun i hi hm => h.block i hi fun e => hm (hM i e)⟩

structure Mem (c : Ctx) (rows : List (Nat × Row)) (w : World) (S : Nat → Prop) (ρ : Nat → Value) (F : Nat → Nat → Prop) (E : Nat → Nat) : Prop where
  slt : ∀ b, S b → b < w.heap.size
  s0 : ∀ b, c.S0 b → S b
  snew : ∀ b, S b → c.S0 b ∨ c.w0.heap.size ≤ b
  row : ∀ r x, lkp rows r = some x → RowOK w S (F r) (ρ r) x
  blk : ∀ r x, lkp rows r = some x → ∀ b, F r b → b < w.heap.size ∧ ¬ S b ∧ (c.base ≤ r → c.w0.heap.size ≤ b)
  esz : ∀ r s xs, lkp rows r = some (.sl s xs) → E r = s.esz
  dis : ∀ r q x y, r ≠ q → lkp rows r = some x → lkp rows q = some y → ∀ b, F r b → ¬ F q b
  pin : ∀ r x, r < c.base → lkp rows r = some x → ρ r = c.pV r ∧ ∀ b, F r b ↔ c.pF r b

def EnvOK (c : Ctx) (env : List (Nat × AV)) (t : Array Value) (w : World) (S : Nat → Prop) (ρ : Nat → Value) (E : Nat → Nat) : Prop :=
  ∀ s v, (s, v) ∈ env → s < c.N ∧ VOK w S ρ E (t.getD s undef) v

structure Sat (c : Ctx) (σ : St) (a : Act) (w : World) : Prop where
  size : a.tmps.size = c.N
  defs : a.defers = []
  ext : Ext c.w0 w c.Fp
  ex : ∃ S ρ F E, Mem c σ.rows w S ρ F E ∧ EnvOK c σ.env a.tmps w S ρ E

/-! ### Lists that are looked up -/

theorem beq_iff {m n : Nat} : Nat.beq m n = true ↔ m = n := ⟨Nat.eq_of_beq_eq_true, fun h => h ▸ Nat.beq_refl m⟩
theorem beq_ne {m n : Nat} (h : m ≠ n) : Nat.beq m n = false := by
  cases hb : Nat.beq m n with
  | true => exact absurd (beq_iff.1 hb) h
  | false => rfl

section
variable {β : Type 1}
theorem lkp_mem : ∀ {l : List (Nat × β)} {n : Nat} {v : β}, lkp l n = some v → (n, v) ∈ l
  | [], _, _, h => by simp [lkp] at h
  | (m, u) :: l, n, v, h => by
    unfold lkp at h
    by_cases e : m = n
    · subst e; rw [Nat.beq_refl] at h; simp only [cond_true, Option.some.injEq] at h; subst h; exact List.mem_cons_self
    · rw [beq_ne e] at h; simp only [cond_false] at h; exact List.mem_cons_of_mem _ (lkp_mem h)
theorem lkp_cons_same (l : List (Nat × β)) (n : Nat) (v : β) : lkp ((n, v) :: l) n = some v := by simp [lkp, Nat.beq_refl]
theorem lkp_cons_ne (l : List (Nat × β)) {m n : Nat} (v : β) (h : m ≠ n) : lkp ((m, v) :: l) n = lkp l n := by simp [lkp, beq_ne h]
theorem lkp_del_ne : ∀ (l : List (Nat × β)) {m n : Nat}, m ≠ n → lkp (del l m) n = lkp l n
  | [], _, _, _ => rfl
  | (q, v) :: l, m, n, h => by
    unfold del
    by_cases e : q = m
    · subst e; rw [Nat.beq_refl]; simp only [cond_true]; rw [lkp_cons_ne l v h]; exact lkp_del_ne l h
    · rw [beq_ne e]; simp only [cond_false]
      by_cases f : q = n
      · subst f; rw [lkp_cons_same, lkp_cons_same]
      · rw [lkp_cons_ne _ v f, lkp_cons_ne _ v f]; exact lkp_del_ne l h
theorem lkp_del_same : ∀ (l : List (Nat × β)) (n : Nat), lkp (del l n) n = none
  | [], _ => rfl
  | (q, v) :: l, n => by
    unfold del
    by_cases e : q = n
    · subst e; rw [Nat.beq_refl]; simp only [cond_true]; exact lkp_del_same l _
    · rw [beq_ne e]; simp only [cond_false]; rw [lkp_cons_ne _ v e]; exact lkp_del_same l n
theorem lkp_del_some {l : List (Nat × β)} {m n : Nat} {v : β} (h : lkp (del l m) n = some v) : lkp l n = some v := by
  by_cases e : m = n
  · subst e; rw [lkp_del_same] at h; cases h
  · rw [lkp_del_ne _ e] at h; exact h
theorem mem_del : ∀ {l : List (Nat × β)} {m n : Nat} {v : β}, (n, v) ∈ del l m → n ≠ m ∧ (n, v) ∈ l
  | [], _, _, _, h => by simp [del] at h
  | (q, u) :: l, m, n, v, h => by
    unfold del at h
    by_cases e : q = m
    · subst e; rw [Nat.beq_refl] at h; simp only [cond_true] at h; exact ⟨(mem_del h).1, List.mem_cons_of_mem _ (mem_del h).2⟩
    · rw [beq_ne e] at h; simp only [cond_false, List.mem_cons, Prod.mk.injEq] at h
      rcases h with ⟨rfl, rfl⟩ | h
      · exact ⟨e, List.mem_cons_self⟩
      · exact ⟨(mem_del h).1, List.mem_cons_of_mem _ (mem_del h).2⟩
theorem lt_top : ∀ {l : List (Nat × β)} {n : Nat} {v : β}, (n, v) ∈ l → n < top l
  | (q, u) :: l, n, v, h => by
    unfold top
    simp only [List.mem_cons, Prod.mk.injEq] at h
    rcases h with ⟨rfl, rfl⟩ | h
    · exact Nat.lt_of_lt_of_le (Nat.lt_succ_self _) (Nat.le_max_left _ _)
    · exact Nat.lt_of_lt_of_le (lt_top h) (Nat.le_max_right _ _)
theorem lkp_top (l : List (Nat × β)) : lkp l (top l) = none := by
  cases h : lkp l (top l) with
  | none => rfl
  | some v => exact absurd (lt_top (lkp_mem h)) (Nat.lt_irrefl _)
theorem mem_keepIn : ∀ {ks : List Nat} {l : List (Nat × β)} {n : Nat} {v : β}, (n, v) ∈ keepIn ks l → (n, v) ∈ l
  | _, [], _, _, h => by simp [keepIn] at h
  | ks, (q, u) :: l, n, v, h => by
    unfold keepIn at h
    cases hm : mem ks q with
    | true =>
      rw [hm] at h; simp only [cond_true, List.mem_cons, Prod.mk.injEq] at h
      rcases h with ⟨rfl, rfl⟩ | h
      · exact List.mem_cons_self
      · exact List.mem_cons_of_mem _ (mem_keepIn h)
    | false => rw [hm] at h; simp only [cond_false] at h; exact List.mem_cons_of_mem _ (mem_keepIn h)
end

theorem mem_dropHits {r : Nat} : ∀ {l : List (Nat × AV)} {n : Nat} {v : AV}, (n, v) ∈ dropHits r l → (n, v) ∈ l ∧ v.hits r = false
  | [], _, _, h => by simp [dropHits] at h
  | (q, u) :: l, n, v, h => by
    unfold dropHits at h
    cases hm : u.hits r with
    | true => rw [hm] at h; simp only [cond_true] at h; exact ⟨List.mem_cons_of_mem _ (mem_dropHits h).1, (mem_dropHits h).2⟩
    | false =>
      rw [hm] at h; simp only [cond_false, List.mem_cons, Prod.mk.injEq] at h
      rcases h with ⟨rfl, rfl⟩ | h
      · exact ⟨List.mem_cons_self, hm⟩
      · exact ⟨List.mem_cons_of_mem _ (mem_dropHits h).1, (mem_dropHits h).2⟩

theorem mem_iff : ∀ {l : List Nat} {n : Nat}, mem l n = true ↔ n ∈ l
  | [], _ => by simp [mem]
  | m :: l, n => by
    unfold mem
    by_cases e : m = n
    · subst e; simp [Nat.beq_refl]
    · rw [beq_ne e]; simp only [cond_false, mem_iff, List.mem_cons]
      exact ⟨.inr, fun h => h.resolve_left (fun h => e h.symm)⟩

/-! ### Slots -/

theorem EnvOK.mono {c : Ctx} {env : List (Nat × AV)} {t : Array Value} {w w' : World} {S S' : Nat → Prop} {ρ : Nat → Value} {E : Nat → Nat} (h : EnvOK c env t w S ρ E)
    (hS : ∀ b, S b → S' b) (hw : ∀ b, S b → w'.heap[b]? = w.heap[b]?) : EnvOK c env t w' S' ρ E := fun s v hm => ⟨(h s v hm).1, (h s v hm).2.mono hS hw⟩
theorem EnvOK.lkp {c : Ctx} {env : List (Nat × AV)} {t : Array Value} {w : World} {S : Nat → Prop} {ρ : Nat → Value} {E : Nat → Nat} (h : EnvOK c env t w S ρ E) {s : Nat} {v : AV}
    (hl : Eng.lkp env s = some v) : VOK w S ρ E (t.getD s undef) v := (h s v (lkp_mem hl)).2
theorem EnvOK.set {c : Ctx} {env : List (Nat × AV)} {t : Array Value} {w : World} {S : Nat → Prop} {ρ : Nat → Value} {E : Nat → Nat} (h : EnvOK c env t w S ρ E) (ht : t.size = c.N)
    {d : Nat} (hd : d < c.N) {v : Value} {x : AV} (hv : VOK w S ρ E v x) : EnvOK c ((d, x) :: del env d) (t.setIfInBounds d v) w S ρ E := by
  intro s u hm
  simp only [List.mem_cons, Prod.mk.injEq] at hm
  rcases hm with ⟨rfl, rfl⟩ | hm
  · refine ⟨hd, ?_⟩
    have : (t.setIfInBounds s v).getD s undef = v := by simp [Array.getD_eq_getD_getElem?, ht, hd]
    rw [this]; exact hv
  · obtain ⟨hne, hm⟩ := mem_del hm
    refine ⟨(h s u hm).1, ?_⟩
    have : (t.setIfInBounds d v).getD s undef = t.getD s undef := by simp [Array.getD_eq_getD_getElem?, Array.getElem?_setIfInBounds_ne (Ne.symm hne)]
    rw [this]; exact (h s u hm).2
theorem EnvOK.sub {c : Ctx} {env env' : List (Nat × AV)} {t : Array Value} {w : World} {S : Nat → Prop} {ρ : Nat → Value} {E : Nat → Nat} (h : EnvOK c env t w S ρ E)
    (hs : ∀ s v, (s, v) ∈ env' → (s, v) ∈ env) : EnvOK c env' t w S ρ E := fun s v hm => h s v (hs s v hm)

/-- Renaming of rows that a slot does not lead to. -/
theorem VOK.rename {w : World} {S : Nat → Prop} {ρ ρ' : Nat → Value} {E E' : Nat → Nat} {r : Nat} (hρ : ∀ q, q ≠ r → ρ' q = ρ q) (hE : ∀ q, q ≠ r → E' q = E q) {v : Value} {x : AV}
    (h : VOK w S ρ E v x) : x.hits r = false → VOK w S ρ' E' v x := by
  have hb : ∀ {q : Nat}, Nat.beq q r = false → q ≠ r := fun h e => by rw [beq_iff.2 e] at h; cases h
  have hl : ∀ (l : List AV), AV.hits.hitsL r l = false → ∀ (j : Nat) (x : AV), l[j]? = some x → x.hits r = false := by
    intro l
    induction l with
    | nil => intro _ j x hx; simp at hx
    | cons y l ih =>
      intro h j x hx
      unfold AV.hits.hitsL at h
      cases hy : y.hits r with
      | true => rw [hy] at h; simp at h
      | false =>
        rw [hy] at h; simp only [cond_false] at h
        cases j with
        | zero => simp at hx; subst hx; exact hy
        | succ j => exact ih h j x (by simpa using hx)
  induction h with
  | un => exact fun _ => .un
  | any v => exact fun _ => .any v
  | d h => exact fun _ => .d h
  | own q => intro hh; have := hb (by simpa [AV.hits] using hh); rw [← hρ q this]; exact .own q
  | bptr q off g h => intro hh; have := hb (by simpa [AV.hits] using hh); exact .bptr q off g ((hρ q this).trans h)
  | eptr q i off g n c h h0 h1 => intro hh; have := hb (by simpa [AV.hits] using hh); rw [← hE q this]; exact .eptr q i off g n c ((hρ q this).trans h) h0 h1
  | dptr i off b o n c h h0 h1 => exact fun _ => .dptr i off b o n c h h0 h1
  | pptr off b h => exact fun _ => .pptr off b h
  | fn vs h _ ih => exact fun hh => .fn vs h fun j x hx => ih j x hx (hl _ (by simpa [AV.hits] using hh) j x hx)
  | tup vs h _ ih => exact fun hh => .tup vs h fun j x hx => ih j x hx (hl _ (by simpa [AV.hits] using hh) j x hx)

end Go.Eng
