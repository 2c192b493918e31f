/- The engine, part 1: abstract data, abstract states, the compact code, and the verification condition 'vc' of a piece of code. -/
import GoSem.Step
set_option linter.all false
namespace Go.Eng

/-- A value behind a thunk: 'cbv' does not look into it. -/
abbrev Th (α : Type) := Unit → α

/-- A truth value: known as it stands, or behind a thunk. -/
inductive BV
  | lit (b : Bool)
  | dyn (f : Th Bool)

def BV.get : BV → Bool
  | .lit b => b
  | .dyn f => f ()

/-- Data that nobody writes any more. -/
inductive D : Type 1
  | v (v : Value)
  | i (k : IntKind) (n : Th Int)
  | b (b : BV)
  | s (s : Th ByteArray)
  | sl {α : Type} (esz : Nat) (cells : Th α → List D) (d0 : α) (xs : Th (List α))
  | agg (cs : List D)
  | box (cs : List D)
  | fn (f : FuncId) (caps : List D)

instance : Inhabited D := ⟨.v (.tuple #[])⟩

/-- What a slot holds. -/
inductive AV : Type 1
  | un
  | any
  | d (x : D)
  | own (r : Nat)
  | bptr (r off : Nat)
  | eptr (r : Nat) (i : Th Int) (off : Nat)
  | dptr (x : D) (i : Th Int) (off : Nat)
  | pptr (cs : List D) (off : Nat)
  | fn (f : FuncId) (caps : List AV)
  | tup (l : List AV)

/-- May the value lie in one cell? -/
def D.one : D → Bool
  | .v x => match x with
    | .slice none 0 0 => true
    | .nilFunc => true
    | .pointer none => true
    | _ => false
  | .agg _ => false
  | _ => true
def ones : List D → Bool
  | [] => true
  | x :: l => bif x.one then ones l else false

def cv : Value → D
  | .int k n => .i k (fun _ => n)
  | .bool b => .b (.lit b)
  | .string s => .s (fun _ => s)
  | v => .v v
/-- A zero value read as data: a nil slice is an empty list. -/
def zrep (v : Value) (d : D) : Prop := d = cv v ∨ match d with
  | .sl _ _ _ xs => v = .slice none 0 0 ∧ xs () = []
  | .b b => v = .bool b.get
  | _ => False

/-- The elements of a slice: how each lies in its cells. -/
structure Sh : Type 1 where
  α : Type
  ty : Nat
  esz : Nat
  cells : Th α → List D
  d0 : α
  zs : List Value
  dec : List D → Option (Th α)
  hlen : ∀ x, (cells x).length = esz
  hone : ∀ x, ones (cells x) = true
  hdec : ∀ ds x, dec ds = some x → ds = cells x
  hz : zs.length = esz ∧ ∀ (j : Nat) (v : Value) (d : D), zs[j]? = some v → (cells fun _ => d0)[j]? = some d → zrep v d

/-- Memory of the call's own. -/
inductive Row : Type 1
  | sl (s : Sh) (xs : Th (List s.α))
  | box (cs : List D)

structure St : Type 1 where
  env : List (Nat × AV)
  rows : List (Nat × Row)

def lkp {β : Type 1} : List (Nat × β) → Nat → Option β
  | [], _ => none
  | (m, v) :: l, n => bif Nat.beq m n then some v else lkp l n
def del {β : Type 1} : List (Nat × β) → Nat → List (Nat × β)
  | [], _ => []
  | (m, v) :: l, n => bif Nat.beq m n then del l n else (m, v) :: del l n
def mem : List Nat → Nat → Bool
  | [], _ => false
  | m :: l, n => bif Nat.beq m n then true else mem l n
def keepIn {β : Type 1} (ks : List Nat) : List (Nat × β) → List (Nat × β)
  | [] => []
  | (m, v) :: l => bif mem ks m then (m, v) :: keepIn ks l else keepIn ks l
def top {β : Type 1} : List (Nat × β) → Nat
  | [] => 0
  | (m, _) :: l => Nat.max (m + 1) (top l)

def St.set (σ : St) (d : Nat) (v : AV) : St := ⟨(d, v) :: del σ.env d, σ.rows⟩
def St.setO (σ : St) (d : Option Nat) (v : AV) : St := match d with
  | some d => σ.set d v
  | none => σ
def St.putRow (σ : St) (r : Nat) (x : Row) : St := ⟨σ.env, (r, x) :: del σ.rows r⟩

/-- Does a slot's value lead to row r? -/
def AV.hits (r : Nat) : AV → Bool
  | .own q => Nat.beq q r
  | .bptr q _ => Nat.beq q r
  | .eptr q _ _ => Nat.beq q r
  | .fn _ l => hitsL r l
  | .tup l => hitsL r l
  | _ => false
where hitsL (r : Nat) : List AV → Bool
  | [] => false
  | x :: l => bif AV.hits r x then true else hitsL r l
def dropHits (r : Nat) : List (Nat × AV) → List (Nat × AV)
  | [] => []
  | (m, v) :: l => bif v.hits r then dropHits r l else (m, v) :: dropHits r l

inductive X
  | t (n : Nat)
  | c (v : Value)
  | f (id : FuncId)

def cvs : List Value → List D
  | [] => []
  | v :: l => cv v :: cvs l

def St.ev (σ : St) : X → Option AV
  | .t n => lkp σ.env n
  | .c v => some (.d (cv v))
  | .f id => some (.d (.fn id []))
def St.evs (σ : St) : List X → Option (List AV)
  | [] => some []
  | x :: l => match σ.ev x, σ.evs l with
    | some v, some vs => some (v :: vs)
    | _, _ => none

inductive IOp
  | mov (x : X)
  | pick (c a b : X)
  | bin (op : BinOp) (k : IntKind) (x y : X)
  | eqb (neg : Bool) (x y : X)
  | eqn (neg : Bool) (x : X)
  | eqa (neg : Bool) (fs : List (Nat × Bool)) (x y : X)
  | not (x : X)
  | neg (k : IntKind) (x : X)
  | conv (k : IntKind) (x : X)
  | alloc (zs : List Value)
  | box (x : X)
  | build (zs : List Value) (ps : List (Nat × Nat × X))
  | bsl (ty esz : Nat) (ps : List X)
  | load (agg : Option Nat) (a : X)
  | store (n : Nat) (a x : X)
  | mks (ty esz bytes : Nat) (zs : List Value) (l c : X)
  | faddr (off : Nat) (x : X)
  | iaddr (esz : Nat) (x i : X)
  | aaddr (n esz : Nat) (x i : X)
  | fld (off : Nat) (agg : Option Nat) (x : X)
  | ext (x : X) (i : Nat)
  | len (x : X)
  | slen (x : X)
  | mm (mx : Bool) (x y : X)
  | app1 (ty esz bytes : Nat) (x y : X)
  | apps (ty esz bytes : Nat) (x y : X)
  | slc (esz : Nat) (x : X) (lo hi : Option X)
  | call (f : FuncId) (xs : List X)
  | callv (f : X) (xs : List X)
  | mkf (f : FuncId) (caps : List X)
  | mki
  | pan

/-- An operation: its guard (the slot that is asked, and the answer that is wanted), its slot, and what it does. -/
structure GOp where
  g : Option (Nat × Bool)
  dst : Option Nat
  op : IOp

inductive Cls
  | p | r | g

inductive CC
  | skip
  | reg (keep : List Nat) (ops : List GOp)
  | dreg (keep : List Nat) (ms : List Nat) (ops : List (Cls × GOp))
  | seq (a b : CC)
  | cut (a b : CC)
  | cond (c : X) (a b : CC)
  | block (id : Nat) (b : CC)
  | loop (b : CC)
  | exit (id : Nat)
  | ret
  | bad

/-- A result. -/
inductive Res : Type 1
  | d (x : D)
  | row (x : Row)
  | tup (l : List Res)

/-- An argument: read, written in place, or handed over. -/
inductive Arg : Type 1
  | d (x : D)
  | row (x : Row)
  | take (x : Row)

/-- What a function may rely on: 'GCall' is filled in behind. -/
inductive Mode
  | b | m | t

structure Tab : Type 1 where
  sh : Nat → Option Sh
  fns : List Nat
  base : Nat
  ct : FuncId → List Arg → Res → List Row → Prop
  modes : FuncId → List Mode
  mod : Option (List Nat × Nat)

/-- The name of the next row: names below 'base' are the rows that were handed in. -/
def St.fresh (σ : St) (T : Tab) : Nat := Nat.max (top σ.rows) T.base

/-- A row more. (No slot leads to a name that nobody bears.) -/
def St.add (σ : St) (T : Tab) (x : Row) : St := ⟨dropHits (σ.fresh T) σ.env, (σ.fresh T, x) :: σ.rows⟩

structure Side (p : Th Prop) : Prop where
  h : p ()
inductive VIf (f : Th Bool) (p q : Unit → Prop) : Prop
  | tt (h : f () = true) (hp : p ())
  | ff (h : f () = false) (hq : q ())

/-- A length is bounded. -/
structure LenB (n : Th Nat) (p : Unit → Prop) : Prop where
  h : n () ≤ 9223372036854775807 → p ()

/-- A place where the reckoning of a condition pauses. -/
structure Stop (p : Unit → Prop) : Prop where
  h : p ()

def bifB (b : BV) (p q : Unit → Prop) : Prop := match b with
  | .lit true => Stop p
  | .lit false => Stop q
  | .dyn f => VIf f p q

structure inR (k : IntKind) (n : Int) : Prop where
  lo : k.min ≤ n
  hi : n ≤ k.max

def binop (op : BinOp) (k : IntKind) (m n : Th Int) (K : D → Prop) : Prop :=
  match op with
  | .add => Side (fun _ => inR k (m () + n ())) ∧ K (.i k (fun _ => m () + n ()))
  | .sub => Side (fun _ => inR k (m () - n ())) ∧ K (.i k (fun _ => m () - n ()))
  | .mul => Side (fun _ => inR k (m () * n ())) ∧ K (.i k (fun _ => m () * n ()))
  | .quo => Side (fun _ => 0 ≤ m () ∧ 0 < n () ∧ inR k (m () / n ())) ∧ K (.i k (fun _ => m () / n ()))
  | .rem => Side (fun _ => 0 ≤ m () ∧ 0 < n ()) ∧ K (.i k (fun _ => m () % n ()))
  | .eql => K (.b (.dyn fun _ => decide (m () = n ())))
  | .neq => K (.b (.dyn fun _ => decide (m () ≠ n ())))
  | .lss => K (.b (.dyn fun _ => decide (m () < n ())))
  | .leq => K (.b (.dyn fun _ => decide (m () ≤ n ())))
  | .gtr => K (.b (.dyn fun _ => decide (n () < m ())))
  | .geq => K (.b (.dyn fun _ => decide (n () ≤ m ())))
  | _ => False

/-- Are two lists of zero values alike? (numbers, truth values, nil slices, empty strings) -/
def zeq1 : Value → Value → Bool
  | .int j m, .int k n => decide (j = k) && decide (m = n)
  | .bool a, .bool b => a == b
  | .slice none 0 0, .slice none 0 0 => true
  | .string s, .string t => s.data.toList == t.data.toList
  | _, _ => false
def zeq : List Value → List Value → Bool
  | [], [] => true
  | a :: l, b :: m => zeq1 a b && zeq l m
  | _, _ => false

def nth : List D → Nat → Option D
  | [], _ => none
  | x :: _, 0 => some x
  | _ :: l, n + 1 => nth l n
def dropD : Nat → List D → List D
  | 0, l => l
  | _ + 1, [] => []
  | n + 1, _ :: l => dropD n l
def takeD : Nat → List D → Option (List D)
  | 0, _ => some []
  | _ + 1, [] => none
  | n + 1, x :: l => match takeD n l with
    | some m => some (x :: m)
    | none => none
/-- 'ys' laid over the list from 'off' on. -/
def over : List D → Nat → List D → Option (List D)
  | l, 0, [] => some l
  | [], 0, _ :: _ => none
  | _ :: l, 0, y :: ys => match over l 0 ys with
    | some m => some (y :: m)
    | none => none
  | [], _ + 1, [] => none
  | [], _ + 1, _ :: _ => none
  | x :: l, n + 1, ys => match over l n ys with
    | some m => some (x :: m)
    | none => none

/-- The cells of a value. -/
def D.nrm : D → D
  | .b (.lit q) => .b (.dyn fun _ => q)
  | x => x
def nrmL : List D → List D
  | [] => []
  | x :: l => x.nrm :: nrmL l
def D.parts : D → List D
  | .agg cs => nrmL cs
  | x => [x.nrm]
def len' : List D → Nat
  | [] => 0
  | _ :: l => len' l + 1

def allowed (T : Tab) (r : Nat) : Bool := match T.mod with
  | none => true
  | some (l, n) => bif Nat.ble n r then true else mem l r

/-- A row that nobody writes any more. -/
def Row.frz : Row → D
  | .sl s xs => .sl s.esz s.cells s.d0 xs
  | .box cs => .box cs
def AV.frz (r : Nat) (x : D) : AV → AV
  | .own q => bif Nat.beq q r then .d x else .own q
  | .bptr q o => bif Nat.beq q r then match x with
    | .box cs => .pptr cs o
    | _ => .any
    else .bptr q o
  | .eptr q i o => bif Nat.beq q r then .dptr x i o else .eptr q i o
  | .fn f l => .fn f (frzL r x l)
  | .tup l => .tup (frzL r x l)
  | v => v
where frzL (r : Nat) (x : D) : List AV → List AV
  | [] => []
  | v :: l => AV.frz r x v :: frzL r x l
/-- Is this a pointer into the row? -/
def AV.into (r : Nat) : AV → Bool
  | .bptr q _ => Nat.beq q r
  | .eptr q _ _ => Nat.beq q r
  | .fn _ l => intoL r l
  | .tup l => intoL r l
  | _ => false
where intoL (r : Nat) : List AV → Bool
  | [] => false
  | x :: l => bif AV.into r x then true else intoL r l
def frzEnv (r : Nat) (x : D) : List (Nat × AV) → List (Nat × AV)
  | [] => []
  | (m, v) :: l => (m, v.frz r x) :: frzEnv r x l
def St.freeze (σ : St) (r : Nat) (x : Row) : St := ⟨frzEnv r x.frz σ.env, del σ.rows r⟩

/-- A value as data: a slice of the call's own is frozen by this. -/
def asD (T : Tab) (σ : St) (v : AV) (K : St → D → Prop) : Prop := match v with
  | .d x => K σ x
  | .own r => bif Nat.blt r T.base then False else match lkp σ.rows r with
    | some (.sl s xs) => K (σ.freeze r (.sl s xs)) (.sl s.esz s.cells s.d0 xs)
    | _ => False
  | _ => False
def asDs (T : Tab) : St → List AV → (St → List D → Prop) → Prop
  | σ, [], K => K σ []
  | σ, v :: l, K => asD T σ v fun σ' x => asDs T σ' l fun σ'' xs => K σ'' (x :: xs)
/-- The operands, each as data (frozen one after the other, so that what a later one freezes an earlier one may hold). -/
def evD (T : Tab) (σ : St) (x : X) (K : St → D → Prop) : Prop := match σ.ev x with
  | some v => asD T σ v K
  | none => False
def evDs (T : Tab) : St → List X → (St → List D → Prop) → Prop
  | σ, [], K => K σ []
  | σ, x :: l, K => evD T σ x fun σ' d => evDs T σ' l fun σ'' ds => K σ'' (d :: ds)

def fillD : List D → List (Nat × Nat × D) → Option (List D)
  | l, [] => some l
  | l, (off, n, d) :: ps => bif Nat.beq (len' d.parts) n then bif ones d.parts then match over l off d.parts with
    | some m => fillD m ps
    | none => none
    else none else none
def onesAll : List D → Bool
  | [] => true
  | d :: l => bif ones d.parts then onesAll l else false
def zip3 : List (Nat × Nat × X) → List D → List (Nat × Nat × D)
  | (o, n, _) :: l, d :: ds => (o, n, d) :: zip3 l ds
  | _, _ => []
def xsOf : List (Nat × Nat × X) → List X
  | [] => []
  | (_, _, x) :: l => x :: xsOf l

/-- Elements read back from their cells: as the shape does it, or by one's own word. -/
structure Dec (s : Sh) (dss : List (List D)) (K : Th (List s.α) → Prop) : Prop where
  h : ∃ xs : List s.α, dss = xs.map (fun x => s.cells (fun _ => x)) ∧ K (fun _ => xs)
def decs (s : Sh) : List (List D) → Option (List (Th s.α))
  | [] => some []
  | ds :: l => match s.dec ds, decs s l with
    | some x, some xs => some (x :: xs)
    | _, _ => none
def thl {α : Type} (l : List (Th α)) : List α := l.map (fun f => f ())
def dec' (s : Sh) (dss : List (List D)) (K : Th (List s.α) → Prop) : Prop := match decs s dss with
  | some xs => K (fun _ => thl xs)
  | none => Dec s dss K
structure Dec1 (s : Sh) (ds : List D) (K : Th s.α → Prop) : Prop where
  h : ∃ x : s.α, ds = s.cells (fun _ => x) ∧ K (fun _ => x)
def dec1 (s : Sh) (ds : List D) (K : Th s.α → Prop) : Prop := match s.dec ds with
  | some x => K x
  | none => Dec1 s ds K
/-- Elements of another list, read as elements of this shape. -/
structure Same {α : Type} (s : Sh) (cells : Th α → List D) (xs : Th (List α)) (K : Th (List s.α) → Prop) : Prop where
  h : ∃ ys : List s.α, (xs ()).map (fun x => cells (fun _ => x)) = ys.map (fun y => s.cells (fun _ => y)) ∧ K (fun _ => ys)

/-- The cells of a part of a value, or of the memory behind a pointer. -/
def cellsAt (σ : St) (a : AV) : Option (List D) := match a with
  | .bptr r o => match lkp σ.rows r with
    | some (.box cs) => some (dropD o cs)
    | _ => none
  | .eptr r i o => match lkp σ.rows r with
    | some (.sl s xs) => some (dropD o (s.cells (fun _ => (xs ()).getD (i ()).toNat s.d0)))
    | _ => none
  | .dptr (.sl _ cells d0 xs) i o => some (dropD o (cells (fun _ => (xs ()).getD (i ()).toNat d0)))
  | .pptr cs o => some (dropD o cs)
  | _ => none

def partsOf (agg : Option Nat) (ds : List D) (K : D → Prop) : Prop := match agg with
  | none => match ds with
    | d :: _ => K d
    | [] => False
  | some n => match takeD n ds with
    | some l => K (.agg l)
    | none => False

def nilD : D → Bool
  | .v (.slice none 0 0) => true
  | _ => false

def eqD (int : Bool) (x y : D) : Option (Th Bool) := match int, x, y with
  | true, .i k m, .i k' n => bif decide (k = k') then some (fun _ => decide (m () = n ())) else none
  | false, .b a, .b c => some (fun _ => a.get == c.get)
  | _, _, _ => none
def eqFs : List (Nat × Bool) → List D → List D → Option (Th Bool)
  | [], _, _ => some (fun _ => true)
  | (o, q) :: l, xs, ys => match nth xs o, nth ys o, eqFs l xs ys with
    | some x, some y, some r => match eqD q x y with
      | some e => some (fun _ => e () && r ())
      | none => none
    | _, _, _ => none

/-- Results laid into the state. -/
def St.addRes (T : Tab) (σ : St) (R : Res) : St × AV := match R with
  | .d x => (σ, .d x)
  | .row x => (σ.add T x, .own (σ.fresh T))
  | .tup l => match addL T σ l with
    | (σ', vs) => (σ', .tup vs)
where addL (T : Tab) (σ : St) : List Res → St × List AV
  | [] => (σ, [])
  | .d x :: l => match addL T σ l with
    | (σ', vs) => (σ', .d x :: vs)
  | .row x :: l => match addL T (σ.add T x) l with
    | (σ', vs) => (σ', .own (σ.fresh T) :: vs)
  | .tup _ :: l => match addL T σ l with
    | (σ', vs) => (σ', .any :: vs)

/-- Scalars hold no memory. -/
def D.flat : D → Bool
  | .i _ _ => true
  | .b _ => true
  | .s _ => true
  | .v (.slice none 0 0) => true
  | .agg cs => flatL cs
  | _ => false
where flatL : List D → Bool
  | [] => true
  | x :: l => bif D.flat x then flatL l else false

/-- An argument that is only read, as data: rows of the call's own are lent. -/
def bor (σ : St) : AV → Option D
  | .d x => some x
  | .own r => match lkp σ.rows r with
    | some (.sl s xs) => some (.sl s.esz s.cells s.d0 xs)
    | _ => none
  | .bptr r 0 => match lkp σ.rows r with
    | some (.box cs) => some (.box cs)
    | _ => none
  | .pptr cs 0 => some (.box cs)
  | .fn f l => match borL σ l with
    | some ds => some (.fn f ds)
    | none => none
  | _ => none
where borL (σ : St) : List AV → Option (List D)
  | [] => some []
  | v :: l => match bor σ v, borL σ l with
    | some x, some xs => some (x :: xs)
    | _, _ => none
def isD : AV → Bool
  | .d _ => true
  | .pptr _ _ => true
  | _ => false
def hitsAny (rs : List (Nat × Bool)) (v : AV) : Bool := match rs with
  | [] => false
  | (r, _) :: l => bif v.hits r then true else hitsAny l v
def memK (r : Nat) : List (Nat × Bool) → Bool
  | [] => false
  | (q, _) :: l => bif Nat.beq q r then true else memK r l
/-- The arguments by their modes; the rows that are written (false) or handed over (true); is nothing lent? -/
def mkArgs1 (T : Tab) (σ : St) : List Mode → List AV → Option (List Arg × List (Nat × Bool) × Bool)
  | _, [] => some ([], [], true)
  | .m :: ms, v :: vs => match v with
    | .own r => match lkp σ.rows r, mkArgs1 T σ ms vs with
      | some (.sl s xs), some (as, rs, nb) => bif memK r rs then none else bif allowed T r then some (.row (.sl s xs) :: as, (r, false) :: rs, nb) else none
      | _, _ => none
    | _ => none
  | .t :: ms, v :: vs => match v with
    | .own r => match lkp σ.rows r, mkArgs1 T σ ms vs with
      | some (.sl s xs), some (as, rs, nb) => bif memK r rs then none else bif Nat.blt r T.base then none else bif allowed T r then some (.take (.sl s xs) :: as, (r, true) :: rs, nb) else none
      | _, _ => none
    | _ => none
  | .b :: ms, v :: vs => match bor σ v, mkArgs1 T σ ms vs with
    | some x, some (as, rs, nb) => some (.d x :: as, rs, bif nb then isD v else false)
    | _, _ => none
  | [], v :: vs => match bor σ v, mkArgs1 T σ [] vs with
    | some x, some (as, rs, nb) => some (.d x :: as, rs, bif nb then isD v else false)
    | _, _ => none
/-- Nothing is lent that is written. -/
def okB (rs : List (Nat × Bool)) : List Mode → List AV → Bool
  | _, [] => true
  | .b :: ms, v :: vs => bif hitsAny rs v then false else okB rs ms vs
  | [], v :: vs => bif hitsAny rs v then false else okB rs [] vs
  | _ :: ms, _ :: vs => okB rs ms vs
def mkArgs (T : Tab) (σ : St) (ms : List Mode) (vs : List AV) : Option (List Arg × List (Nat × Bool) × Bool) := match mkArgs1 T σ ms vs with
  | some (as, rs, nb) => bif okB rs ms vs then some (as, rs, nb) else none
  | none => none

/-- The state behind a call: rows written, rows handed over. -/
def after (σ : St) : List (Nat × Bool) → List Row → Option St
  | [], [] => some σ
  | (r, false) :: rs, x :: xs => match after σ rs xs with
    | some τ => some (τ.putRow r x)
    | none => none
  | (r, true) :: rs, xs => match after σ rs xs with
    | some τ => some ⟨dropHits r τ.env, del τ.rows r⟩
    | none => none
  | _, _ => none

def Row.Flat : Row → Prop
  | .sl s _ => ∀ x, D.flat.flatL (s.cells x) = true
  | .box cs => D.flat.flatL cs = true
def Res.Flat : Res → Prop
  | .d x => x.flat = true
  | .row x => x.Flat
  | .tup l => FlatL l
where FlatL : List Res → Prop
  | [] => True
  | x :: l => Res.Flat x ∧ FlatL l

/-- Behind a call. -/
def andThen (T : Tab) (σ : Option St) (R : Res) (K : St → AV → Prop) : Prop := match σ with
  | some τ => match τ.addRes T R with
    | (τ', v) => K τ' v
  | none => False

/-- A call by a contract; rows may be frozen ahead of it. -/
inductive CallOK (T : Tab) (f : FuncId) (K : St → AV → Prop) : St → List AV → Prop
  | go {σ : St} {vs : List AV} {as : List Arg} {rs : List (Nat × Bool)} {nb : Bool} {R : Res} {xs : List Row} (e : mkArgs T σ (T.modes f) vs = some (as, rs, nb)) (hc : T.ct f as R xs)
      (hf : nb = true ∨ (R.Flat ∧ ∀ x ∈ xs, x.Flat)) (hk : andThen T (after σ rs xs) R K) : CallOK T f K σ vs
  | frz {σ : St} {vs : List AV} (r : Nat) (x : Row) (hr : lkp σ.rows r = some x) (hb : T.base ≤ r) (h : CallOK T f K (σ.freeze r x) (vs.map (AV.frz r x.frz))) : CallOK T f K σ vs
structure VCall (T : Tab) (f : FuncId) (ar : Option (List Arg × List (Nat × Bool) × Bool)) (σ : St) (vs : List AV) (K : St → AV → Prop) : Prop where
  h : ar = mkArgs T σ (T.modes f) vs → CallOK T f K σ vs

def vcall (T : Tab) (σ : St) (f : FuncId) (vs : List AV) (K : St → AV → Prop) : Prop :=
  bif mem T.fns f then VCall T f (mkArgs T σ (T.modes f) vs) σ vs K else False

/-- Elements laid behind a row. -/
def grow (T : Tab) (σ : St) (s : Sh) (bytes : Nat) (r : Nat) (xs : Th (List s.α)) (ys : Th (List s.α)) (K : St → AV → Prop) : Prop :=
  Side (fun _ => ((xs ()).length + (ys ()).length) * bytes ≤ 140737488355328) ∧
  K ⟨dropHits r σ.env, (r, .sl s (fun _ => xs () ++ ys ())) :: del σ.rows r⟩ (.own r)

/-- The row behind the first operand of append. -/
def appTo (T : Tab) (σ : St) (ty esz : Nat) (v : AV) (K : St → (s : Sh) → Nat → Th (List s.α) → Prop) : Prop := match v with
  | .own r => bif Nat.blt r T.base then False else bif allowed T r then match lkp σ.rows r with
    | some (.sl s xs) => bif Nat.beq s.ty ty then bif Nat.beq s.esz esz then K σ s r xs else False else False
    | _ => False
    else False
  | .d (.v (.slice none 0 0)) => match T.sh ty with
    | some s => bif Nat.beq s.ty ty then bif Nat.beq s.esz esz then K (σ.add T (.sl s (fun _ => []))) s (σ.fresh T) (fun _ => []) else False else False
    | none => False
  | _ => False

/-- What is appended. -/
def srcOf (σ : St) (v : AV) : Option D := match v with
  | .d (.v (.slice none 0 0)) => none
  | v => bor σ v

def step (T : Tab) (o : IOp) (σ : St) (K : St → AV → Prop) : Prop :=
  match o with
  | .mov x => match σ.ev x with | some v => K σ v | none => False
  | .pick c a b => match σ.ev c with
    | some (.d (.b t)) => bifB t (fun _ => match σ.ev a with | some v => K σ v | none => False) (fun _ => match σ.ev b with | some v => K σ v | none => False)
    | _ => False
  | .bin op k x y => match σ.ev x, σ.ev y with
    | some (.d (.i k' m)), some (.d (.i k'' n)) => bif decide (k' = k) then bif decide (k'' = k) then binop op k m n fun v => K σ (.d v) else False else False
    | _, _ => False
  | .eqb neg x y => match σ.ev x, σ.ev y with
    | some (.d (.b m)), some (.d (.b n)) => K σ (.d (.b (.dyn fun _ => bif neg then !(m.get == n.get) else m.get == n.get)))
    | _, _ => False
  | .eqn neg x => match σ.ev x with
    | some (.d v) => bif nilD v then K σ (.d (.b (.lit (!neg)))) else match v with
        | .sl _ _ _ xs => Side (fun _ => xs () ≠ []) ∧ K σ (.d (.b (.lit neg)))
        | _ => False
    | some (.own r) => match lkp σ.rows r with
      | some (.sl _ xs) => Side (fun _ => xs () ≠ []) ∧ K σ (.d (.b (.lit neg)))
      | _ => False
    | _ => False
  | .eqa neg fs x y => match σ.ev x, σ.ev y with
    | some (.d (.agg xs)), some (.d (.agg ys)) => match eqFs fs xs ys with
      | some e => K σ (.d (.b (.dyn fun _ => bif neg then !e () else e ())))
      | none => False
    | _, _ => False
  | .not x => match σ.ev x with
    | some (.d (.b (.lit b))) => K σ (.d (.b (.lit (!b))))
    | some (.d (.b (.dyn f))) => K σ (.d (.b (.dyn fun _ => !f ())))
    | _ => False
  | .neg k x => match σ.ev x with
    | some (.d (.i k' m)) => bif decide (k' = k) then Side (fun _ => inR k (- m ())) ∧ K σ (.d (.i k (fun _ => - m ()))) else False
    | _ => False
  | .conv k x => match σ.ev x with
    | some (.d (.i _ m)) => Side (fun _ => inR k (m ())) ∧ K σ (.d (.i k m))
    | _ => False
  | .alloc zs => K (σ.add T (.box (cvs zs))) (.bptr (σ.fresh T) 0)
  | .box x => evD T σ x fun σ d => bif ones d.parts then K (σ.add T (.box d.parts)) (.bptr (σ.fresh T) 0) else False
  | .build zs ps => evDs T σ (xsOf ps) fun σ ds => match fillD (cvs zs) (zip3 ps ds) with
    | some l => K σ (.d (.agg l))
    | none => False
  | .bsl ty esz ps => evDs T σ ps fun σ ds => match T.sh ty with
    | some s => bif Nat.beq s.ty ty then bif Nat.beq s.esz esz then bif onesAll ds then
        dec' s (ds.map D.parts) fun xs => K (σ.add T (.sl s xs)) (.own (σ.fresh T))
      else False else False else False
    | none => False
  | .load agg a => match σ.ev a with
    | some a => match cellsAt σ a with
      | some ds => partsOf agg ds fun d => K σ (.d d)
      | none => False
    | none => False
  | .store n a x => evD T σ x fun σ d =>
      bif Nat.beq (len' d.parts) n then bif ones d.parts then match σ.ev a with
        | some (.bptr r o) => bif allowed T r then match lkp σ.rows r with
          | some (.box cs) => match over cs o d.parts with
            | some l => K (σ.putRow r (.box l)) .un
            | none => False
          | _ => False else False
        | some (.eptr r i o) => bif allowed T r then match lkp σ.rows r with
          | some (.sl s xs) => match over (s.cells (fun _ => (xs ()).getD (i ()).toNat s.d0)) o d.parts with
            | some l => dec1 s l fun x => K (σ.putRow r (.sl s (fun _ => (xs ()).set (i ()).toNat (x ())))) .un
            | none => False
          | _ => False else False
        | _ => False
      else False else False
  | .mks ty esz bytes zs l c => match σ.ev l, σ.ev c, T.sh ty with
    | some (.d (.i .i64 m)), some (.d (.i .i64 n)), some s => bif Nat.beq s.ty ty then bif Nat.beq s.esz esz then bif zeq s.zs zs then
        Side (fun _ => 0 ≤ m () ∧ m () ≤ n () ∧ n () * bytes ≤ 140737488355328) ∧
        K (σ.add T (.sl s (fun _ => List.replicate (m ()).toNat s.d0))) (.own (σ.fresh T))
      else False else False else False
    | _, _, _ => False
  | .faddr off x => match σ.ev x with
    | some (.bptr r o) => K σ (.bptr r (o + off))
    | some (.eptr r i o) => K σ (.eptr r i (o + off))
    | some (.dptr x i o) => K σ (.dptr x i (o + off))
    | some (.pptr cs o) => K σ (.pptr cs (o + off))
    | _ => False
  | .iaddr esz x i => match σ.ev x, σ.ev i with
    | some (.own r), some (.d (.i _ n)) => match lkp σ.rows r with
      | some (.sl s xs) => bif Nat.beq s.esz esz then Side (fun _ => 0 ≤ n () ∧ n () < (xs ()).length) ∧ K σ (.eptr r n 0) else False
      | _ => False
    | some (.d (.sl esz' cells d0 xs)), some (.d (.i _ n)) => bif Nat.beq esz' esz then Side (fun _ => 0 ≤ n () ∧ n () < (xs ()).length) ∧ K σ (.dptr (.sl esz' cells d0 xs) n 0) else False
    | _, _ => False
  | .aaddr n esz x i => match i with
    | .c (.int _ (.ofNat j)) => bif Nat.blt j n then match σ.ev x with
      | some (.bptr r o) => K σ (.bptr r (o + j * esz))
      | some (.eptr r i o) => K σ (.eptr r i (o + j * esz))
      | some (.dptr x i o) => K σ (.dptr x i (o + j * esz))
      | some (.pptr cs o) => K σ (.pptr cs (o + j * esz))
      | _ => False
      else False
    | _ => False
  | .fld off agg x => match σ.ev x with
    | some (.d (.agg cs)) => partsOf agg (dropD off cs) fun d => K σ (.d d)
    | _ => False
  | .ext x i => match σ.ev x with
    | some (.tup l) => nthA l i fun v => K σ v
    | _ => False
  | .len x => match σ.ev x with
    | some (.d (.sl _ _ _ xs)) => LenB (fun _ => (xs ()).length) fun _ => K σ (.d (.i .i64 (fun _ => (xs ()).length)))
    | some (.d (.v (.slice none 0 0))) => K σ (.d (.i .i64 (fun _ => 0)))
    | some (.own r) => match lkp σ.rows r with
      | some (.sl _ xs) => LenB (fun _ => (xs ()).length) fun _ => K σ (.d (.i .i64 (fun _ => (xs ()).length)))
      | _ => False
    | _ => False
  | .slen x => match σ.ev x with
    | some (.d (.s x)) => K σ (.d (.i .i64 (fun _ => (x ()).size)))
    | _ => False
  | .mm mx x y => match σ.ev x, σ.ev y with
    | some (.d (.i k m)), some (.d (.i k' n)) => bif decide (k = k') then K σ (.d (.i k (fun _ => bif mx then max (m ()) (n ()) else min (m ()) (n ())))) else False
    | _, _ => False
  | .app1 ty esz bytes x y => match σ.ev x, σ.ev y with
    | some v, some (.own q) => match lkp σ.rows q with
      | some (.sl s' ys) => appTo T ⟨dropHits q σ.env, del σ.rows q⟩ ty esz v fun σ s r xs =>
          Same s s'.cells ys fun zs => grow T σ s bytes r xs zs K
      | _ => False
    | _, _ => False
  | .apps ty esz bytes x y => match σ.ev x, σ.ev y with
    | some v, some u => match srcOf σ u with
      | some (.sl esz' cells _ ys) => bif Nat.beq esz' esz then appTo T σ ty esz v fun σ s r xs =>
          Same s cells ys fun zs => grow T σ s bytes r xs zs K
          else False
      | _ => False
    | _, _ => False
  | .slc esz x lo hi => match σ.ev x with
    | some (.d (.sl esz' cells d0 xs)) => bif Nat.beq esz' esz then bnd σ lo (fun _ => 0) fun l => bnd σ hi (fun _ => (xs ()).length) fun h =>
        Side (fun _ => 0 ≤ l () ∧ l () ≤ h () ∧ h () ≤ (xs ()).length) ∧
        K σ (.d (.sl esz' cells d0 (fun _ => ((xs ()).drop (l ()).toNat).take (h () - l ()).toNat)))
      else False
    | _ => False
  | .call f xs => match σ.evs xs with
    | some vs => vcall T σ f vs K
    | none => False
  | .callv f xs => match σ.ev f, σ.evs xs with
    | some (.d (.fn g caps)), some vs => vcall T σ g (vs ++ caps.map .d) K
    | some (.fn g caps), some vs => vcall T σ g (vs ++ caps) K
    | _, _ => False
  | .mkf f caps => match σ.evs caps with
    | some vs => K σ (.fn f vs)
    | none => False
  | .mki => K σ .any
  | .pan => False
where
  nthA : List AV → Nat → (AV → Prop) → Prop
    | [], _, _ => False
    | v :: _, 0, K => K v
    | _ :: l, n + 1, K => nthA l n K
  bnd (σ : St) (x : Option X) (d : Th Int) (K : Th Int → Prop) : Prop := match x with
    | none => K d
    | some x => match σ.ev x with
      | some (.d (.i _ n)) => K n
      | _ => False

def gop (T : Tab) (o : GOp) (σ : St) (K : St → Prop) : Prop :=
  match o.g with
  | none => step T o.op σ fun σ v => K (σ.setO o.dst v)
  | some (s, pol) => match lkp σ.env s with
    | some (.d (.b b)) => bifB b
        (fun _ => bif pol then step T o.op (σ.set s (.d (.b (.lit true)))) (fun σ v => K (σ.setO o.dst v)) else K ((σ.set s (.d (.b (.lit true)))).setO o.dst .un))
        (fun _ => bif pol then K ((σ.set s (.d (.b (.lit false)))).setO o.dst .un) else step T o.op (σ.set s (.d (.b (.lit false)))) (fun σ v => K (σ.setO o.dst v)))
    | some .un => K (σ.setO o.dst .un)
    | _ => False
def vops (T : Tab) : List GOp → St → (St → Prop) → Prop
  | [], σ, K => K σ
  | o :: l, σ, K => gop T o σ fun σ' => vops T l σ' K

/-- One state does for another. -/
structure DEq (x y : D) : Prop where
  h : x = y
structure AEq (σ : St) (x y : AV) : Prop where
  h : x = y
  live : ∀ r, y.hits r = true → (lkp σ.rows r).isSome = true
inductive REq : Row → Row → Prop
  | same (x : Row) : REq x x
theorem REq.sl {s : Sh} {xs ys : Th (List s.α)} (h : xs () = ys ()) : REq (.sl s xs) (.sl s ys) := by
  have : xs = ys := funext fun _ => h
  subst this
  exact .same _
def covD : D → D → Prop
  | .i k m, .i k' n => bif decide (k = k') then Side (fun _ => m () = n ()) else False
  | .b (.lit a), .b (.lit c) => bif a == c then True else False
  | .b a, .b c => Side (fun _ => a.get = c.get)
  | .v (.slice none 0 0), .v (.slice none 0 0) => True
  | .v (.slice none 0 0), .sl _ _ _ xs => Side (fun _ => xs () = [])
  | .agg xs, .agg ys => covDs xs ys
  | x, y => DEq x y
where covDs : List D → List D → Prop
  | [], [] => True
  | x :: l, y :: m => covD x y ∧ covDs l m
  | _, _ => False
def covA (σ τ : St) : AV → AV → Prop
  | .own r, .own q => bif Nat.beq r q then match lkp σ.rows r with
    | some _ => True
    | none => False
    else False
  | .d (.v (.slice none 0 0)), .own q => match lkp τ.rows q, lkp σ.rows q with
    | some (.sl _ xs), none => Side (fun _ => xs () = [])
    | _, _ => False
  | .d x, .d y => covD x y
  | .bptr r o, .bptr q p => bif Nat.beq r q then bif Nat.beq o p then match lkp σ.rows r with
    | some _ => True
    | none => False
    else False else False
  | _, .any => True
  | x, y => AEq σ x y
def covEnv (σ τ : St) : List (Nat × AV) → Prop
  | [] => True
  | (s, v) :: l => match lkp σ.env s with
    | some u => covA σ τ u v ∧ covEnv σ τ l
    | none => False
def covRow : Row → Row → Prop
  | .box xs, .box ys => covD.covDs xs ys
  | x, y => REq x y
def covRows (T : Tab) (σ : St) : List (Nat × Row) → Prop
  | [] => True
  | (r, x) :: l => match lkp σ.rows r with
    | some y => covRow y x ∧ covRows T σ l
    | none => match x with
      | .sl s xs => bif Nat.blt r T.base then False else Side (fun _ => xs () = []) ∧ covRows T σ l
      | _ => False
def cov (T : Tab) (σ τ : St) : Prop := covRows T σ τ.rows ∧ covEnv σ τ τ.env

structure VLoop (T : Tab) (rd : St → (St → Prop) → Prop) (σ : St) : Prop where
  h : ∃ (ι : Type) (I : ι → St) (C : ι → Prop) (μ : ι → Nat), (∃ i, C i ∧ cov T σ (I i)) ∧
    ∀ i, C i → rd (I i) fun σ' => ∃ j, C j ∧ μ j < μ i ∧ cov T σ' (I j)
/-- Behind a piece of code: the states that are left go on as one family. -/
structure VCut (T : Tab) (rd : (St → Prop) → Prop) (nx : St → Prop) : Prop where
  h : ∃ (ι : Type) (I : ι → St) (C : ι → Prop), (rd fun σ' => ∃ j, C j ∧ cov T σ' (I j)) ∧ ∀ i, C i → nx (I i)

def St.keep (σ : St) (ks : List Nat) : St := ⟨keepIn ks σ.env, σ.rows⟩

def rowsOf (σ : St) : List Nat → List Nat
  | [] => []
  | s :: l => match lkp σ.env s with
    | some (.own r) => r :: rowsOf σ l
    | some (.bptr r _) => r :: rowsOf σ l
    | some (.eptr r _ _) => r :: rowsOf σ l
    | _ => rowsOf σ l

def vc (T : Tab) : CC → St → (St → Prop) → (Nat → St → Prop) → (St → Prop) → Prop
  | .skip, σ, kn, _, _ => kn σ
  | .reg keep ops, σ, kn, _, _ => vops T ops σ fun σ' => kn (σ'.keep keep)
  | .dreg _ _ _, _, _, _, _ => False
  | .seq a b, σ, kn, kx, kr => vc T a σ (fun σ' => vc T b σ' kn kx kr) kx kr
  | .cut a b, σ, kn, kx, kr => VCut T (fun kn' => vc T a σ kn' kx kr) (fun σ' => vc T b σ' kn kx kr)
  | .cond c a b, σ, kn, kx, kr => match σ.ev c with
    | some (.d (.b t)) => bifB t (fun _ => vc T a σ kn kx kr) (fun _ => vc T b σ kn kx kr)
    | _ => False
  | .block id b, σ, kn, kx, kr => vc T b σ kn (fun j σ' => bif Nat.beq j id then kn σ' else kx j σ') kr
  | .loop b, σ, _, kx, kr => VLoop T (fun σ' kn => vc T b σ' kn kx kr) σ
  | .exit id, σ, _, kx, _ => kx id σ
  | .ret, σ, _, _, kr => kr σ
  | .bad, _, _, _, _ => False

end Go.Eng
