/- A text of the engine or of the contracts. -/
import GoSem.Step
import Derived.Laws.Build
import Derived.Orders
import Derived.Laws.AppendOwn
import Derived.Calls
import Derived.Laws.StructEq
import Derived.ChangeKeysEq
import Derived.Laws.Tables
import Derived.Laws.MakeOwn
import Derived.Laws.AppendOwnNone
set_option linter.all false
/- The engine, part 1: abstract data, abstract states, the compact code, and the verification condition 'vc' of a piece of code. -/
namespace Go.Eng

/-- A value behind a thunk: 'cbv' does not look into it. -/
abbrev Th (α : Type) := Unit → α

/-- A truth value: known as it stands, or behind a thunk. -/
inductive BV
  | lit (b : Bool)
  | dyn (f : Th Bool)

def BV.get : BV → Bool
  | .lit b => b
  | .dyn f => f ()

/-- Data that nobody writes any more. -/
inductive D : Type 1
  | v (v : Value)
  | i (k : IntKind) (n : Th Int)
  | b (b : BV)
  | s (s : Th ByteArray)
  | sl {α : Type} (esz : Nat) (cells : Th α → List D) (d0 : α) (xs : Th (List α))
  | agg (cs : List D)
  | box (cs : List D)
  | fn (f : FuncId) (caps : List D)

instance : Inhabited D := ⟨.v (.tuple #[])⟩

/-- What a slot holds. -/
inductive AV : Type 1
  | un
  | any
  | d (x : D)
  | own (r : Nat)
  | bptr (r off : Nat)
  | eptr (r : Nat) (i : Th Int) (off : Nat)
  | dptr (x : D) (i : Th Int) (off : Nat)
  | pptr (cs : List D) (off : Nat)
  | fn (f : FuncId) (caps : List AV)
  | tup (l : List AV)

/-- May the value lie in one cell? -/
def D.one : D → Bool
  | .v x => match x with
    | .slice none 0 0 => true
    | .nilFunc => true
    | .pointer none => true
    | _ => false
  | .agg _ => false
  | _ => true
def ones : List D → Bool
  | [] => true
  | x :: l => bif x.one then ones l else false

def cv : Value → D
  | .int k n => .i k (fun _ => n)
  | .bool b => .b (.lit b)
  | .string s => .s (fun _ => s)
  | v => .v v
/-- A zero value read as data: a nil slice is an empty list. -/
def zrep (v : Value) (d : D) : Prop := d = cv v ∨ match d with
  | .sl _ _ _ xs => v = .slice none 0 0 ∧ xs () = []
  | .b b => v = .bool b.get
  | _ => False

/-- The elements of a slice: how each lies in its cells. -/
structure Sh : Type 1 where
  α : Type
  ty : Nat
  esz : Nat
  cells : Th α → List D
  d0 : α
  zs : List Value
  dec : List D → Option (Th α)
  hlen : ∀ x, (cells x).length = esz
  hone : ∀ x, ones (cells x) = true
  hdec : ∀ ds x, dec ds = some x → ds = cells x
  hz : zs.length = esz ∧ ∀ (j : Nat) (v : Value) (d : D), zs[j]? = some v → (cells fun _ => d0)[j]? = some d → zrep v d

/-- Memory of the call's own. -/
inductive Row : Type 1
  | sl (s : Sh) (xs : Th (List s.α))
  | box (cs : List D)

structure St : Type 1 where
  env : List (Nat × AV)
  rows : List (Nat × Row)

def lkp {β : Type 1} : List (Nat × β) → Nat → Option β
  | [], _ => none
  | (m, v) :: l, n => bif Nat.beq m n then some v else lkp l n
def del {β : Type 1} : List (Nat × β) → Nat → List (Nat × β)
  | [], _ => []
  | (m, v) :: l, n => bif Nat.beq m n then del l n else (m, v) :: del l n
def mem : List Nat → Nat → Bool
  | [], _ => false
  | m :: l, n => bif Nat.beq m n then true else mem l n
def keepIn {β : Type 1} (ks : List Nat) : List (Nat × β) → List (Nat × β)
  | [] => []
  | (m, v) :: l => bif mem ks m then (m, v) :: keepIn ks l else keepIn ks l
def top {β : Type 1} : List (Nat × β) → Nat
  | [] => 0
  | (m, _) :: l => Nat.max (m + 1) (top l)

def St.set (σ : St) (d : Nat) (v : AV) : St := ⟨(d, v) :: del σ.env d, σ.rows⟩
def St.setO (σ : St) (d : Option Nat) (v : AV) : St := match d with
  | some d => σ.set d v
  | none => σ
def St.putRow (σ : St) (r : Nat) (x : Row) : St := ⟨σ.env, (r, x) :: del σ.rows r⟩

/-- Does a slot's value lead to row r? -/
def AV.hits (r : Nat) : AV → Bool
  | .own q => Nat.beq q r
  | .bptr q _ => Nat.beq q r
  | .eptr q _ _ => Nat.beq q r
  | .fn _ l => hitsL r l
  | .tup l => hitsL r l
  | _ => false
where hitsL (r : Nat) : List AV → Bool
  | [] => false
  | x :: l => bif AV.hits r x then true else hitsL r l
def dropHits (r : Nat) : List (Nat × AV) → List (Nat × AV)
  | [] => []
  | (m, v) :: l => bif v.hits r then dropHits r l else (m, v) :: dropHits r l

inductive X
  | t (n : Nat)
  | c (v : Value)
  | f (id : FuncId)

def cvs : List Value → List D
  | [] => []
  | v :: l => cv v :: cvs l

def St.ev (σ : St) : X → Option AV
  | .t n => lkp σ.env n
  | .c v => some (.d (cv v))
  | .f id => some (.d (.fn id []))
def St.evs (σ : St) : List X → Option (List AV)
  | [] => some []
  | x :: l => match σ.ev x, σ.evs l with
    | some v, some vs => some (v :: vs)
    | _, _ => none

inductive IOp
  | mov (x : X)
  | pick (c a b : X)
  | bin (op : BinOp) (k : IntKind) (x y : X)
  | eqb (neg : Bool) (x y : X)
  | eqn (neg : Bool) (x : X)
  | eqa (neg : Bool) (fs : List (Nat × Bool)) (x y : X)
  | not (x : X)
  | neg (k : IntKind) (x : X)
  | conv (k : IntKind) (x : X)
  | alloc (zs : List Value)
  | box (x : X)
  | build (zs : List Value) (ps : List (Nat × Nat × X))
  | bsl (ty esz : Nat) (ps : List X)
  | load (agg : Option Nat) (a : X)
  | store (n : Nat) (a x : X)
  | mks (ty esz bytes : Nat) (zs : List Value) (l c : X)
  | faddr (off : Nat) (x : X)
  | iaddr (esz : Nat) (x i : X)
  | aaddr (n esz : Nat) (x i : X)
  | fld (off : Nat) (agg : Option Nat) (x : X)
  | ext (x : X) (i : Nat)
  | len (x : X)
  | slen (x : X)
  | mm (mx : Bool) (x y : X)
  | app1 (ty esz bytes : Nat) (x y : X)
  | apps (ty esz bytes : Nat) (x y : X)
  | slc (esz : Nat) (x : X) (lo hi : Option X)
  | call (f : FuncId) (xs : List X)
  | callv (f : X) (xs : List X)
  | mkf (f : FuncId) (caps : List X)
  | mki
  | pan

/-- An operation: its guard (the slot that is asked, and the answer that is wanted), its slot, and what it does. -/
structure GOp where
  g : Option (Nat × Bool)
  dst : Option Nat
  op : IOp

inductive Cls
  | p | r | g

inductive CC
  | skip
  | reg (keep : List Nat) (ops : List GOp)
  | dreg (keep : List Nat) (ms : List Nat) (ops : List (Cls × GOp))
  | seq (a b : CC)
  | cut (a b : CC)
  | cond (c : X) (a b : CC)
  | block (id : Nat) (b : CC)
  | loop (b : CC)
  | exit (id : Nat)
  | ret
  | bad

/-- A result. -/
inductive Res : Type 1
  | d (x : D)
  | row (x : Row)
  | tup (l : List Res)

/-- An argument: read, written in place, or handed over. -/
inductive Arg : Type 1
  | d (x : D)
  | row (x : Row)
  | take (x : Row)

/-- What a function may rely on: 'GCall' is filled in behind. -/
inductive Mode
  | b | m | t

structure Tab : Type 1 where
  sh : Nat → Option Sh
  fns : List Nat
  base : Nat
  ct : FuncId → List Arg → Res → List Row → Prop
  modes : FuncId → List Mode
  mod : Option (List Nat × Nat)

/-- The name of the next row: names below 'base' are the rows that were handed in. -/
def St.fresh (σ : St) (T : Tab) : Nat := Nat.max (top σ.rows) T.base

/-- A row more. (No slot leads to a name that nobody bears.) -/
def St.add (σ : St) (T : Tab) (x : Row) : St := ⟨dropHits (σ.fresh T) σ.env, (σ.fresh T, x) :: σ.rows⟩

structure Side (p : Th Prop) : Prop where
  h : p ()
inductive VIf (f : Th Bool) (p q : Unit → Prop) : Prop
  | tt (h : f () = true) (hp : p ())
  | ff (h : f () = false) (hq : q ())

/-- A length is bounded. -/
structure LenB (n : Th Nat) (p : Unit → Prop) : Prop where
  h : n () ≤ 9223372036854775807 → p ()

/-- A place where the reckoning of a condition pauses. -/
structure Stop (p : Unit → Prop) : Prop where
  h : p ()

def bifB (b : BV) (p q : Unit → Prop) : Prop := match b with
  | .lit true => Stop p
  | .lit false => Stop q
  | .dyn f => VIf f p q

structure inR (k : IntKind) (n : Int) : Prop where
  lo : k.min ≤ n
  hi : n ≤ k.max

def binop (op : BinOp) (k : IntKind) (m n : Th Int) (K : D → Prop) : Prop :=
  match op with
  | .add => Side (fun _ => inR k (m () + n ())) ∧ K (.i k (fun _ => m () + n ()))
  | .sub => Side (fun _ => inR k (m () - n ())) ∧ K (.i k (fun _ => m () - n ()))
  | .mul => Side (fun _ => inR k (m () * n ())) ∧ K (.i k (fun _ => m () * n ()))
  | .quo => Side (fun _ => 0 ≤ m () ∧ 0 < n () ∧ inR k (m () / n ())) ∧ K (.i k (fun _ => m () / n ()))
  | .rem => Side (fun _ => 0 ≤ m () ∧ 0 < n ()) ∧ K (.i k (fun _ => m () % n ()))
  | .eql => K (.b (.dyn fun _ => decide (m () = n ())))
  | .neq => K (.b (.dyn fun _ => decide (m () ≠ n ())))
  | .lss => K (.b (.dyn fun _ => decide (m () < n ())))
  | .leq => K (.b (.dyn fun _ => decide (m () ≤ n ())))
  | .gtr => K (.b (.dyn fun _ => decide (n () < m ())))
  | .geq => K (.b (.dyn fun _ => decide (n () ≤ m ())))
  | .shr => Side (fun _ => 0 ≤ m () ∧ n () = 1 ∧ inR k (m () / 2)) ∧ K (.i k (fun _ => m () / 2))
  | _ => False

/-- Are two lists of zero values alike? (numbers, truth values, nil slices, empty strings) -/
def zeq1 : Value → Value → Bool
  | .int j m, .int k n => decide (j = k) && decide (m = n)
  | .bool a, .bool b => a == b
  | .slice none 0 0, .slice none 0 0 => true
  | .string s, .string t => s.data.toList == t.data.toList
  | _, _ => false
def zeq : List Value → List Value → Bool
  | [], [] => true
  | a :: l, b :: m => zeq1 a b && zeq l m
  | _, _ => false

def nth : List D → Nat → Option D
  | [], _ => none
  | x :: _, 0 => some x
  | _ :: l, n + 1 => nth l n
def dropD : Nat → List D → List D
  | 0, l => l
  | _ + 1, [] => []
  | n + 1, _ :: l => dropD n l
def takeD : Nat → List D → Option (List D)
  | 0, _ => some []
  | _ + 1, [] => none
  | n + 1, x :: l => match takeD n l with
    | some m => some (x :: m)
    | none => none
/-- 'ys' laid over the list from 'off' on. -/
def over : List D → Nat → List D → Option (List D)
  | l, 0, [] => some l
  | [], 0, _ :: _ => none
  | _ :: l, 0, y :: ys => match over l 0 ys with
    | some m => some (y :: m)
    | none => none
  | [], _ + 1, [] => none
  | [], _ + 1, _ :: _ => none
  | x :: l, n + 1, ys => match over l n ys with
    | some m => some (x :: m)
    | none => none

/-- The cells of a value. -/
def D.nrm : D → D
  | .b (.lit q) => .b (.dyn fun _ => q)
  | x => x
def nrmL : List D → List D
  | [] => []
  | x :: l => x.nrm :: nrmL l
def D.parts : D → List D
  | .agg cs => nrmL cs
  | x => [x.nrm]
def len' : List D → Nat
  | [] => 0
  | _ :: l => len' l + 1

def allowed (T : Tab) (r : Nat) : Bool := match T.mod with
  | none => true
  | some (l, n) => bif Nat.ble n r then true else mem l r

/-- A row that nobody writes any more. -/
def Row.frz : Row → D
  | .sl s xs => .sl s.esz s.cells s.d0 xs
  | .box cs => .box cs
def AV.frz (r : Nat) (x : D) : AV → AV
  | .own q => bif Nat.beq q r then .d x else .own q
  | .bptr q o => bif Nat.beq q r then match x with
    | .box cs => .pptr cs o
    | _ => .any
    else .bptr q o
  | .eptr q i o => bif Nat.beq q r then .dptr x i o else .eptr q i o
  | .fn f l => .fn f (frzL r x l)
  | .tup l => .tup (frzL r x l)
  | v => v
where frzL (r : Nat) (x : D) : List AV → List AV
  | [] => []
  | v :: l => AV.frz r x v :: frzL r x l
/-- Is this a pointer into the row? -/
def AV.into (r : Nat) : AV → Bool
  | .bptr q _ => Nat.beq q r
  | .eptr q _ _ => Nat.beq q r
  | .fn _ l => intoL r l
  | .tup l => intoL r l
  | _ => false
where intoL (r : Nat) : List AV → Bool
  | [] => false
  | x :: l => bif AV.into r x then true else intoL r l
def frzEnv (r : Nat) (x : D) : List (Nat × AV) → List (Nat × AV)
  | [] => []
  | (m, v) :: l => (m, v.frz r x) :: frzEnv r x l
def St.freeze (σ : St) (r : Nat) (x : Row) : St := ⟨frzEnv r x.frz σ.env, del σ.rows r⟩

/-- A value as data: a slice of the call's own is frozen by this. -/
def asD (T : Tab) (σ : St) (v : AV) (K : St → D → Prop) : Prop := match v with
  | .d x => K σ x
  | .own r => bif Nat.blt r T.base then False else match lkp σ.rows r with
    | some (.sl s xs) => K (σ.freeze r (.sl s xs)) (.sl s.esz s.cells s.d0 xs)
    | _ => False
  | _ => False
def asDs (T : Tab) : St → List AV → (St → List D → Prop) → Prop
  | σ, [], K => K σ []
  | σ, v :: l, K => asD T σ v fun σ' x => asDs T σ' l fun σ'' xs => K σ'' (x :: xs)
/-- The operands, each as data (frozen one after the other, so that what a later one freezes an earlier one may hold). -/
def evD (T : Tab) (σ : St) (x : X) (K : St → D → Prop) : Prop := match σ.ev x with
  | some v => asD T σ v K
  | none => False
def evDs (T : Tab) : St → List X → (St → List D → Prop) → Prop
  | σ, [], K => K σ []
  | σ, x :: l, K => evD T σ x fun σ' d => evDs T σ' l fun σ'' ds => K σ'' (d :: ds)

def fillD : List D → List (Nat × Nat × D) → Option (List D)
  | l, [] => some l
  | l, (off, n, d) :: ps => bif Nat.beq (len' d.parts) n then bif ones d.parts then match over l off d.parts with
    | some m => fillD m ps
    | none => none
    else none else none
def onesAll : List D → Bool
  | [] => true
  | d :: l => bif ones d.parts then onesAll l else false
def zip3 : List (Nat × Nat × X) → List D → List (Nat × Nat × D)
  | (o, n, _) :: l, d :: ds => (o, n, d) :: zip3 l ds
  | _, _ => []
def xsOf : List (Nat × Nat × X) → List X
  | [] => []
  | (_, _, x) :: l => x :: xsOf l

/-- Elements read back from their cells: as the shape does it, or by one's own word. -/
structure Dec (s : Sh) (dss : List (List D)) (K : Th (List s.α) → Prop) : Prop where
  h : ∃ xs : List s.α, dss = xs.map (fun x => s.cells (fun _ => x)) ∧ K (fun _ => xs)
def decs (s : Sh) : List (List D) → Option (List (Th s.α))
  | [] => some []
  | ds :: l => match s.dec ds, decs s l with
    | some x, some xs => some (x :: xs)
    | _, _ => none
def thl {α : Type} (l : List (Th α)) : List α := l.map (fun f => f ())
def dec' (s : Sh) (dss : List (List D)) (K : Th (List s.α) → Prop) : Prop := match decs s dss with
  | some xs => K (fun _ => thl xs)
  | none => Dec s dss K
structure Dec1 (s : Sh) (ds : List D) (K : Th s.α → Prop) : Prop where
  h : ∃ x : s.α, ds = s.cells (fun _ => x) ∧ K (fun _ => x)
def dec1 (s : Sh) (ds : List D) (K : Th s.α → Prop) : Prop := match s.dec ds with
  | some x => K x
  | none => Dec1 s ds K
/-- Elements of another list, read as elements of this shape. -/
structure Same {α : Type} (s : Sh) (cells : Th α → List D) (xs : Th (List α)) (K : Th (List s.α) → Prop) : Prop where
  h : ∃ ys : List s.α, (xs ()).map (fun x => cells (fun _ => x)) = ys.map (fun y => s.cells (fun _ => y)) ∧ K (fun _ => ys)

/-- The cells of a part of a value, or of the memory behind a pointer. -/
def cellsAt (σ : St) (a : AV) : Option (List D) := match a with
  | .bptr r o => match lkp σ.rows r with
    | some (.box cs) => some (dropD o cs)
    | _ => none
  | .eptr r i o => match lkp σ.rows r with
    | some (.sl s xs) => some (dropD o (s.cells (fun _ => (xs ()).getD (i ()).toNat s.d0)))
    | _ => none
  | .dptr (.sl _ cells d0 xs) i o => some (dropD o (cells (fun _ => (xs ()).getD (i ()).toNat d0)))
  | .pptr cs o => some (dropD o cs)
  | _ => none

def partsOf (agg : Option Nat) (ds : List D) (K : D → Prop) : Prop := match agg with
  | none => match ds with
    | d :: _ => K d
    | [] => False
  | some n => match takeD n ds with
    | some l => K (.agg l)
    | none => False

def nilD : D → Bool
  | .v (.slice none 0 0) => true
  | _ => false

def eqD (int : Bool) (x y : D) : Option (Th Bool) := match int, x, y with
  | true, .i k m, .i k' n => bif decide (k = k') then some (fun _ => decide (m () = n ())) else none
  | false, .b a, .b c => some (fun _ => a.get == c.get)
  | _, _, _ => none
def eqFs : List (Nat × Bool) → List D → List D → Option (Th Bool)
  | [], _, _ => some (fun _ => true)
  | (o, q) :: l, xs, ys => match nth xs o, nth ys o, eqFs l xs ys with
    | some x, some y, some r => match eqD q x y with
      | some e => some (fun _ => e () && r ())
      | none => none
    | _, _, _ => none

/-- Results laid into the state. -/
def St.addRes (T : Tab) (σ : St) (R : Res) : St × AV := match R with
  | .d x => (σ, .d x)
  | .row x => (σ.add T x, .own (σ.fresh T))
  | .tup l => match addL T σ l with
    | (σ', vs) => (σ', .tup vs)
where addL (T : Tab) (σ : St) : List Res → St × List AV
  | [] => (σ, [])
  | .d x :: l => match addL T σ l with
    | (σ', vs) => (σ', .d x :: vs)
  | .row x :: l => match addL T (σ.add T x) l with
    | (σ', vs) => (σ', .own (σ.fresh T) :: vs)
  | .tup _ :: l => match addL T σ l with
    | (σ', vs) => (σ', .any :: vs)

/-- Scalars hold no memory. -/
def D.flat : D → Bool
  | .i _ _ => true
  | .b _ => true
  | .s _ => true
  | .v (.slice none 0 0) => true
  | .agg cs => flatL cs
  | _ => false
where flatL : List D → Bool
  | [] => true
  | x :: l => bif D.flat x then flatL l else false

/-- An argument that is only read, as data: rows of the call's own are lent. -/
def bor (σ : St) : AV → Option D
  | .d x => some x
  | .own r => match lkp σ.rows r with
    | some (.sl s xs) => some (.sl s.esz s.cells s.d0 xs)
    | _ => none
  | .bptr r 0 => match lkp σ.rows r with
    | some (.box cs) => some (.box cs)
    | _ => none
  | .pptr cs 0 => some (.box cs)
  | .fn f l => match borL σ l with
    | some ds => some (.fn f ds)
    | none => none
  | _ => none
where borL (σ : St) : List AV → Option (List D)
  | [] => some []
  | v :: l => match bor σ v, borL σ l with
    | some x, some xs => some (x :: xs)
    | _, _ => none
def isD : AV → Bool
  | .d _ => true
  | .pptr _ _ => true
  | _ => false
def hitsAny (rs : List (Nat × Bool)) (v : AV) : Bool := match rs with
  | [] => false
  | (r, _) :: l => bif v.hits r then true else hitsAny l v
def memK (r : Nat) : List (Nat × Bool) → Bool
  | [] => false
  | (q, _) :: l => bif Nat.beq q r then true else memK r l
/-- The arguments by their modes; the rows that are written (false) or handed over (true); is nothing lent? -/
def mkArgs1 (T : Tab) (σ : St) : List Mode → List AV → Option (List Arg × List (Nat × Bool) × Bool)
  | _, [] => some ([], [], true)
  | .m :: ms, v :: vs => match v with
    | .own r => match lkp σ.rows r, mkArgs1 T σ ms vs with
      | some (.sl s xs), some (as, rs, nb) => bif memK r rs then none else bif allowed T r then some (.row (.sl s xs) :: as, (r, false) :: rs, nb) else none
      | _, _ => none
    | _ => none
  | .t :: ms, v :: vs => match v with
    | .own r => match lkp σ.rows r, mkArgs1 T σ ms vs with
      | some (.sl s xs), some (as, rs, nb) => bif memK r rs then none else bif Nat.blt r T.base then none else bif allowed T r then some (.take (.sl s xs) :: as, (r, true) :: rs, nb) else none
      | _, _ => none
    | _ => none
  | .b :: ms, v :: vs => match bor σ v, mkArgs1 T σ ms vs with
    | some x, some (as, rs, nb) => some (.d x :: as, rs, bif nb then isD v else false)
    | _, _ => none
  | [], v :: vs => match bor σ v, mkArgs1 T σ [] vs with
    | some x, some (as, rs, nb) => some (.d x :: as, rs, bif nb then isD v else false)
    | _, _ => none
/-- Nothing is lent that is written. -/
def okB (rs : List (Nat × Bool)) : List Mode → List AV → Bool
  | _, [] => true
  | .b :: ms, v :: vs => bif hitsAny rs v then false else okB rs ms vs
  | [], v :: vs => bif hitsAny rs v then false else okB rs [] vs
  | _ :: ms, _ :: vs => okB rs ms vs
def mkArgs (T : Tab) (σ : St) (ms : List Mode) (vs : List AV) : Option (List Arg × List (Nat × Bool) × Bool) := match mkArgs1 T σ ms vs with
  | some (as, rs, nb) => bif okB rs ms vs then some (as, rs, nb) else none
  | none => none

/-- The state behind a call: rows written, rows handed over. -/
def after (σ : St) : List (Nat × Bool) → List Row → Option St
  | [], [] => some σ
  | (r, false) :: rs, x :: xs => match after σ rs xs with
    | some τ => some (τ.putRow r x)
    | none => none
  | (r, true) :: rs, xs => match after σ rs xs with
    | some τ => some ⟨dropHits r τ.env, del τ.rows r⟩
    | none => none
  | _, _ => none

def Row.Flat : Row → Prop
  | .sl s _ => ∀ x, D.flat.flatL (s.cells x) = true
  | .box cs => D.flat.flatL cs = true
def Res.Flat : Res → Prop
  | .d x => x.flat = true
  | .row x => x.Flat
  | .tup l => FlatL l
where FlatL : List Res → Prop
  | [] => True
  | x :: l => Res.Flat x ∧ FlatL l

/-- Behind a call. -/
def andThen (T : Tab) (σ : Option St) (R : Res) (K : St → AV → Prop) : Prop := match σ with
  | some τ => match τ.addRes T R with
    | (τ', v) => K τ' v
  | none => False

/-- A call by a contract; rows may be frozen ahead of it. -/
inductive CallOK (T : Tab) (f : FuncId) (K : St → AV → Prop) : St → List AV → Prop
  | go {σ : St} {vs : List AV} {as : List Arg} {rs : List (Nat × Bool)} {nb : Bool} {R : Res} {xs : List Row} (e : mkArgs T σ (T.modes f) vs = some (as, rs, nb)) (hc : T.ct f as R xs)
      (hf : nb = true ∨ (R.Flat ∧ ∀ x ∈ xs, x.Flat)) (hk : andThen T (after σ rs xs) R K) : CallOK T f K σ vs
  | frz {σ : St} {vs : List AV} (r : Nat) (x : Row) (hr : lkp σ.rows r = some x) (hb : T.base ≤ r) (h : CallOK T f K (σ.freeze r x) (vs.map (AV.frz r x.frz))) : CallOK T f K σ vs
structure VCall (T : Tab) (f : FuncId) (ar : Option (List Arg × List (Nat × Bool) × Bool)) (σ : St) (vs : List AV) (K : St → AV → Prop) : Prop where
  h : ar = mkArgs T σ (T.modes f) vs → CallOK T f K σ vs

def vcall (T : Tab) (σ : St) (f : FuncId) (vs : List AV) (K : St → AV → Prop) : Prop :=
  bif mem T.fns f then VCall T f (mkArgs T σ (T.modes f) vs) σ vs K else False

/-- Elements laid behind a row. -/
def grow (T : Tab) (σ : St) (s : Sh) (bytes : Nat) (r : Nat) (xs : Th (List s.α)) (ys : Th (List s.α)) (K : St → AV → Prop) : Prop :=
  Side (fun _ => ((xs ()).length + (ys ()).length) * bytes ≤ 140737488355328) ∧
  K ⟨dropHits r σ.env, (r, .sl s (fun _ => xs () ++ ys ())) :: del σ.rows r⟩ (.own r)

/-- The row behind the first operand of append. -/
def appTo (T : Tab) (σ : St) (ty esz : Nat) (v : AV) (K : St → (s : Sh) → Nat → Th (List s.α) → Prop) : Prop := match v with
  | .own r => bif Nat.blt r T.base then False else bif allowed T r then match lkp σ.rows r with
    | some (.sl s xs) => bif Nat.beq s.ty ty then bif Nat.beq s.esz esz then K σ s r xs else False else False
    | _ => False
    else False
  | .d (.v (.slice none 0 0)) => match T.sh ty with
    | some s => bif Nat.beq s.ty ty then bif Nat.beq s.esz esz then K (σ.add T (.sl s (fun _ => []))) s (σ.fresh T) (fun _ => []) else False else False
    | none => False
  | _ => False

/-- What is appended. -/
def srcOf (σ : St) (v : AV) : Option D := match v with
  | .d (.v (.slice none 0 0)) => none
  | v => bor σ v

def step (T : Tab) (o : IOp) (σ : St) (K : St → AV → Prop) : Prop :=
  match o with
  | .mov x => match σ.ev x with | some v => K σ v | none => False
  | .pick c a b => match σ.ev c with
    | some (.d (.b t)) => bifB t (fun _ => match σ.ev a with | some v => K σ v | none => False) (fun _ => match σ.ev b with | some v => K σ v | none => False)
    | _ => False
  | .bin op k x y => match σ.ev x, σ.ev y with
    | some (.d (.i k' m)), some (.d (.i k'' n)) => bif decide (k' = k) then bif decide (k'' = k) then binop op k m n fun v => K σ (.d v) else False else False
    | _, _ => False
  | .eqb neg x y => match σ.ev x, σ.ev y with
    | some (.d (.b m)), some (.d (.b n)) => K σ (.d (.b (.dyn fun _ => bif neg then !(m.get == n.get) else m.get == n.get)))
    | _, _ => False
  | .eqn neg x => match σ.ev x with
    | some (.d v) => bif nilD v then K σ (.d (.b (.lit (!neg)))) else match v with
        | .sl _ _ _ xs => Side (fun _ => xs () ≠ []) ∧ K σ (.d (.b (.lit neg)))
        | _ => False
    | some (.own r) => match lkp σ.rows r with
      | some (.sl _ xs) => Side (fun _ => xs () ≠ []) ∧ K σ (.d (.b (.lit neg)))
      | _ => False
    | _ => False
  | .eqa neg fs x y => match σ.ev x, σ.ev y with
    | some (.d (.agg xs)), some (.d (.agg ys)) => match eqFs fs xs ys with
      | some e => K σ (.d (.b (.dyn fun _ => bif neg then !e () else e ())))
      | none => False
    | _, _ => False
  | .not x => match σ.ev x with
    | some (.d (.b (.lit b))) => K σ (.d (.b (.lit (!b))))
    | some (.d (.b (.dyn f))) => K σ (.d (.b (.dyn fun _ => !f ())))
    | _ => False
  | .neg k x => match σ.ev x with
    | some (.d (.i k' m)) => bif decide (k' = k) then Side (fun _ => inR k (- m ())) ∧ K σ (.d (.i k (fun _ => - m ()))) else False
    | _ => False
  | .conv k x => match σ.ev x with
    | some (.d (.i _ m)) => Side (fun _ => inR k (m ())) ∧ K σ (.d (.i k m))
    | _ => False
  | .alloc zs => K (σ.add T (.box (cvs zs))) (.bptr (σ.fresh T) 0)
  | .box x => evD T σ x fun σ d => bif ones d.parts then K (σ.add T (.box d.parts)) (.bptr (σ.fresh T) 0) else False
  | .build zs ps => evDs T σ (xsOf ps) fun σ ds => match fillD (cvs zs) (zip3 ps ds) with
    | some l => K σ (.d (.agg l))
    | none => False
  | .bsl ty esz ps => evDs T σ ps fun σ ds => match T.sh ty with
    | some s => bif Nat.beq s.ty ty then bif Nat.beq s.esz esz then bif onesAll ds then
        dec' s (ds.map D.parts) fun xs => K (σ.add T (.sl s xs)) (.own (σ.fresh T))
      else False else False else False
    | none => False
  | .load agg a => match σ.ev a with
    | some a => match cellsAt σ a with
      | some ds => partsOf agg ds fun d => K σ (.d d)
      | none => False
    | none => False
  | .store n a x => evD T σ x fun σ d =>
      bif Nat.beq (len' d.parts) n then bif ones d.parts then match σ.ev a with
        | some (.bptr r o) => bif allowed T r then match lkp σ.rows r with
          | some (.box cs) => match over cs o d.parts with
            | some l => K (σ.putRow r (.box l)) .un
            | none => False
          | _ => False else False
        | some (.eptr r i o) => bif allowed T r then match lkp σ.rows r with
          | some (.sl s xs) => match over (s.cells (fun _ => (xs ()).getD (i ()).toNat s.d0)) o d.parts with
            | some l => dec1 s l fun x => K (σ.putRow r (.sl s (fun _ => (xs ()).set (i ()).toNat (x ())))) .un
            | none => False
          | _ => False else False
        | _ => False
      else False else False
  | .mks ty esz bytes zs l c => match σ.ev l, σ.ev c, T.sh ty with
    | some (.d (.i .i64 m)), some (.d (.i .i64 n)), some s => bif Nat.beq s.ty ty then bif Nat.beq s.esz esz then bif zeq s.zs zs then
        Side (fun _ => 0 ≤ m () ∧ m () ≤ n () ∧ n () * bytes ≤ 140737488355328) ∧
        K (σ.add T (.sl s (fun _ => List.replicate (m ()).toNat s.d0))) (.own (σ.fresh T))
      else False else False else False
    | _, _, _ => False
  | .faddr off x => match σ.ev x with
    | some (.bptr r o) => K σ (.bptr r (o + off))
    | some (.eptr r i o) => K σ (.eptr r i (o + off))
    | some (.dptr x i o) => K σ (.dptr x i (o + off))
    | some (.pptr cs o) => K σ (.pptr cs (o + off))
    | _ => False
  | .iaddr esz x i => match σ.ev x, σ.ev i with
    | some (.own r), some (.d (.i _ n)) => match lkp σ.rows r with
      | some (.sl s xs) => bif Nat.beq s.esz esz then Side (fun _ => 0 ≤ n () ∧ n () < (xs ()).length) ∧ K σ (.eptr r n 0) else False
      | _ => False
    | some (.d (.sl esz' cells d0 xs)), some (.d (.i _ n)) => bif Nat.beq esz' esz then Side (fun _ => 0 ≤ n () ∧ n () < (xs ()).length) ∧ K σ (.dptr (.sl esz' cells d0 xs) n 0) else False
    | _, _ => False
  | .aaddr n esz x i => match i with
    | .c (.int _ (.ofNat j)) => bif Nat.blt j n then match σ.ev x with
      | some (.bptr r o) => K σ (.bptr r (o + j * esz))
      | some (.eptr r i o) => K σ (.eptr r i (o + j * esz))
      | some (.dptr x i o) => K σ (.dptr x i (o + j * esz))
      | some (.pptr cs o) => K σ (.pptr cs (o + j * esz))
      | _ => False
      else False
    | _ => False
  | .fld off agg x => match σ.ev x with
    | some (.d (.agg cs)) => partsOf agg (dropD off cs) fun d => K σ (.d d)
    | _ => False
  | .ext x i => match σ.ev x with
    | some (.tup l) => nthA l i fun v => K σ v
    | _ => False
  | .len x => match σ.ev x with
    | some (.d (.sl _ _ _ xs)) => LenB (fun _ => (xs ()).length) fun _ => K σ (.d (.i .i64 (fun _ => (xs ()).length)))
    | some (.d (.v (.slice none 0 0))) => K σ (.d (.i .i64 (fun _ => 0)))
    | some (.own r) => match lkp σ.rows r with
      | some (.sl _ xs) => LenB (fun _ => (xs ()).length) fun _ => K σ (.d (.i .i64 (fun _ => (xs ()).length)))
      | _ => False
    | _ => False
  | .slen x => match σ.ev x with
    | some (.d (.s x)) => K σ (.d (.i .i64 (fun _ => (x ()).size)))
    | _ => False
  | .mm mx x y => match σ.ev x, σ.ev y with
    | some (.d (.i k m)), some (.d (.i k' n)) => bif decide (k = k') then K σ (.d (.i k (fun _ => bif mx then max (m ()) (n ()) else min (m ()) (n ())))) else False
    | _, _ => False
  | .app1 ty esz bytes x y => match σ.ev x, σ.ev y with
    | some v, some (.own q) => match lkp σ.rows q with
      | some (.sl s' ys) => appTo T ⟨dropHits q σ.env, del σ.rows q⟩ ty esz v fun σ s r xs =>
          Same s s'.cells ys fun zs => grow T σ s bytes r xs zs K
      | _ => False
    | _, _ => False
  | .apps ty esz bytes x y => match σ.ev x, σ.ev y with
    | some v, some u => match srcOf σ u with
      | some (.sl esz' cells _ ys) => bif Nat.beq esz' esz then appTo T σ ty esz v fun σ s r xs =>
          Same s cells ys fun zs => grow T σ s bytes r xs zs K
          else False
      | _ => False
    | _, _ => False
  | .slc esz x lo hi => match σ.ev x with
    | some (.d (.sl esz' cells d0 xs)) => bif Nat.beq esz' esz then bnd σ lo (fun _ => 0) fun l => bnd σ hi (fun _ => (xs ()).length) fun h =>
        Side (fun _ => 0 ≤ l () ∧ l () ≤ h () ∧ h () ≤ (xs ()).length) ∧
        K σ (.d (.sl esz' cells d0 (fun _ => ((xs ()).drop (l ()).toNat).take (h () - l ()).toNat)))
      else False
    | _ => False
  | .call f xs => match σ.evs xs with
    | some vs => vcall T σ f vs K
    | none => False
  | .callv f xs => match σ.ev f, σ.evs xs with
    | some (.d (.fn g caps)), some vs => vcall T σ g (vs ++ caps.map .d) K
    | some (.fn g caps), some vs => vcall T σ g (vs ++ caps) K
    | _, _ => False
  | .mkf f caps => match σ.evs caps with
    | some vs => K σ (.fn f vs)
    | none => False
  | .mki => K σ .any
  | .pan => False
where
  nthA : List AV → Nat → (AV → Prop) → Prop
    | [], _, _ => False
    | v :: _, 0, K => K v
    | _ :: l, n + 1, K => nthA l n K
  bnd (σ : St) (x : Option X) (d : Th Int) (K : Th Int → Prop) : Prop := match x with
    | none => K d
    | some x => match σ.ev x with
      | some (.d (.i _ n)) => K n
      | _ => False

def gop (T : Tab) (o : GOp) (σ : St) (K : St → Prop) : Prop :=
  match o.g with
  | none => step T o.op σ fun σ v => K (σ.setO o.dst v)
  | some (s, pol) => match lkp σ.env s with
    | some (.d (.b b)) => bifB b
        (fun _ => bif pol then step T o.op (σ.set s (.d (.b (.lit true)))) (fun σ v => K (σ.setO o.dst v)) else K ((σ.set s (.d (.b (.lit true)))).setO o.dst .un))
        (fun _ => bif pol then K ((σ.set s (.d (.b (.lit false)))).setO o.dst .un) else step T o.op (σ.set s (.d (.b (.lit false)))) (fun σ v => K (σ.setO o.dst v)))
    | some .un => K (σ.setO o.dst .un)
    | _ => False
def vops (T : Tab) : List GOp → St → (St → Prop) → Prop
  | [], σ, K => K σ
  | o :: l, σ, K => gop T o σ fun σ' => vops T l σ' K

/-- One state does for another. -/
structure DEq (x y : D) : Prop where
  h : x = y
structure AEq (σ : St) (x y : AV) : Prop where
  h : x = y
  live : ∀ r, y.hits r = true → (lkp σ.rows r).isSome = true
inductive REq : Row → Row → Prop
  | same (x : Row) : REq x x
theorem REq.sl {s : Sh} {xs ys : Th (List s.α)} (h : xs () = ys ()) : REq (.sl s xs) (.sl s ys) := by
  have : xs = ys := funext fun _ => h
  subst this
  exact .same _
def covD : D → D → Prop
  | .i k m, .i k' n => bif decide (k = k') then Side (fun _ => m () = n ()) else False
  | .b (.lit a), .b (.lit c) => bif a == c then True else False
  | .b a, .b c => Side (fun _ => a.get = c.get)
  | .v (.slice none 0 0), .v (.slice none 0 0) => True
  | .v (.slice none 0 0), .sl _ _ _ xs => Side (fun _ => xs () = [])
  | .agg xs, .agg ys => covDs xs ys
  | x, y => DEq x y
where covDs : List D → List D → Prop
  | [], [] => True
  | x :: l, y :: m => covD x y ∧ covDs l m
  | _, _ => False
def covA (σ τ : St) : AV → AV → Prop
  | .own r, .own q => bif Nat.beq r q then match lkp σ.rows r with
    | some _ => True
    | none => False
    else False
  | .d (.v (.slice none 0 0)), .own q => match lkp τ.rows q, lkp σ.rows q with
    | some (.sl _ xs), none => Side (fun _ => xs () = [])
    | _, _ => False
  | .d x, .d y => covD x y
  | .bptr r o, .bptr q p => bif Nat.beq r q then bif Nat.beq o p then match lkp σ.rows r with
    | some _ => True
    | none => False
    else False else False
  | _, .any => True
  | x, y => AEq σ x y
def covEnv (σ τ : St) : List (Nat × AV) → Prop
  | [] => True
  | (s, v) :: l => match lkp σ.env s with
    | some u => covA σ τ u v ∧ covEnv σ τ l
    | none => False
def covRow : Row → Row → Prop
  | .box xs, .box ys => covD.covDs xs ys
  | x, y => REq x y
def covRows (T : Tab) (σ : St) : List (Nat × Row) → Prop
  | [] => True
  | (r, x) :: l => match lkp σ.rows r with
    | some y => covRow y x ∧ covRows T σ l
    | none => match x with
      | .sl s xs => bif Nat.blt r T.base then False else Side (fun _ => xs () = []) ∧ covRows T σ l
      | _ => False
def cov (T : Tab) (σ τ : St) : Prop := covRows T σ τ.rows ∧ covEnv σ τ τ.env

structure VLoop (T : Tab) (rd : St → (St → Prop) → Prop) (σ : St) : Prop where
  h : ∃ (ι : Type) (I : ι → St) (C : ι → Prop) (μ : ι → Nat), (∃ i, C i ∧ cov T σ (I i)) ∧
    ∀ i, C i → rd (I i) fun σ' => ∃ j, C j ∧ μ j < μ i ∧ cov T σ' (I j)
/-- Behind a piece of code: the states that are left go on as one family. -/
structure VCut (T : Tab) (rd : (St → Prop) → Prop) (nx : St → Prop) : Prop where
  h : ∃ (ι : Type) (I : ι → St) (C : ι → Prop), (rd fun σ' => ∃ j, C j ∧ cov T σ' (I j)) ∧ ∀ i, C i → nx (I i)

def St.keep (σ : St) (ks : List Nat) : St := ⟨keepIn ks σ.env, σ.rows⟩

def rowsOf (σ : St) : List Nat → List Nat
  | [] => []
  | s :: l => match lkp σ.env s with
    | some (.own r) => r :: rowsOf σ l
    | some (.bptr r _) => r :: rowsOf σ l
    | some (.eptr r _ _) => r :: rowsOf σ l
    | _ => rowsOf σ l

/-! Drawn regions whose operations make data, or write rows one after the other: all orders come to the same. -/
def AV.still (b : Nat) : AV → Bool
  | .d _ => true
  | .dptr _ _ _ => true
  | .pptr _ _ => true
  | .own r => Nat.blt r b
  | _ => false
def St.evD (σ : St) (x : X) : Option D := match σ.ev x with
  | some (.d d) => some d
  | _ => none
def St.evDs (σ : St) : List X → Option (List D)
  | [] => some []
  | x :: l => match σ.evD x, σ.evDs l with
    | some d, some ds => some (d :: ds)
    | _, _ => none
def argsOfD : List D → List Arg
  | [] => []
  | d :: l => .d d :: argsOfD l
/-- A call of data that hands back data. -/
structure QCall (T : Tab) (f : FuncId) (ds : List D) (K : D → Prop) : Prop where
  h : ∃ x, T.ct f (argsOfD ds) (.d x) [] ∧ K x
def qop (T : Tab) (σ : St) (o : IOp) (K : AV → Prop) : Prop := match o with
  | .mov x => match σ.ev x with
    | some v => bif v.still T.base then K v else False
    | none => False
  | .pick c a b => match σ.ev c with
    | some (.d (.b (.lit t))) => match σ.ev (bif t then a else b) with
      | some v => bif v.still T.base then K v else False
      | none => False
    | _ => False
  | .not x => match σ.ev x with
    | some (.d (.b (.dyn f))) => K (.d (.b (.dyn fun _ => !f ())))
    | _ => False
  | .iaddr esz x i => match σ.ev x, σ.ev i with
    | some (.d (.sl esz' cells d0 xs)), some (.d (.i k n)) => bif Nat.beq esz' esz then Side (fun _ => 0 ≤ n () ∧ n () < (xs ()).length) ∧ K (.dptr (.sl esz' cells d0 xs) n 0) else False
    | _, _ => False
  | .aaddr n esz x i => match i with
    | .c (.int _ (.ofNat j)) => bif Nat.blt j n then match σ.ev x with
      | some (.dptr x i o) => K (.dptr x i (o + j * esz))
      | some (.pptr cs o) => K (.pptr cs (o + j * esz))
      | _ => False
      else False
    | _ => False
  | .faddr off x => match σ.ev x with
    | some (.dptr x i o) => K (.dptr x i (o + off))
    | some (.pptr cs o) => K (.pptr cs (o + off))
    | _ => False
  | .load agg a => match σ.ev a with
    | some (.dptr (.sl esz cells d0 xs) i o) => partsOf agg (dropD o (cells (fun _ => (xs ()).getD (i ()).toNat d0))) fun d => K (.d d)
    | some (.pptr cs o) => partsOf agg (dropD o cs) fun d => K (.d d)
    | _ => False
  | .bin op k x y => match σ.ev x, σ.ev y with
    | some (.d (.i k' m)), some (.d (.i k'' n)) => bif decide (k' = k) then bif decide (k'' = k) then binop op k m n fun v => K (.d v) else False else False
    | _, _ => False
  | .call f xs => match σ.evDs xs, T.modes f with
    | some ds, [] => bif mem T.fns f then QCall T f ds fun x => K (.d x) else False
    | _, _ => False
  | .callv f xs => match σ.ev f, σ.evDs xs with
    | some (.d (.fn g caps)), some ds => match T.modes g with
      | [] => bif mem T.fns g then QCall T g (ds ++ caps) fun x => K (.d x) else False
      | _ => False
    | _, _ => False
  | .bsl ty esz ps => match σ.evDs ps, T.sh ty with
    | some ds, some s => bif Nat.beq s.ty ty then bif Nat.beq s.esz esz then bif onesAll ds then dec' s (ds.map D.parts) fun xs => K (.d (.sl s.esz s.cells s.d0 xs)) else False else False else False
    | _, _ => False
  | _ => False
/-- The rows behind a call that writes them in place. -/
def afterR (l : List (Nat × Row)) : List (Nat × Bool) → List Row → Option (List (Nat × Row))
  | [], [] => some l
  | (r, false) :: rs, x :: xs => match afterR l rs xs with
    | some m => some ((r, x) :: del m r)
    | none => none
  | _, _ => none
/-- A call that writes rows in place and hands back data. -/
structure HCall (T : Tab) (f : FuncId) (as : List Arg) (rs : List (Nat × Bool)) (l : List (Nat × Row)) (K : List (Nat × Row) → AV → Prop) : Prop where
  h : ∃ x xs, T.ct f as (.d x) xs ∧ match afterR l rs xs with
    | some m => bif Nat.beq (top m) (top l) then K m (.d x) else False
    | none => False
def hop (T : Tab) (σ : St) (o : IOp) (K : List (Nat × Row) → AV → Prop) : Prop := match o with
  | .call f xs => match σ.evs xs with
    | some vs => bif mem T.fns f then match mkArgs T ⟨[], σ.rows⟩ (T.modes f) vs with
      | some (as, rs, nb) => bif nb then HCall T f as rs σ.rows K else False
      | none => False
      else False
    | none => False
  | _ => False
def isGuard (d : Nat) : List (Cls × GOp) → Bool
  | [] => false
  | (_, ⟨some (s, _), _, _⟩) :: l => bif Nat.beq s d then true else isGuard d l
  | (_, ⟨none, _, _⟩) :: l => isGuard d l
/-- What is asked by a later guard is known as it stands. -/
def putG (q : Bool) (v : AV) (K : AV → Prop) : Prop := bif q then match v with
  | .d (.b b) => bifB b (fun _ => K (.d (.b (.lit true)))) (fun _ => K (.d (.b (.lit false))))
  | _ => False
  else K v
def want (σ : St) : Option (Nat × Bool) → Option Bool
  | none => some true
  | some (s, pol) => match lkp σ.env s with
    | some (.d (.b (.lit q))) => some (bif q then pol else !pol)
    | some .un => some false
    | _ => none
def softs (T : Tab) : List (Cls × GOp) → St → (St → Prop) → Prop
  | [], σ, K => K σ
  | (c, ⟨g, some d, op⟩) :: l, σ, K => match want σ g with
    | some true => match c with
      | .g => hop T σ op fun rows v => putG (isGuard d l) v fun v => softs T l ⟨(d, v) :: del σ.env d, rows⟩ K
      | _ => qop T σ op fun v => putG (isGuard d l) v fun v => softs T l ⟨(d, v) :: del σ.env d, σ.rows⟩ K
    | some false => softs T l ⟨(d, .un) :: del σ.env d, σ.rows⟩ K
    | none => False
  | _, _, _ => False
def St.calm (σ : St) (T : Tab) : St := ⟨dropHits (σ.fresh T) σ.env, σ.rows⟩
/-- Rows may be frozen ahead. -/
inductive SReg (T : Tab) (gs : List (Cls × GOp)) (K : St → Prop) : St → Prop
  | go {σ : St} (h : softs T gs (σ.calm T) K) : SReg T gs K σ
  | frz {σ : St} (r : Nat) (x : Row) (hr : lkp σ.rows r = some x) (hb : T.base ≤ r) (h : SReg T gs K (σ.freeze r x)) : SReg T gs K σ

def vc (T : Tab) : CC → St → (St → Prop) → (Nat → St → Prop) → (St → Prop) → Prop
  | .skip, σ, kn, _, _ => kn σ
  | .reg keep ops, σ, kn, _, _ => vops T ops σ fun σ' => kn (σ'.keep keep)
  | .dreg keep _ ops, σ, kn, _, _ => SReg T ops (fun σ' => kn (σ'.keep keep)) σ
  | .seq a b, σ, kn, kx, kr => vc T a σ (fun σ' => vc T b σ' kn kx kr) kx kr
  | .cut a b, σ, kn, kx, kr => VCut T (fun kn' => vc T a σ kn' kx kr) (fun σ' => vc T b σ' kn kx kr)
  | .cond c a b, σ, kn, kx, kr => match σ.ev c with
    | some (.d (.b t)) => bifB t (fun _ => vc T a σ kn kx kr) (fun _ => vc T b σ kn kx kr)
    | _ => False
  | .block id b, σ, kn, kx, kr => vc T b σ kn (fun j σ' => bif Nat.beq j id then kn σ' else kx j σ') kr
  | .loop b, σ, _, kx, kr => VLoop T (fun σ' kn => vc T b σ' kn kx kr) σ
  | .exit id, σ, _, kx, _ => kx id σ
  | .ret, σ, _, _, kr => kr σ
  | .bad, _, _, _, _ => False

end Go.Eng

/- The engine, part 2: from the model's code to the compact code. -/
namespace Go.Eng

def xOf : Operand → Option X
  | .tmp t => some (.t t)
  | .const v => some (.c v)
  | .func f => some (.f f)
  | .global _ => none
def xsOf' : List Operand → Option (List X)
  | [] => some []
  | x :: l => match xOf x, xsOf' l with
    | some y, some m => some (y :: m)
    | _, _ => none

def aggOf (P : Program) (t : TypeId) : Option (Option Nat) := match P.underlying t with
  | some (.struct _) => (P.info? t).map fun i => some i.size
  | some (.array _ _) => (P.info? t).map fun i => some i.size
  | some _ => some none
  | none => none

def placesOf (P : Program) : List Field → Option (List (Nat × Nat))
  | [] => some []
  | f :: l => match P.info? f.type, placesOf P l with
    | some i, some m => some ((f.offset, i.size) :: m)
    | _, _ => none
def partsAt (pl : Nat → Option (Nat × Nat)) : List (Nat × Operand) → Option (List (Nat × Nat × X))
  | [] => some []
  | (i, x) :: l => match pl i, xOf x, partsAt pl l with
    | some (o, n), some y, some m => some ((o, n, y) :: m)
    | _, _, _ => none
/-- Parts 0, 1, 2, .. one behind the other. -/
def inRow : Nat → List (Nat × Operand) → Option (List X)
  | _, [] => some []
  | k, (i, x) :: l => bif Nat.beq i k then match xOf x, inRow (k + 1) l with
    | some y, some m => some (y :: m)
    | _, _ => none
    else none

/-- Fields by which structs are compared: numbers and truth values alone. -/
def eqFields (P : Program) : List Field → Option (List (Nat × Bool))
  | [] => some []
  | f :: l => bif f.name == "_" then none else match P.underlying f.type, eqFields P l with
    | some (.int _), some m => some ((f.offset, true) :: m)
    | some .bool, some m => some ((f.offset, false) :: m)
    | _, _ => none

def isNil : Operand → Bool
  | .const (.slice none 0 0) => true
  | _ => false

def binOf (P : Program) (op : BinOp) (t : TypeId) (x y : Operand) : Option IOp := match P.underlying t with
  | some (.int k) => match op, xOf x, xOf y with
    | .add, some a, some b => some (.bin .add k a b)
    | .sub, some a, some b => some (.bin .sub k a b)
    | .mul, some a, some b => some (.bin .mul k a b)
    | .quo, some a, some b => some (.bin .quo k a b)
    | .rem, some a, some b => some (.bin .rem k a b)
    | .eql, some a, some b => some (.bin .eql k a b)
    | .neq, some a, some b => some (.bin .neq k a b)
    | .lss, some a, some b => some (.bin .lss k a b)
    | .leq, some a, some b => some (.bin .leq k a b)
    | .gtr, some a, some b => some (.bin .gtr k a b)
    | .geq, some a, some b => some (.bin .geq k a b)
    | .shr, some a, some b => some (.bin .shr k a b)
    | _, _, _ => none
  | some .bool => match op, xOf x, xOf y with
    | .eql, some a, some b => some (.eqb false a b)
    | .neq, some a, some b => some (.eqb true a b)
    | _, _, _ => none
  | some (.slice _) => match op, isNil y, xOf x with
    | .eql, true, some a => some (.eqn false a)
    | .neq, true, some a => some (.eqn true a)
    | _, _, _ => none
  | some (.struct fs) => bif P.stoodInHeld t then none else bif P.eqGuardType P.depth t then none else match op, eqFields P fs.toList, xOf x, xOf y with
    | .eql, some l, some a, some b => some (.eqa false l a b)
    | .neq, some l, some a, some b => some (.eqa true l a b)
    | _, _, _, _ => none
  | some (.array n e) => bif P.eqGuardType P.depth t then none else match P.info? e with
    | some i => bif Nat.beq i.size 1 then match P.underlying e, xOf x, xOf y with
      | some (.int _), some a, some b => match op with
        | .eql => some (.eqa false ((List.range n).map fun i => (i, true)) a b)
        | .neq => some (.eqa true ((List.range n).map fun i => (i, true)) a b)
        | _ => none
      | _, _, _ => none
      else none
    | none => none
  | _ => none

def callOf (P : Program) (one : Bool) (c : Call) : Option IOp := match c.callee with
  | .value f => match xOf f, xsOf' c.args.toList with
    | some (.f g), some xs => some (.call g xs)
    | some (.t n), some xs => some (.callv (.t n) xs)
    | _, _ => none
  | .invoke _ _ => none
  | .builtin b => match b, c.args.toList, c.argTypes.toList with
    | .len, [x], [t] => match P.underlying t, xOf x with
      | some (.slice _), some y => some (.len y)
      | some .string, some y => some (.slen y)
      | _, _ => none
    | .min, [x, y], _ => match xOf x, xOf y with
      | some a, some b => some (.mm false a b)
      | _, _ => none
    | .max, [x, y], _ => match xOf x, xOf y with
      | some a, some b => some (.mm true a b)
      | _, _ => none
    | .append, [x, y], [t, u] => match P.underlying t, P.underlying u, xOf x, xOf y with
      | some (.slice e), some (.slice _), some a, some b => bif Nat.beq t u then match P.info? e with
        | some i => match i.zero with
          | some z => bif Nat.beq z.cells.size i.size then bif Nat.blt 0 i.size then bif Nat.blt 0 i.bytes then some (bif one then .app1 e i.size i.bytes a b else .apps e i.size i.bytes a b) else none else none else none
          | none => none
        | none => none
        else none
      | _, _, _, _ => none
    | _, _, _ => none

def opOf (P : Program) (one : Bool) (o : Op) : Option IOp := match o with
  | .move x => (xOf x).map .mov
  | .assign x => (xOf x).map .mov
  | .pick c a b => match xOf c, xOf a, xOf b with
    | some c, some a, some b => some (.pick c a b)
    | _, _, _ => none
  | .alloc t => match P.info? t with
    | some i => match i.zero with
      | some z => some (.alloc z.cells.toList)
      | none => none
    | none => none
  | .box _ x => (xOf x).map .box
  | .build t ps => match P.underlying t, P.info? t with
    | some (.struct fs), some i => match i.zero, placesOf P fs.toList with
      | some z, some pl => match partsAt (fun k => pl[k]?) ps.toList with
        | some l => some (.build z.cells.toList l)
        | none => none
      | _, _ => none
    | some (.array _ e), some i => match i.zero, P.info? e with
      | some z, some ie => match partsAt (fun k => some (k * ie.size, ie.size)) ps.toList with
        | some l => some (.build z.cells.toList l)
        | none => none
      | _, _ => none
    | _, _ => none
  | .buildSlice t n ps => match P.underlying t with
    | some (.slice e) => match P.info? e, inRow 0 ps.toList with
      | some i, some xs => bif Nat.beq xs.length n then bif Nat.ble (n * i.size) 16777216 then bif Nat.ble n 16777216 then match i.zero with
          | some z => bif Nat.beq z.cells.size i.size then some (.bsl e i.size xs) else none
          | none => none
          else none else none else none
      | _, _ => none
    | _ => none
  | .load t a => match aggOf P t, xOf a with
    | some g, some x => some (.load g x)
    | _, _ => none
  | .store t a v => match P.info? t, xOf a, xOf v with
    | some i, some x, some y => some (.store i.size x y)
    | _, _, _ => none
  | .binOp op t x y _ => binOf P op t x y
  | .unOp .not _ x => (xOf x).map .not
  | .unOp .neg t x => match P.underlying t, xOf x with
    | some (.int k), some a => some (.neg k a)
    | _, _ => none
  | .convert s t x => match P.underlying s, P.underlying t, xOf x with
    | some (.int _), some (.int k), some a => some (.conv k a)
    | _, _, _ => none
  | .makeInterface t _ => bif P.concrete t then some .mki else none
  | .makeFunc (.func f) first caps => bif first.isEmpty then (xsOf' caps.toList).map (.mkf f) else none
  | .makeSlice t l c => match P.underlying t, xOf l, xOf c with
    | some (.slice e), some a, some b => match P.info? e with
      | some i => match i.zero with
        | some z => bif Nat.beq z.cells.size i.size then bif Nat.blt 0 i.size then bif Nat.blt 0 i.bytes then some (.mks e i.size i.bytes z.cells.toList a b) else none else none else none
        | none => none
      | none => none
    | _, _, _ => none
  | .slice t x lo hi mx => match P.underlying t, xOf x, mx with
    | some (.slice e), some a, none => match P.info? e with
      | some i => bif Nat.blt 0 i.size then match lo, hi with
        | none, none => some (.slc i.size a none none)
        | some l, none => (xOf l).map fun l => .slc i.size a (some l) none
        | none, some h => (xOf h).map fun h => .slc i.size a none (some h)
        | some l, some h => match xOf l, xOf h with
          | some l, some h => some (.slc i.size a (some l) (some h))
          | _, _ => none
        else none
      | none => none
    | _, _, _ => none
  | .fieldAddr t x k => match P.underlying t, xOf x with
    | some (.struct fs), some a => match fs[k]? with
      | some f => match P.info? f.type with
        | some i => bif Nat.beq i.size 0 then none else some (.faddr f.offset a)
        | none => none
      | none => none
    | _, _ => none
  | .field t x k => match P.underlying t, xOf x with
    | some (.struct fs), some a => match fs[k]? with
      | some f => (aggOf P f.type).map fun g => .fld f.offset g a
      | none => none
    | _, _ => none
  | .indexAddr t x i => match P.underlying t, xOf x, xOf i with
    | some (.slice e), some a, some j => match P.info? e with
      | some ie => bif Nat.beq ie.size 0 then none else some (.iaddr ie.size a j)
      | none => none
    | some (.array n e), some a, some j => match P.info? e with
      | some ie => bif Nat.beq ie.size 0 then none else some (.aaddr n ie.size a j)
      | none => none
    | _, _, _ => none
  | .extract x k => (xOf x).map fun a => .ext a k
  | .call c => callOf P one c
  | .panic _ => some .pan
  | _ => none

/-- What one says ahead of a piece of code: the slots that are read behind a region; where the ways are cut; which appends take what was just laid out. -/
structure Hint where
  n : Nat
  keep : Nat → List Nat
  one : Nat → Bool
  cut : Nat → Bool
  dr : Nat → Option (List (Nat × Cls))

def dstOk (n : Nat) : Option Nat → Bool
  | none => true
  | some d => Nat.blt d n
def gopOf (P : Program) (H : Hint) (ops : Array Oper) (o : Oper) : Option GOp := bif dstOk H.n o.dst then match opOf P (match o.dst with | some d => H.one d | none => false) o.op with
  | some i => match o.guard with
    | none => some ⟨none, o.dst, i⟩
    | some (j, pol) => match (ops[j]?).bind (·.dst) with
      | some s => some ⟨some (s, pol), o.dst, i⟩
      | none => none
  | none => none
  else none
def gopsOf (P : Program) (H : Hint) (ops : Array Oper) : List Oper → Option (List GOp)
  | [] => some []
  | o :: l => match gopOf P H ops o, gopsOf P H ops l with
    | some g, some m => some (g :: m)
    | _, _ => none

/-- The first region's number: cuts are named by the region that follows. -/
def firstReg : Code → Option Nat
  | .region id _ _ => some id
  | .seq a _ => firstReg a
  | .block _ b => firstReg b
  | .loop b => firstReg b
  | _ => none

/-! Drawn regions: an order that stands for all; class p: pure, r: reads memory, and nothing that writes may come in between, g: stands alone. -/
def clsOf : List (Nat × Cls) → Nat → Cls
  | [], _ => .g
  | (i, k) :: l, n => bif Nat.beq i n then k else clsOf l n
def isG : Cls → Bool
  | .g => true
  | _ => false
def sameCls : Cls → Cls → Bool
  | .p, .p => true
  | .r, .r => true
  | .g, .g => true
  | _, _ => false
def fsts : List (Nat × Cls) → List Nat
  | [] => []
  | (i, _) :: l => i :: fsts l
/-- What stands behind an operation. -/
def descs (ops : Array Oper) : List Nat → List Nat → List Nat
  | acc, [] => acc
  | acc, j :: js => match ops[j]? with
    | some o => bif o.after.any (fun e => Region.binds .any e && mem acc e.on) then descs ops (j :: acc) js else descs ops acc js
    | none => descs ops acc js
def drGo (ops : Array Oper) (cls : Nat → Cls) : List (Nat × Cls) → Array Bool → Bool
  | [], listed => (Region.ready .any ops listed).isEmpty
  | (i, k) :: l, listed => bif sameCls (cls i) k then bif (match k with
      | .p => (Region.ready .any ops listed).contains i && Region.free .any ops listed i
      | .r => (Region.ready .any ops listed).contains i && Region.free .any ops listed i && (List.range ops.size).all fun j => listed.getD j true || Nat.beq j i || !isG (cls j) || mem (descs ops [i] (fsts l)) j
      | .g => match Region.ready .any ops listed with
        | [j] => Nat.beq j i
        | _ => false) then drGo ops cls l (listed.setIfInBounds i true) else false else false
def drOk (ops : Array Oper) (perm : List (Nat × Cls)) : Bool := Region.noSelect ops && Nat.beq perm.length ops.size && drGo ops (clsOf perm) perm (Array.replicate ops.size false)
/-- Pure operations. -/
def pureOp : IOp → Bool
  | .mov _ => true
  | .pick _ _ _ => true
  | .bin _ _ _ _ => true
  | .eqb _ _ _ => true
  | .eqn _ _ => true
  | .eqa _ _ _ _ => true
  | .not _ => true
  | .neg _ _ => true
  | .conv _ _ => true
  | .build _ _ => true
  | .faddr _ _ => true
  | .iaddr _ _ _ => true
  | .aaddr _ _ _ _ => true
  | .fld _ _ _ => true
  | .ext _ _ => true
  | .len _ => true
  | .slen _ => true
  | .mm _ _ _ => true
  | .slc _ _ _ _ => true
  | .mkf _ _ => true
  | .mki => true
  | _ => false
def loadOp : Op → Bool
  | .load _ _ => true
  | _ => false
def clsOp : Cls → Op → IOp → Bool
  | .p, _, o => pureOp o
  | .r, o, _ => loadOp o
  | .g, _, _ => true
def gopsD (P : Program) (H : Hint) (ops : Array Oper) : List (Nat × Cls) → Option (List GOp)
  | [] => some []
  | (i, k) :: l => match ops[i]? with
    | some o => match gopOf P H ops o, gopsD P H ops l with
      | some g, some m => bif clsOp k o.op g.op then some (g :: m) else none
      | _, _ => none
    | none => none

/-! Soft regions: operations that only make data, and calls that write rows one after the other; each order of them that keeps the bindings comes to the same. -/
def readsX : X → List Nat
  | .t n => [n]
  | _ => []
def readsXs : List X → List Nat
  | [] => []
  | x :: l => readsX x ++ readsXs l
def readsS : IOp → Option (List Nat)
  | .mov x => some (readsX x)
  | .pick c a b => some (readsX c ++ readsX a ++ readsX b)
  | .not x => some (readsX x)
  | .iaddr _ x i => some (readsX x ++ readsX i)
  | .aaddr _ _ x _ => some (readsX x)
  | .faddr _ x => some (readsX x)
  | .load _ x => some (readsX x)
  | .bin _ _ x y => some (readsX x ++ readsX y)
  | .call _ xs => some (readsXs xs)
  | .callv f xs => some (readsX f ++ readsXs xs)
  | .bsl _ _ xs => some (readsXs xs)
  | _ => none
def readsGu : Option (Nat × Bool) → List Nat
  | none => []
  | some (s, _) => [s]
def readsG (g : GOp) : Option (List Nat) := match readsS g.op with
  | some rs => some (readsGu g.g ++ rs)
  | none => none
def dstIs (r : Nat) (g : GOp) : Bool := match g.dst with
  | some d => Nat.beq d r
  | none => false
/-- One after the other: a slot that was read is not written any more, and each slot is written once. -/
def seqOk : List GOp → Bool
  | [] => true
  | ⟨gu, some d, op⟩ :: gs => match readsG ⟨gu, some d, op⟩ with
    | some rs => rs.all (fun r => !Nat.beq d r && gs.all fun h => !dstIs r h) && gs.all (fun h => !dstIs d h) && seqOk gs
    | none => false
  | _ => false
/-- Who writes which slot. -/
def wrOf : List (Nat × Cls) → List GOp → List (Nat × Nat)
  | (i, _) :: l, ⟨_, some d, _⟩ :: gs => (d, i) :: wrOf l gs
  | _, _ => []
def edgeOk (ops : Array Oper) (wr : List (Nat × Nat)) : List Nat → List (Nat × Cls) → List GOp → Bool
  | _, [], [] => true
  | seen, (i, _) :: l, g :: gs => match ops[i]?, readsG g with
    | some o, some rs => o.after.all (fun e => !Region.binds .any e || mem seen e.on) && rs.all (fun r => wr.all fun p => !Nat.beq p.1 r || o.after.any fun e => Region.binds .any e && Nat.beq e.on p.2) && edgeOk ops wr (i :: seen) l gs
    | _, _ => false
  | _, _, _ => false
/-- The operations that write memory: each behind the one before. -/
def heavyOk (ops : Array Oper) : Option Nat → List (Nat × Cls) → Bool
  | _, [] => true
  | last, (i, .g) :: l => (match last with
    | none => true
    | some j => match ops[i]? with
      | some o => o.after.any fun e => Region.binds .any e && Nat.beq e.on j
      | none => false) && heavyOk ops (some i) l
  | last, _ :: l => heavyOk ops last l
def nodupB : List Nat → Bool
  | [] => true
  | i :: l => bif mem l i then false else nodupB l
def softOk (ops : Array Oper) (perm : List (Nat × Cls)) (gs : List GOp) : Bool :=
  (List.range ops.size).all (fun i => mem (fsts perm) i) && nodupB (fsts perm) && seqOk gs && edgeOk ops (wrOf perm gs) [] perm gs && heavyOk ops none perm
/-- Is the hint marked? -/
def unmark (n : Nat) : List (Nat × Cls) → Option (List (Nat × Cls))
  | (i, _) :: l => bif Nat.beq i n then some l else none
  | [] => none
def withP : List (Nat × Cls) → List GOp → List (Cls × GOp)
  | (_, c) :: l, g :: gs => (c, g) :: withP l gs
  | _, _ => []
/-- As 'gopsD', whatever the class. -/
def gopsS (P : Program) (H : Hint) (ops : Array Oper) : List (Nat × Cls) → Option (List GOp)
  | [] => some []
  | (i, _) :: l => match ops[i]? with
    | some o => match gopOf P H ops o, gopsS P H ops l with
      | some g, some m => some (g :: m)
      | _, _ => none
    | none => none

def erase (P : Program) (H : Hint) : Code → CC
  | .skip => .skip
  | .region id ops draw => match draw with
    | false => match gopsOf P H ops ops.toList with
      | some l => .reg (H.keep id) l
      | none => .bad
    | true => match H.dr id with
      | some perm => match unmark ops.size perm with
        | some pm => match gopsS P H ops pm with
          | some l => bif softOk ops pm l then .dreg (H.keep id) [] (withP pm l) else .bad
          | none => .bad
        | none => bif drOk ops perm then match gopsD P H ops perm with
          | some l => .reg (H.keep id) l
          | none => .bad
          else .bad
      | none => .bad
  | .seq a b => match firstReg b with
    | some id => bif H.cut id then .cut (erase P H a) (erase P H b) else .seq (erase P H a) (erase P H b)
    | none => .seq (erase P H a) (erase P H b)
  | .cond c a b => match xOf c with
    | some x => .cond x (erase P H a) (erase P H b)
    | none => .bad
  | .block id b => .block id (erase P H b)
  | .loop b => .loop (erase P H b)
  | .exit id => .exit id
  | .ret => .ret
  | _ => .bad


def lk : List (Nat × List Nat) → Nat → List Nat
  | [], _ => []
  | (m, v) :: l, n => bif Nat.beq m n then v else lk l n
def lkd : List (Nat × List (Nat × Cls)) → Nat → Option (List (Nat × Cls))
  | [], _ => none
  | (m, v) :: l, n => bif Nat.beq m n then some v else lkd l n

end Go.Eng

/- The engine, part 3: what an abstract state says of the machine's memory. -/
namespace Go.Eng

/-- Value v reads as x; whatever memory is read lies in the blocks S. -/
inductive RD (w : World) (S : Nat → Prop) : Value → D → Prop
  | v (x : Value) : RD w S x (.v x)
  | i (k : IntKind) (n : Th Int) : RD w S (.int k (n ())) (.i k n)
  | b (b : BV) : RD w S (.bool b.get) (.b b)
  | s (x : Th ByteArray) : RD w S (.string (x ())) (.s x)
  | nilsl {α : Type} {esz : Nat} {cells : Th α → List D} {d0 : α} {xs : Th (List α)} (a : Option Addr) (c : Nat) (h : xs () = []) :
      RD w S (.slice a 0 c) (.sl esz cells d0 xs)
  | sl {α : Type} {esz : Nat} {cells : Th α → List D} {d0 : α} {xs : Th (List α)} (b off n c : Nat) (us : Nat → Value) (hb : S b) (hn : n = (xs ()).length)
      (hlen : ∀ x ∈ xs (), (cells fun _ => x).length = esz)
      (hcell : ∀ i, i < n * esz → w.cell? ⟨b, off + i, none⟩ = some (us i))
      (hrd : ∀ i j d, i < n → (cells fun _ => (xs ()).getD i d0)[j]? = some d → RD w S (us (i * esz + j)) d)
      (hc : n ≤ c ∧ n ≤ maxLen) : RD w S (.slice (some ⟨b, off, none⟩) n c) (.sl esz cells d0 xs)
  | agg {cs : List D} (vs : Array Value) (h : vs.size = cs.length) (hrd : ∀ j d, cs[j]? = some d → RD w S (vs.getD j undef) d) : RD w S (.agg vs) (.agg cs)
  | box {cs : List D} (b : Nat) (us : Nat → Value) (hb : S b) (hcell : ∀ j, j < cs.length → w.cell? ⟨b, j, none⟩ = some (us j))
      (hrd : ∀ j d, cs[j]? = some d → RD w S (us j) d) : RD w S (.pointer (some ⟨b, 0, none⟩)) (.box cs)
  | fn {f : FuncId} {caps : List D} (vs : Array Value) (h : vs.size = caps.length) (hrd : ∀ j d, caps[j]? = some d → RD w S (vs.getD j undef) d) :
      RD w S (.func (.func f) #[] vs) (.fn f caps)

theorem RD.mono {w w' : World} {S S' : Nat → Prop} (hS : ∀ b, S b → S' b) (hw : ∀ b, S b → w'.heap[b]? = w.heap[b]?) {v : Value} {x : D} (h : RD w S v x) : RD w' S' v x := by
  induction h with
  | v x => exact .v x
  | i k n => exact .i k n
  | b b => exact .b b
  | s x => exact .s x
  | nilsl a c h => exact .nilsl a c h
  | sl b off n c us hb hn hlen hcell _ hc ih =>
    exact .sl b off n c us (hS b hb) hn hlen (fun i hi => by rw [← hcell i hi]; exact World.cell?_of_block (hw b hb)) (fun i j d hi hd => ih i j d hi hd) hc
  | agg vs h _ ih => exact .agg vs h ih
  | box b us hb hcell _ ih => exact .box b us (hS b hb) (fun j hj => by rw [← hcell j hj]; exact World.cell?_of_block (hw b hb)) ih
  | fn vs h _ ih => exact .fn vs h ih

/-- A row of the call's own: its blocks F, the value by which it is known. -/
inductive RowOK (w : World) (S : Nat → Prop) : (Nat → Prop) → Value → Row → Prop
  | nil {s : Sh} {xs : Th (List s.α)} (h : xs () = []) : RowOK w S (fun _ => False) (.slice none 0 0) (.sl s xs)
  | sl {s : Sh} {xs : Th (List s.α)} (g n cap : Nat) (cur : Array Value) (hn : n = (xs ()).length) (hg : w.heap[g]? = some (.cells cur s.ty (0, 0)))
      (hnc : n ≤ cap) (hm : cap ≤ maxLen) (hc : cur.size = cap * s.esz) (hlen : ∀ x ∈ xs (), (s.cells fun _ => x).length = s.esz)
      (hrd : ∀ i j d, i < n → (s.cells fun _ => (xs ()).getD i s.d0)[j]? = some d → RD w S (cur.getD (i * s.esz + j) undef) d) :
      RowOK w S (fun b => b = g) (.slice (some ⟨g, 0, none⟩) n cap) (.sl s xs)
  | box {cs : List D} (g ty : Nat) (cur : Array Value) (hg : w.heap[g]? = some (.cells cur ty (0, 0))) (hc : cur.size = cs.length)
      (hrd : ∀ j d, cs[j]? = some d → RD w S (cur.getD j undef) d) : RowOK w S (fun b => b = g) (.pointer (some ⟨g, 0, none⟩)) (.box cs)

theorem RowOK.mono {w w' : World} {S S' F : Nat → Prop} (hS : ∀ b, S b → S' b) (hw : ∀ b, S b → w'.heap[b]? = w.heap[b]?) (hf : ∀ b, F b → w'.heap[b]? = w.heap[b]?)
    {v : Value} {x : Row} (h : RowOK w S F v x) : RowOK w' S' F v x := by
  cases h with
  | nil h => exact .nil h
  | sl g n cap cur hn hg hnc hm hc hlen hrd => exact .sl g n cap cur hn ((hf g rfl).trans hg) hnc hm hc hlen fun i j d hi hd => (hrd i j d hi hd).mono hS hw
  | box g ty cur hg hc hrd => exact .box g ty cur ((hf g rfl).trans hg) hc fun j d hd => (hrd j d hd).mono hS hw

/-- A slot's value. ρ: the rows' own values; E: the cells an element of a row takes. -/
inductive VOK (w : World) (S : Nat → Prop) (ρ : Nat → Value) (E : Nat → Nat) : Value → AV → Prop
  | un : VOK w S ρ E undef .un
  | any (v : Value) : VOK w S ρ E v .any
  | d {v : Value} {x : D} (h : RD w S v x) : VOK w S ρ E v (.d x)
  | own (r : Nat) : VOK w S ρ E (ρ r) (.own r)
  | bptr (r off g : Nat) (h : ρ r = .pointer (some ⟨g, 0, none⟩)) : VOK w S ρ E (.pointer (some ⟨g, off, none⟩)) (.bptr r off)
  | eptr (r : Nat) (i : Th Int) (off g n c : Nat) (h : ρ r = .slice (some ⟨g, 0, none⟩) n c) (h0 : 0 ≤ i ()) (h1 : i () < n) :
      VOK w S ρ E (.pointer (some ⟨g, (i ()).toNat * E r + off, none⟩)) (.eptr r i off)
  | dptr {α : Type} {esz : Nat} {cells : Th α → List D} {d0 : α} {xs : Th (List α)} (i : Th Int) (off b o n c : Nat)
      (h : RD w S (.slice (some ⟨b, o, none⟩) n c) (.sl esz cells d0 xs)) (h0 : 0 ≤ i ()) (h1 : i () < n) :
      VOK w S ρ E (.pointer (some ⟨b, o + ((i ()).toNat * esz + off), none⟩)) (.dptr (.sl esz cells d0 xs) i off)
  | pptr {cs : List D} (off b : Nat) (h : RD w S (.pointer (some ⟨b, 0, none⟩)) (.box cs)) : VOK w S ρ E (.pointer (some ⟨b, off, none⟩)) (.pptr cs off)
  | fn {f : FuncId} {caps : List AV} (vs : Array Value) (h : vs.size = caps.length) (hv : ∀ j x, caps[j]? = some x → VOK w S ρ E (vs.getD j undef) x) :
      VOK w S ρ E (.func (.func f) #[] vs) (.fn f caps)
  | tup {l : List AV} (vs : Array Value) (h : vs.size = l.length) (hv : ∀ j x, l[j]? = some x → VOK w S ρ E (vs.getD j undef) x) : VOK w S ρ E (.tuple vs) (.tup l)

theorem VOK.mono {w w' : World} {S S' : Nat → Prop} {ρ : Nat → Value} {E : Nat → Nat} (hS : ∀ b, S b → S' b) (hw : ∀ b, S b → w'.heap[b]? = w.heap[b]?) {v : Value} {x : AV}
    (h : VOK w S ρ E v x) : VOK w' S' ρ E v x := by
  induction h with
  | un => exact .un
  | any v => exact .any v
  | d h => exact .d (h.mono hS hw)
  | own r => exact .own r
  | bptr r off g h => exact .bptr r off g h
  | eptr r i off g n c h h0 h1 => exact .eptr r i off g n c h h0 h1
  | dptr i off b o n c h h0 h1 => exact .dptr i off b o n c (h.mono hS hw) h0 h1
  | pptr off b h => exact .pptr off b (h.mono hS hw)
  | fn vs h _ ih => exact .fn vs h ih
  | tup vs h _ ih => exact .tup vs h ih

/-- What lies around a call: the world at its start, what it may read, and the rows that were handed in. -/
structure Ctx where
  N : Nat
  w0 : World
  S0 : Nat → Prop
  base : Nat
  pV : Nat → Value
  pF : Nat → Nat → Prop

def Ctx.Fp (c : Ctx) (b : Nat) : Prop := ∃ r, r < c.base ∧ c.pF r b

/-- Nothing has turned but blocks of M and new ones. -/
structure Ext (w w' : World) (M : Nat → Prop) : Prop where
  os : w'.os = w.os
  tape : w'.tape = w.tape
  output : w'.output = w.output
  size : w.heap.size ≤ w'.heap.size
  block : ∀ b, b < w.heap.size → ¬ M b → w'.heap[b]? = w.heap[b]?

theorem Ext.refl (w : World) (M : Nat → Prop) : Ext w w M := ⟨rfl, rfl, rfl, Nat.le_refl _, fun _ _ _ => rfl⟩
theorem Ext.trans {a b c : World} {M M' : Nat → Prop} (h : Ext a b M) (k : Ext b c M') (hM : ∀ x, x < a.heap.size → M' x → M x) : Ext a c M :=
  ⟨k.os.trans h.os, k.tape.trans h.tape, k.output.trans h.output, Nat.le_trans h.size k.size, fun i hi hm => (k.block i (Nat.lt_of_lt_of_le hi h.size) (fun e => hm (hM i hi e))).trans (h.block i hi hm)⟩
theorem Ext.weaken {a b : World} {M M' : Nat → Prop} (h : Ext a b M) (hM : ∀ x, M x → M' x) : Ext a b M' := ⟨h.os, h.tape, h.output, h.size, fun i hi hm => h.block i hi fun e => hm (hM i e)⟩

structure Mem (c : Ctx) (rows : List (Nat × Row)) (w : World) (S : Nat → Prop) (ρ : Nat → Value) (F : Nat → Nat → Prop) (E : Nat → Nat) : Prop where
  slt : ∀ b, S b → b < w.heap.size
  s0 : ∀ b, c.S0 b → S b
  snew : ∀ b, S b → c.S0 b ∨ c.w0.heap.size ≤ b
  row : ∀ r x, lkp rows r = some x → RowOK w S (F r) (ρ r) x
  blk : ∀ r x, lkp rows r = some x → ∀ b, F r b → b < w.heap.size ∧ ¬ S b ∧ (c.base ≤ r → c.w0.heap.size ≤ b)
  esz : ∀ r s xs, lkp rows r = some (.sl s xs) → E r = s.esz
  dis : ∀ r q x y, r ≠ q → lkp rows r = some x → lkp rows q = some y → ∀ b, F r b → ¬ F q b
  pin : ∀ r x, r < c.base → lkp rows r = some x → ρ r = c.pV r ∧ ∀ b, F r b ↔ c.pF r b

def EnvOK (c : Ctx) (env : List (Nat × AV)) (t : Array Value) (w : World) (S : Nat → Prop) (ρ : Nat → Value) (E : Nat → Nat) : Prop :=
  ∀ s v, (s, v) ∈ env → s < c.N ∧ VOK w S ρ E (t.getD s undef) v

structure Sat (c : Ctx) (σ : St) (a : Act) (w : World) : Prop where
  size : a.tmps.size = c.N
  defs : a.defers = []
  ext : Ext c.w0 w c.Fp
  ex : ∃ S ρ F E, Mem c σ.rows w S ρ F E ∧ EnvOK c σ.env a.tmps w S ρ E

/-! ### Lists that are looked up -/

theorem beq_iff {m n : Nat} : Nat.beq m n = true ↔ m = n := ⟨Nat.eq_of_beq_eq_true, fun h => h ▸ Nat.beq_refl m⟩
theorem beq_ne {m n : Nat} (h : m ≠ n) : Nat.beq m n = false := by
  cases hb : Nat.beq m n with
  | true => exact absurd (beq_iff.1 hb) h
  | false => rfl

section
variable {β : Type 1}
theorem lkp_mem : ∀ {l : List (Nat × β)} {n : Nat} {v : β}, lkp l n = some v → (n, v) ∈ l
  | [], _, _, h => by simp [lkp] at h
  | (m, u) :: l, n, v, h => by
    unfold lkp at h
    by_cases e : m = n
    · subst e; rw [Nat.beq_refl] at h; simp only [cond_true, Option.some.injEq] at h; subst h; exact List.mem_cons_self
    · rw [beq_ne e] at h; simp only [cond_false] at h; exact List.mem_cons_of_mem _ (lkp_mem h)
theorem lkp_cons_same (l : List (Nat × β)) (n : Nat) (v : β) : lkp ((n, v) :: l) n = some v := by simp [lkp, Nat.beq_refl]
theorem lkp_cons_ne (l : List (Nat × β)) {m n : Nat} (v : β) (h : m ≠ n) : lkp ((m, v) :: l) n = lkp l n := by simp [lkp, beq_ne h]
theorem lkp_del_ne : ∀ (l : List (Nat × β)) {m n : Nat}, m ≠ n → lkp (del l m) n = lkp l n
  | [], _, _, _ => rfl
  | (q, v) :: l, m, n, h => by
    unfold del
    by_cases e : q = m
    · subst e; rw [Nat.beq_refl]; simp only [cond_true]; rw [lkp_cons_ne l v h]; exact lkp_del_ne l h
    · rw [beq_ne e]; simp only [cond_false]
      by_cases f : q = n
      · subst f; rw [lkp_cons_same, lkp_cons_same]
      · rw [lkp_cons_ne _ v f, lkp_cons_ne _ v f]; exact lkp_del_ne l h
theorem lkp_del_same : ∀ (l : List (Nat × β)) (n : Nat), lkp (del l n) n = none
  | [], _ => rfl
  | (q, v) :: l, n => by
    unfold del
    by_cases e : q = n
    · subst e; rw [Nat.beq_refl]; simp only [cond_true]; exact lkp_del_same l _
    · rw [beq_ne e]; simp only [cond_false]; rw [lkp_cons_ne _ v e]; exact lkp_del_same l n
theorem lkp_del_some {l : List (Nat × β)} {m n : Nat} {v : β} (h : lkp (del l m) n = some v) : lkp l n = some v := by
  by_cases e : m = n
  · subst e; rw [lkp_del_same] at h; cases h
  · rw [lkp_del_ne _ e] at h; exact h
theorem mem_del : ∀ {l : List (Nat × β)} {m n : Nat} {v : β}, (n, v) ∈ del l m → n ≠ m ∧ (n, v) ∈ l
  | [], _, _, _, h => by simp [del] at h
  | (q, u) :: l, m, n, v, h => by
    unfold del at h
    by_cases e : q = m
    · subst e; rw [Nat.beq_refl] at h; simp only [cond_true] at h; exact ⟨(mem_del h).1, List.mem_cons_of_mem _ (mem_del h).2⟩
    · rw [beq_ne e] at h; simp only [cond_false, List.mem_cons, Prod.mk.injEq] at h
      rcases h with ⟨rfl, rfl⟩ | h
      · exact ⟨e, List.mem_cons_self⟩
      · exact ⟨(mem_del h).1, List.mem_cons_of_mem _ (mem_del h).2⟩
theorem lt_top : ∀ {l : List (Nat × β)} {n : Nat} {v : β}, (n, v) ∈ l → n < top l
  | (q, u) :: l, n, v, h => by
    unfold top
    simp only [List.mem_cons, Prod.mk.injEq] at h
    rcases h with ⟨rfl, rfl⟩ | h
    · exact Nat.lt_of_lt_of_le (Nat.lt_succ_self _) (Nat.le_max_left _ _)
    · exact Nat.lt_of_lt_of_le (lt_top h) (Nat.le_max_right _ _)
theorem lkp_top (l : List (Nat × β)) : lkp l (top l) = none := by
  cases h : lkp l (top l) with
  | none => rfl
  | some v => exact absurd (lt_top (lkp_mem h)) (Nat.lt_irrefl _)
theorem mem_keepIn : ∀ {ks : List Nat} {l : List (Nat × β)} {n : Nat} {v : β}, (n, v) ∈ keepIn ks l → (n, v) ∈ l
  | _, [], _, _, h => by simp [keepIn] at h
  | ks, (q, u) :: l, n, v, h => by
    unfold keepIn at h
    cases hm : mem ks q with
    | true =>
      rw [hm] at h; simp only [cond_true, List.mem_cons, Prod.mk.injEq] at h
      rcases h with ⟨rfl, rfl⟩ | h
      · exact List.mem_cons_self
      · exact List.mem_cons_of_mem _ (mem_keepIn h)
    | false => rw [hm] at h; simp only [cond_false] at h; exact List.mem_cons_of_mem _ (mem_keepIn h)
end

theorem mem_dropHits {r : Nat} : ∀ {l : List (Nat × AV)} {n : Nat} {v : AV}, (n, v) ∈ dropHits r l → (n, v) ∈ l ∧ v.hits r = false
  | [], _, _, h => by simp [dropHits] at h
  | (q, u) :: l, n, v, h => by
    unfold dropHits at h
    cases hm : u.hits r with
    | true => rw [hm] at h; simp only [cond_true] at h; exact ⟨List.mem_cons_of_mem _ (mem_dropHits h).1, (mem_dropHits h).2⟩
    | false =>
      rw [hm] at h; simp only [cond_false, List.mem_cons, Prod.mk.injEq] at h
      rcases h with ⟨rfl, rfl⟩ | h
      · exact ⟨List.mem_cons_self, hm⟩
      · exact ⟨List.mem_cons_of_mem _ (mem_dropHits h).1, (mem_dropHits h).2⟩

theorem mem_iff : ∀ {l : List Nat} {n : Nat}, mem l n = true ↔ n ∈ l
  | [], _ => by simp [mem]
  | m :: l, n => by
    unfold mem
    by_cases e : m = n
    · subst e; simp [Nat.beq_refl]
    · rw [beq_ne e]; simp only [cond_false, mem_iff, List.mem_cons]
      exact ⟨.inr, fun h => h.resolve_left (fun h => e h.symm)⟩

/-! ### Slots -/

theorem EnvOK.mono {c : Ctx} {env : List (Nat × AV)} {t : Array Value} {w w' : World} {S S' : Nat → Prop} {ρ : Nat → Value} {E : Nat → Nat} (h : EnvOK c env t w S ρ E)
    (hS : ∀ b, S b → S' b) (hw : ∀ b, S b → w'.heap[b]? = w.heap[b]?) : EnvOK c env t w' S' ρ E := fun s v hm => ⟨(h s v hm).1, (h s v hm).2.mono hS hw⟩
theorem EnvOK.lkp {c : Ctx} {env : List (Nat × AV)} {t : Array Value} {w : World} {S : Nat → Prop} {ρ : Nat → Value} {E : Nat → Nat} (h : EnvOK c env t w S ρ E) {s : Nat} {v : AV}
    (hl : Eng.lkp env s = some v) : VOK w S ρ E (t.getD s undef) v := (h s v (lkp_mem hl)).2
theorem EnvOK.set {c : Ctx} {env : List (Nat × AV)} {t : Array Value} {w : World} {S : Nat → Prop} {ρ : Nat → Value} {E : Nat → Nat} (h : EnvOK c env t w S ρ E) (ht : t.size = c.N)
    {d : Nat} (hd : d < c.N) {v : Value} {x : AV} (hv : VOK w S ρ E v x) : EnvOK c ((d, x) :: del env d) (t.setIfInBounds d v) w S ρ E := by
  intro s u hm
  simp only [List.mem_cons, Prod.mk.injEq] at hm
  rcases hm with ⟨rfl, rfl⟩ | hm
  · refine ⟨hd, ?_⟩
    have : (t.setIfInBounds s v).getD s undef = v := by simp [Array.getD_eq_getD_getElem?, ht, hd]
    rw [this]; exact hv
  · obtain ⟨hne, hm⟩ := mem_del hm
    refine ⟨(h s u hm).1, ?_⟩
    have : (t.setIfInBounds d v).getD s undef = t.getD s undef := by simp [Array.getD_eq_getD_getElem?, Array.getElem?_setIfInBounds_ne (Ne.symm hne)]
    rw [this]; exact (h s u hm).2
theorem EnvOK.sub {c : Ctx} {env env' : List (Nat × AV)} {t : Array Value} {w : World} {S : Nat → Prop} {ρ : Nat → Value} {E : Nat → Nat} (h : EnvOK c env t w S ρ E)
    (hs : ∀ s v, (s, v) ∈ env' → (s, v) ∈ env) : EnvOK c env' t w S ρ E := fun s v hm => h s v (hs s v hm)

/-- Renaming of rows that a slot does not lead to. -/
theorem VOK.rename {w : World} {S : Nat → Prop} {ρ ρ' : Nat → Value} {E E' : Nat → Nat} {r : Nat} (hρ : ∀ q, q ≠ r → ρ' q = ρ q) (hE : ∀ q, q ≠ r → E' q = E q) {v : Value} {x : AV}
    (h : VOK w S ρ E v x) : x.hits r = false → VOK w S ρ' E' v x := by
  have hb : ∀ {q : Nat}, Nat.beq q r = false → q ≠ r := fun h e => by rw [beq_iff.2 e] at h; cases h
  have hl : ∀ (l : List AV), AV.hits.hitsL r l = false → ∀ (j : Nat) (x : AV), l[j]? = some x → x.hits r = false := by
    intro l
    induction l with
    | nil => intro _ j x hx; simp at hx
    | cons y l ih =>
      intro h j x hx
      unfold AV.hits.hitsL at h
      cases hy : y.hits r with
      | true => rw [hy] at h; simp at h
      | false =>
        rw [hy] at h; simp only [cond_false] at h
        cases j with
        | zero => simp at hx; subst hx; exact hy
        | succ j => exact ih h j x (by simpa using hx)
  induction h with
  | un => exact fun _ => .un
  | any v => exact fun _ => .any v
  | d h => exact fun _ => .d h
  | own q => intro hh; have := hb (by simpa [AV.hits] using hh); rw [← hρ q this]; exact .own q
  | bptr q off g h => intro hh; have := hb (by simpa [AV.hits] using hh); exact .bptr q off g ((hρ q this).trans h)
  | eptr q i off g n c h h0 h1 => intro hh; have := hb (by simpa [AV.hits] using hh); rw [← hE q this]; exact .eptr q i off g n c ((hρ q this).trans h) h0 h1
  | dptr i off b o n c h h0 h1 => exact fun _ => .dptr i off b o n c h h0 h1
  | pptr off b h => exact fun _ => .pptr off b h
  | fn vs h _ ih => exact fun hh => .fn vs h fun j x hx => ih j x hx (hl _ (by simpa [AV.hits] using hh) j x hx)
  | tup vs h _ ih => exact fun hh => .tup vs h fun j x hx => ih j x hx (hl _ (by simpa [AV.hits] using hh) j x hx)

end Go.Eng

/- The engine, part 4: how memory turns. -/
namespace Go.Eng

def upd {α : Sort _} (f : Nat → α) (r : Nat) (x : α) : Nat → α := fun q => if q = r then x else f q
theorem upd_same {α : Sort _} (f : Nat → α) (r : Nat) (x : α) : upd f r x r = x := by simp [upd]
theorem upd_ne {α : Sort _} (f : Nat → α) {r q : Nat} (x : α) (h : q ≠ r) : upd f r x q = f q := by simp [upd, h]

theorem Ext.same {w w' : World} {M : Nat → Prop} (h : Ext w w' M) {S : Nat → Prop} (hs : ∀ b, S b → b < w.heap.size) (hd : ∀ b, S b → ¬ M b) : ∀ b, S b → w'.heap[b]? = w.heap[b]? :=
  fun b hb => h.block b (hs b hb) (hd b hb)

section
variable {c : Ctx} {rows : List (Nat × Row)} {w : World} {S : Nat → Prop} {ρ : Nat → Value} {F : Nat → Nat → Prop} {E : Nat → Nat}

/-- A new row, in blocks that are new; nothing else turns. -/
theorem Mem.add (h : Mem c rows w S ρ F E) {w' : World} (hx : Ext w w' (fun _ => False)) (h0 : Ext c.w0 w c.Fp) {r : Nat} (hr : lkp rows r = none) (hb : c.base ≤ r)
    {v : Value} {x : Row} {G : Nat → Prop} {e : Nat} (hrow : RowOK w' S G v x) (hG : ∀ b, G b → w.heap.size ≤ b ∧ b < w'.heap.size) (he : ∀ s xs, x = .sl s xs → e = s.esz) :
    Mem c ((r, x) :: rows) w' S (upd ρ r v) (upd F r G) (upd E r e) := by
  have hsame := hx.same (S := S) h.slt (fun _ _ h => h)
  refine ⟨fun b hb => Nat.lt_of_lt_of_le (h.slt b hb) hx.size, h.s0, h.snew, ?_, ?_, ?_, ?_, ?_⟩
  · intro q y hq
    by_cases e : r = q
    · subst e; rw [lkp_cons_same] at hq; cases hq; rw [upd_same, upd_same]; exact hrow
    · rw [lkp_cons_ne _ _ e] at hq
      rw [upd_ne _ _ (Ne.symm e), upd_ne _ _ (Ne.symm e)]
      exact (h.row q y hq).mono (fun _ h => h) hsame (hx.same (S := F q) (fun b hb => (h.blk q y hq b hb).1) (fun _ _ h => h))
  · intro q y hq b hb'
    by_cases e : r = q
    · subst e; rw [upd_same] at hb'
      exact ⟨(hG b hb').2, fun hs => Nat.lt_irrefl _ (Nat.lt_of_lt_of_le (h.slt b hs) (hG b hb').1), fun _ => Nat.le_trans h0.size (hG b hb').1⟩
    · rw [lkp_cons_ne _ _ e] at hq; rw [upd_ne _ _ (Ne.symm e)] at hb'
      obtain ⟨h1, h2, h3⟩ := h.blk q y hq b hb'
      exact ⟨Nat.lt_of_lt_of_le h1 hx.size, h2, h3⟩
  · intro q s xs hq
    by_cases e' : r = q
    · subst e'; rw [lkp_cons_same] at hq; cases hq; rw [upd_same]; exact he _ _ rfl
    · rw [lkp_cons_ne _ _ e'] at hq; rw [upd_ne _ _ (Ne.symm e')]; exact h.esz q s xs hq
  · intro p q y z hpq hp hq b hb1 hb2
    by_cases e : r = p
    · subst e
      rw [upd_same] at hb1; rw [lkp_cons_ne _ _ hpq] at hq; rw [upd_ne _ _ (Ne.symm hpq)] at hb2
      exact Nat.lt_irrefl _ (Nat.lt_of_lt_of_le (h.blk q z hq b hb2).1 (hG b hb1).1)
    · rw [lkp_cons_ne _ _ e] at hp; rw [upd_ne _ _ (Ne.symm e)] at hb1
      by_cases e2 : r = q
      · subst e2
        rw [upd_same] at hb2
        exact Nat.lt_irrefl _ (Nat.lt_of_lt_of_le (h.blk p y hp b hb1).1 (hG b hb2).1)
      · rw [lkp_cons_ne _ _ e2] at hq; rw [upd_ne _ _ (Ne.symm e2)] at hb2
        exact h.dis p q y z hpq hp hq b hb1 hb2
  · intro q y hq hl
    have e : r ≠ q := by omega
    rw [lkp_cons_ne _ _ e] at hl; rw [upd_ne _ _ (Ne.symm e), upd_ne _ _ (Ne.symm e)]
    exact h.pin q y hq hl

theorem VOK.upd {v : Value} {x : AV} (h : VOK w S ρ E v x) {r : Nat} (hx : x.hits r = false) (u : Value) (e : Nat) : VOK w S (Eng.upd ρ r u) (Eng.upd E r e) v x :=
  h.rename (r := r) (fun _ hq => upd_ne _ _ hq) (fun _ hq => upd_ne _ _ hq) hx

/-- A row that nobody knows yet is hit by nobody who is good for something. -/
theorem EnvOK.upd {env : List (Nat × AV)} {t : Array Value} (h : EnvOK c env t w S ρ E) {r : Nat} (hr : ∀ s v, (s, v) ∈ env → v.hits r = false) (u : Value) (e : Nat) :
    EnvOK c env t w S (Eng.upd ρ r u) (Eng.upd E r e) := fun s v hm => ⟨(h s v hm).1, (h s v hm).2.upd (hr s v hm) u e⟩

/-- A row written: its blocks and its value may be others now. -/
theorem Mem.put (h : Mem c rows w S ρ F E) {w' : World} {r : Nat} {x y : Row} (hr : lkp rows r = some y) (hx : Ext w w' (F r))
    {v : Value} {G : Nat → Prop} {e : Nat} (hrow : RowOK w' S G v x) (hG : ∀ b, G b → (F r b ∨ w.heap.size ≤ b) ∧ b < w'.heap.size) (h0 : Ext c.w0 w c.Fp) (he : ∀ s xs, x = .sl s xs → e = s.esz)
    (hp : r < c.base → v = ρ r ∧ ∀ b, G b ↔ F r b) :
    Mem c ((r, x) :: del rows r) w' S (upd ρ r v) (upd F r G) (upd E r e) := by
  have hsame := hx.same (S := S) h.slt (fun b hs hf => (h.blk r y hr b hf).2.1 hs)
  have hne : ∀ q, r ≠ q → ∀ z, lkp ((r, x) :: del rows r) q = some z → lkp rows q = some z := fun q e z hq => by rw [lkp_cons_ne _ _ e, lkp_del_ne _ e] at hq; exact hq
  refine ⟨fun b hb => Nat.lt_of_lt_of_le (h.slt b hb) hx.size, h.s0, h.snew, ?_, ?_, ?_, ?_, ?_⟩
  · intro q z hq
    by_cases e : r = q
    · subst e; rw [lkp_cons_same] at hq; cases hq; rw [upd_same, upd_same]; exact hrow
    · have hq' := hne q e z hq
      rw [upd_ne _ _ (Ne.symm e), upd_ne _ _ (Ne.symm e)]
      exact (h.row q z hq').mono (fun _ h => h) hsame (hx.same (S := F q) (fun b hb => (h.blk q z hq' b hb).1) (fun b hb hf => h.dis q r z y (Ne.symm e) hq' hr b hb hf))
  · intro q z hq b hb'
    by_cases e : r = q
    · subst e; rw [upd_same] at hb'
      obtain ⟨h1, h2⟩ := hG b hb'
      rcases h1 with h1 | h1
      · obtain ⟨_, k2, k3⟩ := h.blk r y hr b h1; exact ⟨h2, k2, k3⟩
      · exact ⟨h2, fun hs => Nat.lt_irrefl _ (Nat.lt_of_lt_of_le (h.slt b hs) h1), fun _ => Nat.le_trans h0.size h1⟩
    · have hq' := hne q e z hq
      rw [upd_ne _ _ (Ne.symm e)] at hb'
      obtain ⟨h1, h2, h3⟩ := h.blk q z hq' b hb'
      exact ⟨Nat.lt_of_lt_of_le h1 hx.size, h2, h3⟩
  · intro q s xs hq
    by_cases e' : r = q
    · subst e'; rw [lkp_cons_same] at hq; cases hq; rw [upd_same]; exact he _ _ rfl
    · rw [upd_ne _ _ (Ne.symm e')]; exact h.esz q s xs (hne q e' _ hq)
  · intro p q y' z hpq hp hq b hb1 hb2
    by_cases e : r = p
    · subst e
      rw [upd_same] at hb1; rw [upd_ne _ _ (Ne.symm hpq)] at hb2
      have hq' := hne q hpq z hq
      rcases (hG b hb1).1 with h1 | h1
      · exact h.dis _ q y z hpq hr hq' b h1 hb2
      · exact Nat.lt_irrefl _ (Nat.lt_of_lt_of_le (h.blk q z hq' b hb2).1 h1)
    · have hp' := hne p e y' hp
      rw [upd_ne _ _ (Ne.symm e)] at hb1
      by_cases e2 : r = q
      · subst e2
        rw [upd_same] at hb2
        rcases (hG b hb2).1 with h1 | h1
        · exact h.dis p _ y' y hpq hp' hr b hb1 h1
        · exact Nat.lt_irrefl _ (Nat.lt_of_lt_of_le (h.blk p y' hp' b hb1).1 h1)
      · rw [upd_ne _ _ (Ne.symm e2)] at hb2
        exact h.dis p q y' z hpq hp' (hne q e2 z hq) b hb1 hb2
  · intro q z hq hl
    by_cases e : r = q
    · subst e
      obtain ⟨k1, k2⟩ := h.pin r y hq hr
      rw [upd_same, upd_same]
      exact ⟨(hp hq).1.trans k1, fun b => ((hp hq).2 b).trans (k2 b)⟩
    · rw [upd_ne _ _ (Ne.symm e), upd_ne _ _ (Ne.symm e)]
      exact h.pin q z hq (hne q e z hl)

/-- A row given up. -/
theorem Mem.drop (h : Mem c rows w S ρ F E) (r : Nat) : Mem c (del rows r) w S ρ F E := by
  have hne : ∀ q z, lkp (del rows r) q = some z → lkp rows q = some z := fun q z hq => by
    by_cases e : r = q
    · subst e; rw [lkp_del_same] at hq; cases hq
    · rw [lkp_del_ne _ e] at hq; exact hq
  exact ⟨h.slt, h.s0, h.snew, fun q z hq => h.row q z (hne q z hq), fun q z hq => h.blk q z (hne q z hq), fun q s xs hq => h.esz q s xs (hne q _ hq),
    fun p q y z hpq hp hq => h.dis p q y z hpq (hne p y hp) (hne q z hq), fun q z hq hl => h.pin q z hq (hne q z hl)⟩

/-- A row frozen. -/
theorem Mem.freeze (h : Mem c rows w S ρ F E) {r : Nat} {x : Row} (hr : lkp rows r = some x) (hb : c.base ≤ r) : Mem c (del rows r) w (fun b => S b ∨ F r b) ρ F E := by
  have hS : ∀ b, S b → S b ∨ F r b := fun _ h => .inl h
  have d := h.drop r
  refine ⟨?_, fun b hb => .inl (h.s0 b hb), ?_, ?_, ?_, d.esz, d.dis, d.pin⟩
  · rintro b (hb | hb)
    · exact h.slt b hb
    · exact (h.blk r x hr b hb).1
  · rintro b (hb' | hb')
    · exact h.snew b hb'
    · exact .inr ((h.blk r x hr b hb').2.2 hb)
  · exact fun q z hq => (d.row q z hq).mono hS (fun _ _ => rfl) (fun _ _ => rfl)
  · intro q z hq b hb'
    obtain ⟨h1, h2, h3⟩ := d.blk q z hq b hb'
    refine ⟨h1, ?_, h3⟩
    rintro (k | k)
    · exact h2 k
    · have e : q ≠ r := by rintro rfl; rw [lkp_del_same] at hq; cases hq
      have hq' : lkp rows q = some z := by rw [lkp_del_ne _ (Ne.symm e)] at hq; exact hq
      exact h.dis q r z x e hq' hr b hb' k

theorem Mem.more (h : Mem c rows w S ρ F E) {w' : World} (hx : Ext w w' (fun _ => False)) {S' : Nat → Prop} (hS : ∀ b, S b → S' b) (hS' : ∀ b, S' b → S b ∨ w.heap.size ≤ b) (hlt : ∀ b, S' b → b < w'.heap.size)
    (h0 : Ext c.w0 w c.Fp) : Mem c rows w' S' ρ F E := by
  have hsame := hx.same (S := S) h.slt (fun _ _ h => h)
  refine ⟨hlt, fun b hb => hS b (h.s0 b hb), ?_, ?_, ?_, h.esz, h.dis, h.pin⟩
  · intro b hb
    rcases hS' b hb with k | k
    · exact h.snew b k
    · exact .inr (Nat.le_trans h0.size k)
  · exact fun q z hq => (h.row q z hq).mono hS hsame (hx.same (S := F q) (fun b hb => (h.blk q z hq b hb).1) (fun _ _ h => h))
  · intro q z hq b hb
    obtain ⟨h1, h2, h3⟩ := h.blk q z hq b hb
    refine ⟨Nat.lt_of_lt_of_le h1 hx.size, fun k => ?_, h3⟩
    rcases hS' b k with k | k
    · exact h2 k
    · exact Nat.lt_irrefl _ (Nat.lt_of_lt_of_le h1 k)
end

/-! ### A row read as data -/

theorem cell_of_row {w : World} {g ty : Nat} {cur : Array Value} (hg : w.heap[g]? = some (.cells cur ty (0, 0))) {i : Nat} (hi : i < cur.size) : w.cell? ⟨g, i, none⟩ = some (cur.getD i undef) := by
  simp [World.cell?, hg, hi]

theorem RowOK.rd {w : World} {S F : Nat → Prop} {v : Value} {s : Sh} {xs : Th (List s.α)} (h : RowOK w S F v (.sl s xs)) : RD w (fun b => S b ∨ F b) v (.sl s.esz s.cells s.d0 xs) := by
  have hS : ∀ b, S b → S b ∨ F b := fun _ h => .inl h
  cases h with
  | nil h => exact .nilsl none 0 h
  | sl g n cap cur hn hg hnc hm hc hlen hrd =>
    refine .sl g 0 n cap (fun i => cur.getD i undef) (.inr rfl) hn hlen ?_ (fun i j d hi hd => (hrd i j d hi hd).mono hS (fun _ _ => rfl)) ⟨hnc, Nat.le_trans hnc hm⟩
    intro i hi
    rw [Nat.zero_add]
    exact cell_of_row hg (by rw [hc]; exact Nat.lt_of_lt_of_le hi (Nat.mul_le_mul_right _ hnc))

theorem RowOK.rdBox {w : World} {S F : Nat → Prop} {v : Value} {cs : List D} (h : RowOK w S F v (.box cs)) : RD w (fun b => S b ∨ F b) v (.box cs) := by
  have hS : ∀ b, S b → S b ∨ F b := fun _ h => .inl h
  cases h with
  | box g ty cur hg hc hrd =>
    exact .box g (fun i => cur.getD i undef) (.inr rfl) (fun j hj => cell_of_row hg (by omega)) (fun j d hd => (hrd j d hd).mono hS (fun _ _ => rfl))

theorem RowOK.inv {w : World} {S F : Nat → Prop} {v : Value} {s : Sh} {xs : Th (List s.α)} (h : RowOK w S F v (.sl s xs)) :
    (xs () = [] ∧ v = .slice none 0 0 ∧ ∀ b, ¬ F b) ∨
    ∃ g n cap cur, v = .slice (some ⟨g, 0, none⟩) n cap ∧ n = (xs ()).length ∧ w.heap[g]? = some (.cells cur s.ty (0, 0)) ∧ n ≤ cap ∧ cap ≤ maxLen ∧ cur.size = cap * s.esz ∧
      (∀ x ∈ xs (), (s.cells fun _ => x).length = s.esz) ∧
      (∀ i j d, i < n → (s.cells fun _ => (xs ()).getD i s.d0)[j]? = some d → RD w S (cur.getD (i * s.esz + j) undef) d) ∧ ∀ b, F b ↔ b = g := by
  cases h with
  | nil h => exact .inl ⟨h, rfl, fun _ h => h⟩
  | sl g n cap cur hn hg hnc hm hc hlen hrd => exact .inr ⟨g, n, cap, cur, rfl, hn, hg, hnc, hm, hc, hlen, hrd, fun _ => Iff.rfl⟩
theorem RowOK.invBox {w : World} {S F : Nat → Prop} {v : Value} {cs : List D} (h : RowOK w S F v (.box cs)) :
    ∃ g ty cur, v = .pointer (some ⟨g, 0, none⟩) ∧ w.heap[g]? = some (.cells cur ty (0, 0)) ∧ cur.size = cs.length ∧ (∀ j d, cs[j]? = some d → RD w S (cur.getD j undef) d) ∧ ∀ b, F b ↔ b = g := by
  cases h with
  | box g ty cur hg hc hrd => exact ⟨g, ty, cur, rfl, hg, hc, hrd, fun _ => Iff.rfl⟩

theorem RowOK.len {w : World} {S F : Nat → Prop} {v : Value} {s : Sh} {xs : Th (List s.α)} (h : RowOK w S F v (.sl s xs)) : ∃ a c, v = .slice a (xs ()).length c ∧ (xs () ≠ [] → a ≠ none) := by
  cases h with
  | nil h => exact ⟨none, 0, by simp [h], fun k => absurd h k⟩
  | sl g n cap cur hn _ _ _ _ _ _ => exact ⟨_, cap, by rw [hn], fun _ => by simp⟩

theorem RD.len {w : World} {S : Nat → Prop} {v : Value} {α : Type} {esz : Nat} {cells : Th α → List D} {d0 : α} {xs : Th (List α)} (h : RD w S v (.sl esz cells d0 xs)) :
    ∃ a c, v = .slice a (xs ()).length c ∧ (xs () ≠ [] → a ≠ none) := by
  cases h with
  | nilsl a c h => exact ⟨a, c, by simp [h], fun k => absurd h k⟩
  | sl b off n c us hb hn hlen hcell hrd hc => exact ⟨_, c, by rw [hn], fun _ => by simp⟩

theorem RD.maxl {w : World} {S : Nat → Prop} {v : Value} {α : Type} {esz : Nat} {cells : Th α → List D} {d0 : α} {xs : Th (List α)} (h : RD w S v (.sl esz cells d0 xs)) : (xs ()).length ≤ 9223372036854775807 := by
  cases h with
  | nilsl a c h => simp [h]
  | sl b off n c us hb hn hlen hcell hrd hc => rw [← hn]; exact hc.2
theorem RowOK.maxl {w : World} {S F : Nat → Prop} {v : Value} {s : Sh} {xs : Th (List s.α)} (h : RowOK w S F v (.sl s xs)) : (xs ()).length ≤ 9223372036854775807 := h.rd.maxl

/-! ### Frozen slots -/

theorem VOK.frz {w : World} {S S' : Nat → Prop} {ρ : Nat → Value} {E : Nat → Nat} {r : Nat} {y : Row} (hS : ∀ b, S b → S' b) (hx : RD w S' (ρ r) y.frz) (he : ∀ s xs, y = .sl s xs → E r = s.esz) {v : Value} {z : AV}
    (h : VOK w S ρ E v z) : VOK w S' ρ E v (z.frz r y.frz) := by
  have hlen : ∀ l : List AV, (AV.frz.frzL r y.frz l).length = l.length := fun l => by induction l with | nil => rfl | cons y l ih => simp [AV.frz.frzL, ih]
  have hget : ∀ (l : List AV) (j : Nat) (z : AV), (AV.frz.frzL r y.frz l)[j]? = some z → ∃ u, l[j]? = some u ∧ z = u.frz r y.frz := fun l => by
    induction l with
    | nil => intro j z hz; simp [AV.frz.frzL] at hz
    | cons u l ih =>
      intro j z hz
      cases j with
      | zero => simp [AV.frz.frzL] at hz; exact ⟨u, by simp, hz.symm⟩
      | succ j => simp [AV.frz.frzL] at hz; obtain ⟨u', h1, h2⟩ := ih j z hz; exact ⟨u', by simpa using h1, h2⟩
  induction h with
  | un => exact .un
  | any v => exact .any v
  | d h => exact .d (h.mono hS (fun _ _ => rfl))
  | own q =>
    unfold AV.frz
    by_cases e : q = r
    · subst e; rw [Nat.beq_refl]; exact .d hx
    · rw [beq_ne e]; exact .own q
  | bptr q off g h =>
    unfold AV.frz
    by_cases e : q = r
    · subst e; rw [Nat.beq_refl]; simp only [cond_true]
      cases y with
      | sl s xs => exact .any _
      | box cs => rw [h] at hx; exact .pptr off g hx
    · rw [beq_ne e]; exact .bptr q off g h
  | eptr q i off g n c h h0 h1 =>
    unfold AV.frz
    by_cases e : q = r
    · subst e; rw [Nat.beq_refl]; simp only [cond_true]
      rw [h] at hx
      cases y with
      | sl s xs =>
        have := VOK.dptr (w := w) (S := S') (ρ := ρ) (E := E) i off g 0 n c hx h0 h1
        rw [Nat.zero_add] at this
        rw [he s xs rfl]; exact this
      | box cs => cases hx
    · rw [beq_ne e]; exact .eptr q i off g n c h h0 h1
  | dptr i off b o n c h h0 h1 => exact .dptr i off b o n c (h.mono hS (fun _ _ => rfl)) h0 h1
  | pptr off b h => exact .pptr off b (h.mono hS (fun _ _ => rfl))
  | fn vs h _ ih =>
    refine .fn vs (by rw [hlen]; exact h) fun j z hz => ?_
    obtain ⟨u, h1, rfl⟩ := hget _ j z hz
    exact ih j u h1
  | tup vs h _ ih =>
    refine .tup vs (by rw [hlen]; exact h) fun j z hz => ?_
    obtain ⟨u, h1, rfl⟩ := hget _ j z hz
    exact ih j u h1

theorem mem_frzEnv {r : Nat} {x : D} : ∀ {l : List (Nat × AV)} {n : Nat} {v : AV}, (n, v) ∈ frzEnv r x l → ∃ u, (n, u) ∈ l ∧ v = u.frz r x
  | [], _, _, h => by simp [frzEnv] at h
  | (q, u) :: l, n, v, h => by
    simp only [frzEnv, List.mem_cons, Prod.mk.injEq] at h
    rcases h with ⟨rfl, rfl⟩ | h
    · exact ⟨u, List.mem_cons_self, rfl⟩
    · obtain ⟨u', h1, h2⟩ := mem_frzEnv h; exact ⟨u', List.mem_cons_of_mem _ h1, h2⟩

theorem EnvOK.frz {c : Ctx} {env : List (Nat × AV)} {t : Array Value} {w : World} {S S' : Nat → Prop} {ρ : Nat → Value} {E : Nat → Nat} (h : EnvOK c env t w S ρ E) {r : Nat} {y : Row}
    (hS : ∀ b, S b → S' b) (hx : RD w S' (ρ r) y.frz) (he : ∀ s xs, y = .sl s xs → E r = s.esz) : EnvOK c (frzEnv r y.frz env) t w S' ρ E := by
  intro s v hm
  obtain ⟨u, h1, rfl⟩ := mem_frzEnv hm
  exact ⟨(h s u h1).1, (h s u h1).2.frz hS hx he⟩

/-- A whole state with a row frozen. -/
theorem freeze_sound {c : Ctx} {σ : St} {t : Array Value} {w : World} {S : Nat → Prop} {ρ : Nat → Value} {F : Nat → Nat → Prop} {E : Nat → Nat} (hM : Mem c σ.rows w S ρ F E) (hE : EnvOK c σ.env t w S ρ E) {r : Nat} {y : Row}
    (hr : lkp σ.rows r = some y) (hb : c.base ≤ r) :
    Mem c (σ.freeze r y).rows w (fun b => S b ∨ F r b) ρ F E ∧ EnvOK c (σ.freeze r y).env t w (fun b => S b ∨ F r b) ρ E ∧ RD w (fun b => S b ∨ F r b) (ρ r) y.frz := by
  have hrd : RD w (fun b => S b ∨ F r b) (ρ r) y.frz := by
    have := hM.row r y hr
    cases y with
    | sl s xs => exact this.rd
    | box cs => exact this.rdBox
  exact ⟨hM.freeze hr hb, hE.frz (fun _ h => .inl h) hrd (fun s xs e => hM.esz r s xs (e ▸ hr)), hrd⟩

end Go.Eng

/- The engine, part 5: the operations that only compute. -/
namespace Go.Eng

/-- Where a row's blocks come from: from an elder row's (which may be written if this one may), or they are new. -/
def From (T : Tab) (rows0 : List (Nat × Row)) (F0 : Nat → Nat → Prop) (n0 : Nat) (rows : List (Nat × Row)) (F : Nat → Nat → Prop) : Prop :=
  ∀ q x b, lkp rows q = some x → F q b → (∃ r y, lkp rows0 r = some y ∧ F0 r b ∧ (allowed T q = true → allowed T r = true)) ∨ n0 ≤ b
theorem From.sub {T : Tab} {rows0 rows : List (Nat × Row)} {F : Nat → Nat → Prop} {n0 : Nat} (h : ∀ q x, lkp rows q = some x → lkp rows0 q = some x) : From T rows0 F n0 rows F :=
  fun q x b hq hb => .inl ⟨q, x, h q x hq, hb, id⟩

def OutG (T : Tab) (c : Ctx) (rows0 : List (Nat × Row)) (F0 : Nat → Nat → Prop) (n0 : Nat) (K : St → AV → Prop) (t : Array Value) (w : World) (v : Value) : Prop :=
  ∃ σ u S ρ F E, K σ u ∧ Mem c σ.rows w S ρ F E ∧ EnvOK c σ.env t w S ρ E ∧ VOK w S ρ E v u ∧ From T rows0 F0 n0 σ.rows F

def Pure (P : Program) (ro : Oper) (a : Act) (v : Value) : Prop := ∀ w, (execOp a.eval ro).run P w = .ok (.value v) w
def PRes (P : Program) (T : Tab) (c : Ctx) (rows : List (Nat × Row)) (F : Nat → Nat → Prop) (K : St → AV → Prop) (ro : Oper) (a : Act) (w : World) : Prop := ∃ v, Pure P ro a v ∧ OutG T c rows F w.heap.size K a.tmps w v

theorem cv_rd (w : World) (S : Nat → Prop) (v : Value) : RD w S v (cv v) := by
  cases v with
  | int k n => exact .i k fun _ => n
  | bool b => exact .b (.lit b)
  | string s => exact .s fun _ => s
  | _ => exact .v _

section
variable {P : Program} {T : Tab} {c : Ctx} {σ : St} {K : St → AV → Prop} {ro : Oper} {a : Act} {w : World} {S : Nat → Prop} {ρ : Nat → Value} {F : Nat → Nat → Prop} {E : Nat → Nat}

theorem ev_sound (hE : EnvOK c σ.env a.tmps w S ρ E) {o : Operand} {x : X} (hx : xOf o = some x) {v : AV} (he : σ.ev x = some v) : VOK w S ρ E (a.eval o) v := by
  cases o with
  | tmp t => simp only [xOf, Option.some.injEq] at hx; subst hx; exact hE.lkp he
  | const u => simp only [xOf, Option.some.injEq] at hx; subst hx; simp only [St.ev, Option.some.injEq] at he; subst he; exact .d (cv_rd _ _ _)
  | func f => simp only [xOf, Option.some.injEq] at hx; subst hx; simp only [St.ev, Option.some.injEq] at he; subst he; exact .d (.fn #[] rfl (by simp))
  | global g => simp [xOf] at hx

theorem evs_sound (hE : EnvOK c σ.env a.tmps w S ρ E) : ∀ {os : List Operand} {xs : List X}, xsOf' os = some xs → ∀ {vs : List AV}, σ.evs xs = some vs →
    os.length = vs.length ∧ ∀ j v, vs[j]? = some v → VOK w S ρ E ((os.map a.eval).getD j undef) v
  | [], xs, hx, vs, he => by
    simp only [xsOf', Option.some.injEq] at hx; subst hx; simp only [St.evs, Option.some.injEq] at he; subst he; simp
  | o :: os, xs, hx, vs, he => by
    simp only [xsOf'] at hx
    split at hx
    · rename_i y m hy hm
      simp only [Option.some.injEq] at hx; subst hx
      simp only [St.evs] at he
      split at he
      · rename_i v us hv hus
        simp only [Option.some.injEq] at he; subst he
        obtain ⟨h1, h2⟩ := evs_sound hE hm hus
        refine ⟨by simp [h1], fun j v' hj => ?_⟩
        cases j with
        | zero => simp only [List.getElem?_cons_zero, Option.some.injEq] at hj; subst hj; simpa using ev_sound hE hy hv
        | succ j => simpa using h2 j v' (by simpa using hj)
      · cases he
    · cases hx

/-- A state that goes on as it is. -/
theorem OutG.keep (hM : Mem c σ.rows w S ρ F E) (hE : EnvOK c σ.env a.tmps w S ρ E) {v : Value} {u : AV} (hk : K σ u) (hv : VOK w S ρ E v u) : OutG T c σ.rows F w.heap.size K a.tmps w v :=
  ⟨σ, u, S, ρ, F, E, hk, hM, hE, hv, .sub fun _ _ h => h⟩

theorem p_mov (hM : Mem c σ.rows w S ρ F E) (hE : EnvOK c σ.env a.tmps w S ρ E) {o : Operand} (ho : ro.op = .move o ∨ ro.op = .assign o) {x : X} (hx : xOf o = some x)
    (hk : step T (.mov x) σ K) : PRes P T c σ.rows F K ro a w := by
  simp only [step] at hk
  split at hk
  · rename_i v hv
    refine ⟨a.eval o, fun w' => ?_, .keep hM hE hk (ev_sound hE hx hv)⟩
    rcases ho with ho | ho <;> simp [execOp, ho]
  · exact hk.elim

theorem VIf.elim {f : Th Bool} {p q : Unit → Prop} (h : VIf f p q) : (f () = true ∧ p ()) ∨ (f () = false ∧ q ()) := by
  cases h with
  | tt h hp => exact .inl ⟨h, hp⟩
  | ff h hq => exact .inr ⟨h, hq⟩
theorem bifB_elim {b : BV} {p q : Unit → Prop} (h : bifB b p q) : (b.get = true ∧ p ()) ∨ (b.get = false ∧ q ()) := by
  cases b with
  | lit b => cases b with
    | true => exact .inl ⟨rfl, h.h⟩
    | false => exact .inr ⟨rfl, h.h⟩
  | dyn f => exact VIf.elim h

theorem VOK.b_inv {v : Value} {b : BV} (h : VOK w S ρ E v (.d (.b b))) : v = .bool b.get := by cases h with | d h => cases h with | b b => rfl
theorem VOK.i_inv {v : Value} {k : IntKind} {n : Th Int} (h : VOK w S ρ E v (.d (.i k n))) : v = .int k (n ()) := by cases h with | d h => cases h with | i k n => rfl

theorem p_pick (hM : Mem c σ.rows w S ρ F E) (hE : EnvOK c σ.env a.tmps w S ρ E) {oc oa ob : Operand} (ho : ro.op = .pick oc oa ob) {xc xa xb : X} (hc : xOf oc = some xc) (ha : xOf oa = some xa)
    (hb : xOf ob = some xb) (hk : step T (.pick xc xa xb) σ K) : PRes P T c σ.rows F K ro a w := by
  simp only [step] at hk
  split at hk
  · rename_i t hv
    have hc' := (ev_sound hE hc hv).b_inv
    rcases bifB_elim hk with ⟨h1, hk⟩ | ⟨h1, hk⟩
    · split at hk
      · rename_i v hv
        exact ⟨a.eval oa, fun w' => by simp [execOp, ho, hc', h1, asBool], .keep hM hE hk (ev_sound hE ha hv)⟩
      · exact hk.elim
    · split at hk
      · rename_i v hv
        exact ⟨a.eval ob, fun w' => by simp [execOp, ho, hc', h1, asBool], .keep hM hE hk (ev_sound hE hb hv)⟩
      · exact hk.elim
  · exact hk.elim

theorem wrap_in {k : IntKind} {n : Int} (h : inR k n) : k.wrap n = n := by
  obtain ⟨h1, h2⟩ := h
  cases k <;> simp [IntKind.min, IntKind.max, IntKind.bits, IntKind.signed] at h1 h2 <;> simp [IntKind.wrap, IntKind.bits, IntKind.signed] <;> (try split) <;> omega

theorem run_eqGuard_int (op : BinOp) (t : TypeId) (x y : Operand) (j k : IntKind) (m n : Int) (w : World) : (eqGuard op t x y (.int j m) (.int k n)).run P w = .ok () w := by
  unfold eqGuard
  split <;> simp
theorem run_eqGuard_bool (op : BinOp) (t : TypeId) (x y : Operand) (m n : Bool) (w : World) : (eqGuard op t x y (.bool m) (.bool n)).run P w = .ok () w := by
  unfold eqGuard
  split <;> simp

theorem p_bin (hM : Mem c σ.rows w S ρ F E) (hE : EnvOK c σ.env a.tmps w S ρ E) {op : BinOp} {t yt : TypeId} {ox oy : Operand} (ho : ro.op = .binOp op t ox oy yt) {k : IntKind} {x y : X}
    (hx : xOf ox = some x) (hy : xOf oy = some y) (hk : step T (.bin op k x y) σ K) : PRes P T c σ.rows F K ro a w := by
  simp only [step] at hk
  split at hk
  · rename_i k' m k'' n hm hn
    cases h1 : decide (k' = k) with
    | false => rw [h1] at hk; exact hk.elim
    | true =>
      cases h2 : decide (k'' = k) with
      | false => rw [h1, h2] at hk; exact hk.elim
      | true =>
        rw [h1, h2] at hk
        simp only [cond_true] at hk
        obtain rfl : k' = k := by simpa using h1
        obtain rfl : k'' = k' := by simpa using h2
        have ex := (ev_sound hE hx hm).i_inv
        have ey := (ev_sound hE hy hn).i_inv
        have run : ∀ v, (∀ w', (binOp op t (.int k'' (m ())) (.int k'' (n ()))).run P w' = .ok v w') → Pure P ro a v := fun v hv w' => by
          simp [execOp, ho, ex, ey, run_eqGuard_int, hv]
        cases op <;> simp only [binop] at hk
        case add => exact ⟨_, run (.int k'' (m () + n ())) (fun w' => by simp [binOp, Op.intArith, wrap_in hk.1.h]), .keep hM hE hk.2 (.d (.i k'' fun _ => m () + n ()))⟩
        case sub => exact ⟨_, run (.int k'' (m () - n ())) (fun w' => by simp [binOp, Op.intArith, wrap_in hk.1.h]), .keep hM hE hk.2 (.d (.i k'' fun _ => m () - n ()))⟩
        case mul => exact ⟨_, run (.int k'' (m () * n ())) (fun w' => by simp [binOp, Op.intArith, wrap_in hk.1.h]), .keep hM hE hk.2 (.d (.i k'' fun _ => m () * n ()))⟩
        case quo =>
          obtain ⟨h0, hp, hr⟩ := hk.1.h
          refine ⟨_, run (.int k'' (m () / n ())) (fun w' => ?_), .keep hM hE hk.2 (.d (.i k'' fun _ => m () / n ()))⟩
          have hz : n () ≠ 0 := by omega
          simp [binOp, Op.intDiv, hz, Int.tdiv_eq_ediv_of_nonneg h0, wrap_in hr]
        case rem =>
          obtain ⟨h0, hp⟩ := hk.1.h
          refine ⟨_, run (.int k'' (m () % n ())) (fun w' => ?_), .keep hM hE hk.2 (.d (.i k'' fun _ => m () % n ()))⟩
          have hz : n () ≠ 0 := by omega
          simp [binOp, Op.intDiv, hz, Int.tmod_eq_emod_of_nonneg h0]
        case eql => exact ⟨_, run (.bool (decide (m () = n ()))) (fun w' => by simp [binOp, Op.intCmp]; rfl), .keep hM hE hk (.d (.b (.dyn fun _ => decide (m () = n ()))))⟩
        case neq => exact ⟨_, run (.bool (decide (m () ≠ n ()))) (fun w' => by simp [binOp, Op.intCmp, bne]; rfl), .keep hM hE hk (.d (.b (.dyn fun _ => decide (m () ≠ n ()))))⟩
        case lss => exact ⟨_, run (.bool (decide (m () < n ()))) (fun w' => by simp [binOp, Op.intCmp]), .keep hM hE hk (.d (.b (.dyn fun _ => decide (m () < n ()))))⟩
        case leq => exact ⟨_, run (.bool (decide (m () ≤ n ()))) (fun w' => by simp [binOp, Op.intCmp]), .keep hM hE hk (.d (.b (.dyn fun _ => decide (m () ≤ n ()))))⟩
        case gtr => exact ⟨_, run (.bool (decide (n () < m ()))) (fun w' => by simp [binOp, Op.intCmp]), .keep hM hE hk (.d (.b (.dyn fun _ => decide (n () < m ()))))⟩
        case shr =>
          obtain ⟨h0, h1, hr⟩ := hk.1.h
          refine ⟨_, run (.int k'' (m () / 2)) (fun w' => ?_), .keep hM hE hk.2 (.d (.i k'' fun _ => m () / 2))⟩
          have hb : min 1 k''.bits = 1 := by cases k'' <;> rfl
          simp only [binOp, Op.shift, h1]
          rw [if_neg (by omega), show (1 : Int).toNat = 1 from rfl, hb]
          simp [Int.fdiv_eq_ediv_of_nonneg]
        case geq => exact ⟨_, run (.bool (decide (n () ≤ m ()))) (fun w' => by simp [binOp, Op.intCmp]), .keep hM hE hk (.d (.b (.dyn fun _ => decide (n () ≤ m ()))))⟩
        all_goals exact hk.elim
  · exact hk.elim

theorem run_underlying' {t : TypeId} {d : TypeDesc} (h : P.underlying t = some d) (w : World) : (underlying t).run P w = .ok d w := by simp [underlying, h]

theorem run_equal_bool {t : TypeId} (ht : P.underlying t = some .bool) (a b : Bool) (w : World) : (Op.equal t (.bool a) (.bool b)).run P w = .ok (a == b) w := by
  show (Op.equalIn (9999 + 1) t (.bool a) (.bool b)).run P w = _
  rw [Op.equalIn.eq_2]
  simp only [Sem.run_bind, run_underlying' ht, Result.andThen_ok, Sem.run_pure]
theorem binOp_eql_bool (t : TypeId) (a b : Bool) : binOp .eql t (.bool a) (.bool b) = (do pure (.bool (← Op.equal t (.bool a) (.bool b)))) := rfl
theorem binOp_neq_bool (t : TypeId) (a b : Bool) : binOp .neq t (.bool a) (.bool b) = (do pure (.bool (!(← Op.equal t (.bool a) (.bool b))))) := rfl

theorem p_eqb (hM : Mem c σ.rows w S ρ F E) (hE : EnvOK c σ.env a.tmps w S ρ E) {t yt : TypeId} {ox oy : Operand} {neg : Bool} (ho : ro.op = .binOp (if neg then .neq else .eql) t ox oy yt) (ht : P.underlying t = some .bool) {x y : X}
    (hx : xOf ox = some x) (hy : xOf oy = some y) (hk : step T (.eqb neg x y) σ K) : PRes P T c σ.rows F K ro a w := by
  simp only [step] at hk
  split at hk
  · rename_i m n hm hn
    have ex := (ev_sound hE hx hm).b_inv
    have ey := (ev_sound hE hy hn).b_inv
    cases neg with
    | false =>
      refine ⟨.bool (m.get == n.get), fun w' => ?_, .keep hM hE hk (.d (.b (.dyn fun _ => bif false then !(m.get == n.get) else m.get == n.get)))⟩
      simp [execOp, ho, ex, ey, run_eqGuard_bool, binOp_eql_bool, binOp_neq_bool, run_equal_bool ht]
    | true =>
      refine ⟨.bool (!(m.get == n.get)), fun w' => ?_, .keep hM hE hk (.d (.b (.dyn fun _ => bif true then !(m.get == n.get) else m.get == n.get)))⟩
      simp [execOp, ho, ex, ey, run_eqGuard_bool, binOp_eql_bool, binOp_neq_bool, run_equal_bool ht]
  · exact hk.elim

theorem p_not (hM : Mem c σ.rows w S ρ F E) (hE : EnvOK c σ.env a.tmps w S ρ E) {t : TypeId} {ox : Operand} (ho : ro.op = .unOp .not t ox) {x : X} (hx : xOf ox = some x)
    (hk : step T (.not x) σ K) : PRes P T c σ.rows F K ro a w := by
  simp only [step] at hk
  split at hk
  · rename_i b hb
    have ex := (ev_sound hE hx hb).b_inv
    exact ⟨.bool (!b), fun w' => by simp [execOp, ho, ex, Op.unary, BV.get], .keep hM hE hk (.d (.b (.lit (!b))))⟩
  · rename_i f hb
    have ex := (ev_sound hE hx hb).b_inv
    exact ⟨.bool (!f ()), fun w' => by simp [execOp, ho, ex, Op.unary, BV.get], .keep hM hE hk (.d (.b (.dyn fun _ => !f ())))⟩
  · exact hk.elim

theorem p_neg (hM : Mem c σ.rows w S ρ F E) (hE : EnvOK c σ.env a.tmps w S ρ E) {t : TypeId} {ox : Operand} (ho : ro.op = .unOp .neg t ox) {k : IntKind} {x : X} (hx : xOf ox = some x)
    (hk : step T (.neg k x) σ K) : PRes P T c σ.rows F K ro a w := by
  simp only [step] at hk
  split at hk
  · rename_i k' m hm
    cases h1 : decide (k' = k) with
    | false => rw [h1] at hk; exact hk.elim
    | true =>
      rw [h1] at hk; simp only [cond_true] at hk
      obtain rfl : k' = k := by simpa using h1
      have ex := (ev_sound hE hx hm).i_inv
      refine ⟨.int k' (- m ()), fun w' => ?_, .keep hM hE hk.2 (.d (.i k' fun _ => - m ()))⟩
      have := wrap_in hk.1.h
      simp [execOp, ho, ex, Op.unary, Op.intArith, this]
  · exact hk.elim

theorem p_conv (hM : Mem c σ.rows w S ρ F E) (hE : EnvOK c σ.env a.tmps w S ρ E) {s t : TypeId} {ox : Operand} (ho : ro.op = .convert s t ox) {j k : IntKind} (hs : P.underlying s = some (.int j))
    (ht : P.underlying t = some (.int k)) {x : X} (hx : xOf ox = some x) (hk : step T (.conv k x) σ K) : PRes P T c σ.rows F K ro a w := by
  simp only [step] at hk
  split at hk
  · rename_i k' m hm
    have ex := (ev_sound hE hx hm).i_inv
    refine ⟨.int k (m ()), fun w' => ?_, .keep hM hE hk.2 (.d (.i k m))⟩
    simp [execOp, ho, ex, convert, run_underlying' hs, run_underlying' ht, Conv.intToInt, wrap_in hk.1.h]
  · exact hk.elim

theorem run_sizeOf {t : TypeId} {i : TypeInfo} (h : P.info? t = some i) (w : World) : (sizeOf t).run P w = .ok i.size w := by simp [sizeOf, typeInfo, h]

theorem add_plain (g o n : Nat) : (⟨g, o, none⟩ : Addr).add n = ⟨g, o + n, none⟩ := by
  unfold Addr.add
  split
  · simp [*]
  · rfl

def AV.shift (n : Nat) : AV → AV
  | .bptr r o => .bptr r (o + n)
  | .eptr r i o => .eptr r i (o + n)
  | .dptr x i o => .dptr x i (o + n)
  | .pptr cs o => .pptr cs (o + n)
  | v => v
def AV.isPtr : AV → Bool
  | .bptr _ _ => true
  | .eptr _ _ _ => true
  | .dptr _ _ _ => true
  | .pptr _ _ => true
  | _ => false

theorem VOK.ptr {v : Value} {p : AV} (h : VOK w S ρ E v p) (hp : p.isPtr = true) (n : Nat) : ∃ g o, v = .pointer (some ⟨g, o, none⟩) ∧ VOK w S ρ E (.pointer (some ⟨g, o + n, none⟩)) (p.shift n) := by
  cases h with
  | bptr r o g h => exact ⟨g, o, rfl, .bptr r _ g h⟩
  | eptr r i o g m c h h0 h1 => exact ⟨g, _, rfl, by rw [Nat.add_assoc]; exact .eptr r i _ g m c h h0 h1⟩
  | dptr i o b p m c h h0 h1 => exact ⟨b, _, rfl, by rw [Nat.add_assoc, Nat.add_assoc]; exact .dptr i _ b p m c h h0 h1⟩
  | pptr o b h => exact ⟨b, o, rfl, .pptr _ b h⟩
  | _ => cases hp

theorem p_faddr (hM : Mem c σ.rows w S ρ F E) (hE : EnvOK c σ.env a.tmps w S ρ E) {t : TypeId} {ox : Operand} {q : Nat} (ho : ro.op = .fieldAddr t ox q) {fs : Array Field} (ht : P.underlying t = some (.struct fs))
    {f : Field} (hf : fs[q]? = some f) {i : TypeInfo} (hi : P.info? f.type = some i) (h0 : i.size ≠ 0) {x : X} (hx : xOf ox = some x) (hk : step T (.faddr f.offset x) σ K) : PRes P T c σ.rows F K ro a w := by
  have run : ∀ p, σ.ev x = some p → p.isPtr = true → K σ (p.shift f.offset) → PRes P T c σ.rows F K ro a w := fun p hv hp hk => by
    obtain ⟨g, o, he, h⟩ := (ev_sound hE hx hv).ptr hp f.offset
    exact ⟨.pointer (some ⟨g, o + f.offset, none⟩), fun w' => by simp [execOp, ho, he, Instr.fieldAt, run_underlying' ht, hf, Instr.sureAddr, fieldPlace, run_sizeOf hi, h0, add_plain], .keep hM hE hk h⟩
  simp only [step] at hk
  split at hk
  · rename_i r q hv; exact run (.bptr r q) hv rfl hk
  · rename_i r j q hv; exact run (.eptr r j q) hv rfl hk
  · rename_i y j q hv; exact run (.dptr y j q) hv rfl hk
  · rename_i cs q hv; exact run (.pptr cs q) hv rfl hk
  · exact hk.elim

theorem p_aaddr (hM : Mem c σ.rows w S ρ F E) (hE : EnvOK c σ.env a.tmps w S ρ E) {t : TypeId} {ox oi : Operand} (ho : ro.op = .indexAddr t ox oi) {n : Nat} {e : TypeId} (ht : P.underlying t = some (.array n e))
    {i : TypeInfo} (hi : P.info? e = some i) {x j : X} (hx : xOf ox = some x) (hj : xOf oi = some j) (hk : step T (.aaddr n i.size x j) σ K) : PRes P T c σ.rows F K ro a w := by
  simp only [step] at hk
  split at hk
  · rename_i kk m
    have hoi : a.eval oi = .int kk (Int.ofNat m) := by
      cases oi with
      | const v => simp only [xOf, Option.some.injEq, X.c.injEq] at hj; subst hj; rfl
      | _ => simp [xOf] at hj
    cases hb : Nat.blt m n with
    | false => rw [hb] at hk; exact hk.elim
    | true =>
      rw [hb] at hk; simp only [cond_true] at hk
      have hlt : m < n := by simpa [Nat.blt_eq] using hb
      have run : ∀ p, σ.ev x = some p → p.isPtr = true → K σ (p.shift (m * i.size)) → PRes P T c σ.rows F K ro a w := fun p hv hp hk => by
        obtain ⟨g, o, he, h⟩ := (ev_sound hE hx hv).ptr hp (m * i.size)
        exact ⟨.pointer (some ⟨g, o + m * i.size, none⟩), fun w' => by simp [execOp, ho, he, hoi, Instr.indexAt, asIntOf, run_underlying' ht, Instr.sureAddr, run_sizeOf hi, add_plain]; exact fun h => absurd hlt (by omega), .keep hM hE hk h⟩
      split at hk
      · rename_i r q hv; exact run (.bptr r q) hv rfl hk
      · rename_i r j q hv; exact run (.eptr r j q) hv rfl hk
      · rename_i y j q hv; exact run (.dptr y j q) hv rfl hk
      · rename_i cs q hv; exact run (.pptr cs q) hv rfl hk
      · exact hk.elim
  · exact hk.elim

theorem p_iaddr (hM : Mem c σ.rows w S ρ F E) (hE : EnvOK c σ.env a.tmps w S ρ E) {t : TypeId} {ox oi : Operand} (ho : ro.op = .indexAddr t ox oi) {e : TypeId} (ht : P.underlying t = some (.slice e))
    {i : TypeInfo} (hi : P.info? e = some i) {x j : X} (hx : xOf ox = some x) (hj : xOf oi = some j) (hk : step T (.iaddr i.size x j) σ K) : PRes P T c σ.rows F K ro a w := by
  have run : ∀ g o n cap kk m, a.eval ox = .slice (some ⟨g, o, none⟩) n cap → a.eval oi = .int kk m → 0 ≤ m → m < (n : Int) → Pure P ro a (.pointer (some ⟨g, o + m.toNat * i.size, none⟩)) := fun g o n cap kk m he hei h0 h1 w' => by
    simp [execOp, ho, he, hei, Instr.indexAt, asIntOf, run_underlying' ht, h0, h1, run_sizeOf hi, add_plain]
  simp only [step] at hk
  split at hk
  · rename_i r kk n hv hn
    split at hk
    · rename_i s xs hr
      cases hb : Nat.beq s.esz i.size with
      | false => rw [hb] at hk; exact hk.elim
      | true =>
        rw [hb] at hk; simp only [cond_true] at hk
        have hsz := beq_iff.1 hb
        obtain ⟨h0, h1⟩ := hk.1.h
        have hei := (ev_sound hE hj hn).i_inv
        have hvv := ev_sound hE hx hv
        have hro := hM.row r _ hr
        have hEr := hM.esz r s xs hr
        generalize he : a.eval ox = val at hvv
        cases hvv with
        | own r =>
          rcases hro.inv with ⟨h, _, _⟩ | ⟨g, m, cap, cur, hq, hm, hg, hnc, hmx, hc, hlen, hrd, _⟩
          · rw [h] at h1; simp at h1; omega
          · have h1' : n () < (m : Int) := by rw [hm]; exact h1
            rw [hq] at he
            refine ⟨_, run g 0 m cap kk (n ()) he hei h0 h1', .keep hM hE hk.2 ?_⟩
            have := VOK.eptr (w := w) (S := S) (ρ := ρ) (E := E) r n 0 g m cap hq h0 h1'
            rw [hEr, hsz, Nat.add_zero] at this
            rw [Nat.zero_add]; exact this
    · exact hk.elim
  · rename_i α esz' cells d0 xs kk n hv hn
    cases hb : Nat.beq esz' i.size with
    | false => rw [hb] at hk; exact hk.elim
    | true =>
      rw [hb] at hk; simp only [cond_true] at hk
      have hsz := beq_iff.1 hb
      subst hsz
      obtain ⟨h0, h1⟩ := hk.1.h
      have hei := (ev_sound hE hj hn).i_inv
      have hvv := ev_sound hE hx hv
      generalize he : a.eval ox = val at hvv
      cases hvv with
      | d h =>
        cases h with
        | nilsl a c h => rw [h] at h1; simp at h1; omega
        | sl b off m cap us hbS hm hlen hcell hrd hc =>
          have h1' : n () < (m : Int) := by rw [hm]; exact h1
          refine ⟨_, run b off m cap kk (n ()) he hei h0 h1', .keep hM hE hk.2 ?_⟩
          exact .dptr n 0 b off m cap (.sl b off m cap us hbS hm hlen hcell hrd hc) h0 h1'
  · exact hk.elim

theorem nth_get : ∀ (l : List D) (n : Nat), nth l n = l[n]?
  | [], n => by cases n <;> rfl
  | x :: l, 0 => rfl
  | x :: l, n + 1 => by simp [nth, nth_get l n]
theorem dropD_eq : ∀ (n : Nat) (l : List D), dropD n l = l.drop n
  | 0, l => by simp [dropD]
  | n + 1, [] => by simp [dropD]
  | n + 1, x :: l => by simp [dropD, dropD_eq n l]
theorem takeD_eq : ∀ (n : Nat) (l m : List D), takeD n l = some m → m = l.take n ∧ n ≤ l.length
  | 0, l, m, h => by simp [takeD] at h; simp [h]
  | n + 1, [], m, h => by simp [takeD] at h
  | n + 1, x :: l, m, h => by
    simp only [takeD] at h
    split at h
    · rename_i m' hm
      obtain ⟨h1, h2⟩ := takeD_eq n l m' hm
      cases h
      simp [h1]; omega
    · cases h
theorem len'_eq : ∀ l : List D, len' l = l.length
  | [] => rfl
  | _ :: l => by simp [len', len'_eq l]

/-- A part of a struct's or an array's cells. -/
theorem run_part {t : TypeId} {g : Option Nat} (hg : aggOf P t = some g) {cs : List D} {vs : Array Value} (hv : vs.size = cs.length) (hrd : ∀ j d, cs[j]? = some d → RD w S (vs.getD j undef) d) {off : Nat} {K' : D → Prop}
    (hk : partsOf g (dropD off cs) K') : ∃ v d, (∀ w', (part t vs off).run P w' = .ok v w') ∧ K' d ∧ RD w S v d := by
  unfold aggOf at hg
  rw [dropD_eq] at hk
  have agg : ∀ n : Nat, (P.info? t).map (fun i => i.size) = some n → (∀ w', (isAgg t).run P w' = .ok true w') → partsOf (some n) (cs.drop off) K' → ∃ v d, (∀ w', (part t vs off).run P w' = .ok v w') ∧ K' d ∧ RD w S v d := by
    intro n hn hagg hk
    simp only [partsOf] at hk
    split at hk
    · rename_i l hl
      obtain ⟨h1, h2⟩ := takeD_eq _ _ _ hl
      cases hi : P.info? t with
      | none => rw [hi] at hn; cases hn
      | some i =>
        rw [hi] at hn; simp only [Option.map_some, Option.some.injEq] at hn
        refine ⟨.agg (vs.extract off (off + n)), .agg l, fun w' => ?_, hk, ?_⟩
        · simp [part, hagg, sizeOf, typeInfo, hi, hn]
        · simp only [List.length_drop] at h2
          refine .agg _ (by simp [h1, hv]; omega) fun j d hd => ?_
          rw [h1, List.getElem?_take] at hd
          split at hd
          · rename_i hj
            rw [List.getElem?_drop] at hd
            have := hrd _ _ hd
            have e : (vs.extract off (off + n)).getD j undef = vs.getD (off + j) undef := by
              simp only [Array.getD_eq_getD_getElem?, Array.getElem?_extract]
              rw [if_pos (by rw [hv]; omega)]
            rw [e]; exact this
          · cases hd
    · exact hk.elim
  split at hg
  · rename_i fs ht
    cases hi : P.info? t with
    | none => rw [hi] at hg; cases hg
    | some i => rw [hi] at hg; cases hg; exact agg i.size (by rw [hi]; rfl) (fun w' => by simp [isAgg, run_underlying' ht]) hk
  · rename_i m e ht
    cases hi : P.info? t with
    | none => rw [hi] at hg; cases hg
    | some i => rw [hi] at hg; cases hg; exact agg i.size (by rw [hi]; rfl) (fun w' => by simp [isAgg, run_underlying' ht]) hk
  · rename_i d h1 h2 ht
    cases hg
    simp only [partsOf] at hk
    split at hk
    · rename_i dd l hl
      have hd : cs[off]? = some dd := by have := congrArg (fun l => l[0]?) hl; simpa using this
      have hlt : off < vs.size := by rw [hv]; exact (List.getElem?_eq_some_iff.1 hd).1
      refine ⟨vs.getD off undef, dd, fun w' => ?_, hk, hrd off dd hd⟩
      have hna : (isAgg t).run P w' = .ok false w' := by
        simp only [isAgg, Sem.run_bind, run_underlying' ht, Result.andThen_ok]
        first
          | rfl
          | (split
             · rename_i fs; exact (h1 fs rfl).elim
             · rename_i m e; exact (h2 m e rfl).elim
             · rfl)
      simp [part, hna, hlt]
    · exact hk.elim
  · cases hg

theorem p_fld (hM : Mem c σ.rows w S ρ F E) (hE : EnvOK c σ.env a.tmps w S ρ E) {t : TypeId} {ox : Operand} {q : Nat} (ho : ro.op = .field t ox q) {fs : Array Field} (ht : P.underlying t = some (.struct fs))
    {f : Field} (hf : fs[q]? = some f) {g : Option Nat} (hg : aggOf P f.type = some g) {x : X} (hx : xOf ox = some x) (hk : step T (.fld f.offset g x) σ K) : PRes P T c σ.rows F K ro a w := by
  simp only [step] at hk
  split at hk
  · rename_i cs hv
    have hvv := ev_sound hE hx hv
    generalize he : a.eval ox = val at hvv
    cases hvv with
    | d h =>
      cases h with
      | agg vs hs hrd =>
        obtain ⟨v, d, h1, h2, h3⟩ := run_part (P := P) (w := w) hg hs hrd hk
        exact ⟨v, fun w' => by simp [execOp, ho, he, Instr.field, run_underlying' ht, hf, asAgg, h1], .keep hM hE h2 (.d h3)⟩
  · exact hk.elim

theorem p_ext (hM : Mem c σ.rows w S ρ F E) (hE : EnvOK c σ.env a.tmps w S ρ E) {ox : Operand} {q : Nat} (ho : ro.op = .extract ox q) {x : X} (hx : xOf ox = some x) (hk : step T (.ext x q) σ K) : PRes P T c σ.rows F K ro a w := by
  have hn : ∀ (l : List AV) (q : Nat) (K' : AV → Prop), step.nthA l q K' → ∃ v, l[q]? = some v ∧ K' v := by
    intro l
    induction l with
    | nil => intro q K' h; cases q <;> exact h.elim
    | cons v l ih =>
      intro q K' h
      cases q with
      | zero => exact ⟨v, rfl, h⟩
      | succ q => simpa using ih q K' h
  simp only [step] at hk
  split at hk
  · rename_i l hv
    obtain ⟨v, h1, h2⟩ := hn l q _ hk
    have hvv := ev_sound hE hx hv
    generalize he : a.eval ox = val at hvv
    cases hvv with
    | tup vs hs hvs =>
      have hlt : q < vs.size := by rw [hs]; exact (List.getElem?_eq_some_iff.1 h1).1
      refine ⟨vs.getD q undef, fun w' => ?_, .keep hM hE h2 (hvs q v h1)⟩
      simp [execOp, ho, he, Instr.extract, hlt]
  · exact hk.elim

theorem p_len (hM : Mem c σ.rows w S ρ F E) (hE : EnvOK c σ.env a.tmps w S ρ E) {cl : Call} {ox : Operand} {t : TypeId} (ho : ro.op = .call cl) (hc : cl.callee = .builtin .len) (ha : cl.args = #[ox]) (hat : cl.argTypes = #[t])
    {e : TypeId} (ht : P.underlying t = some (.slice e)) {x : X} (hx : xOf ox = some x) (hk : step T (.len x) σ K) : PRes P T c σ.rows F K ro a w := by
  have run : ∀ ad n cap, a.eval ox = .slice ad n cap → Pure P ro a (.int .i64 n) := fun ad n cap he w' => by
    simp [execOp, ho, resolve, hc, ha, hat, invoke, builtin, he, Builtin.len_, run_underlying' ht, goInt]
  simp only [step] at hk
  split at hk
  · rename_i α esz cells d0 xs hv
    have hvv := ev_sound hE hx hv
    generalize he : a.eval ox = val at hvv
    cases hvv with
    | d h =>
      obtain ⟨ad, cap, rfl, _⟩ := h.len
      exact ⟨_, run ad _ cap he, .keep hM hE (hk.h h.maxl) (.d (.i .i64 fun _ => ((xs ()).length : Int)))⟩
  · rename_i hv
    have hvv := ev_sound hE hx hv
    generalize he : a.eval ox = val at hvv
    cases hvv with
    | d h => cases h with | v => exact ⟨_, run none 0 0 he, .keep hM hE hk (.d (.i .i64 fun _ => 0))⟩
  · rename_i r hv
    split at hk
    · rename_i s xs hr
      have hvv := ev_sound hE hx hv
      have hro := hM.row r _ hr
      generalize he : a.eval ox = val at hvv
      cases hvv with
      | own r =>
        obtain ⟨ad, cap, hq, _⟩ := hro.len
        rw [hq] at he
        exact ⟨_, run ad _ cap he, .keep hM hE (hk.h hro.maxl) (.d (.i .i64 fun _ => ((xs ()).length : Int)))⟩
    · exact hk.elim
  · exact hk.elim

theorem p_slen (hM : Mem c σ.rows w S ρ F E) (hE : EnvOK c σ.env a.tmps w S ρ E) {cl : Call} {ox : Operand} {t : TypeId} (ho : ro.op = .call cl) (hc : cl.callee = .builtin .len) (ha : cl.args = #[ox]) (hat : cl.argTypes = #[t])
    (ht : P.underlying t = some .string) {x : X} (hx : xOf ox = some x) (hk : step T (.slen x) σ K) : PRes P T c σ.rows F K ro a w := by
  simp only [step] at hk
  split at hk
  · rename_i y hv
    have hvv := ev_sound hE hx hv
    generalize he : a.eval ox = val at hvv
    cases hvv with
    | d h => cases h with
      | s => exact ⟨.int .i64 ((y ()).size : Int), fun w' => by simp [execOp, ho, resolve, hc, ha, hat, invoke, builtin, he, Builtin.len_, run_underlying' ht, goInt], .keep hM hE hk (.d (.i .i64 fun _ => ((y ()).size : Int)))⟩
  · exact hk.elim

theorem p_mm (hM : Mem c σ.rows w S ρ F E) (hE : EnvOK c σ.env a.tmps w S ρ E) {cl : Call} {ox oy : Operand} {mx : Bool} (ho : ro.op = .call cl) (hc : cl.callee = .builtin (if mx then .max else .min)) (ha : cl.args = #[ox, oy])
    {x y : X} (hx : xOf ox = some x) (hy : xOf oy = some y) (hk : step T (.mm mx x y) σ K) : PRes P T c σ.rows F K ro a w := by
  simp only [step] at hk
  split at hk
  · rename_i k m k' n hm hn
    cases h1 : decide (k = k') with
    | false => rw [h1] at hk; exact hk.elim
    | true =>
      rw [h1] at hk; simp only [cond_true] at hk
      obtain rfl : k = k' := by simpa using h1
      have ex := (ev_sound hE hx hm).i_inv
      have ey := (ev_sound hE hy hn).i_inv
      cases mx with
      | true =>
        have e : (if n () > m () then n () else m ()) = max (m ()) (n ()) := by simp only [Int.max_def]; split <;> split <;> omega
        refine ⟨.int k (max (m ()) (n ())), fun w' => ?_, .keep hM hE hk (.d (.i k fun _ => bif true then max (m ()) (n ()) else min (m ()) (n ())))⟩
        simp only [if_true] at hc
        rw [← e]
        simp [execOp, ho, resolve, hc, ha, invoke, builtin, ex, ey, Builtin.max_, Builtin.max2]
      | false =>
        have e : (if n () < m () then n () else m ()) = min (m ()) (n ()) := by simp only [Int.min_def]; split <;> split <;> omega
        refine ⟨.int k (min (m ()) (n ())), fun w' => ?_, .keep hM hE hk (.d (.i k fun _ => bif false then max (m ()) (n ()) else min (m ()) (n ())))⟩
        simp only [Bool.false_eq_true, if_false] at hc
        rw [← e]
        simp [execOp, ho, resolve, hc, ha, invoke, builtin, ex, ey, Builtin.min_, Builtin.min2]
  · exact hk.elim

theorem p_mkf (hM : Mem c σ.rows w S ρ F E) (hE : EnvOK c σ.env a.tmps w S ρ E) {f : FuncId} {caps : Array Operand} (ho : ro.op = .makeFunc (.func f) #[] caps) {xs : List X} (hx : xsOf' caps.toList = some xs)
    (hk : step T (.mkf f xs) σ K) : PRes P T c σ.rows F K ro a w := by
  simp only [step] at hk
  split at hk
  · rename_i vs hv
    obtain ⟨h1, h2⟩ := evs_sound hE hx hv
    refine ⟨.func (.func f) #[] (caps.map a.eval), fun w' => by simp [execOp, ho, Instr.makeFunc], .keep hM hE hk (.fn _ (by simpa using h1) fun j v hj => ?_)⟩
    have := h2 j v hj
    simpa [Array.getD_eq_getD_getElem?] using this
  · exact hk.elim

theorem p_mki (hM : Mem c σ.rows w S ρ F E) (hE : EnvOK c σ.env a.tmps w S ρ E) {t : TypeId} {x : Operand} (ho : ro.op = .makeInterface t x) (hr : ∃ v, ∀ w', (Instr.makeInterface t (a.eval x)).run P w' = .ok v w')
    (hk : step T .mki σ K) : PRes P T c σ.rows F K ro a w := by
  obtain ⟨v, hv⟩ := hr
  exact ⟨v, fun w' => by simp [execOp, ho, hv], .keep hM hE hk (.any v)⟩

theorem p_eqn (hM : Mem c σ.rows w S ρ F E) (hE : EnvOK c σ.env a.tmps w S ρ E) {t yt : TypeId} {ox oy : Operand} {neg : Bool} (ho : ro.op = .binOp (if neg then .neq else .eql) t ox oy yt) {e : TypeId} (ht : P.underlying t = some (.slice e))
    (hy : a.eval oy = .slice none 0 0) {x : X} (hx : xOf ox = some x) (hk : step T (.eqn neg x) σ K) : PRes P T c σ.rows F K ro a w := by
  have hg : ∀ (op : BinOp) (ad : Option Addr) (n cap : Nat) (w' : World), (eqGuard op t ox oy (.slice ad n cap) (.slice none 0 0)).run P w' = .ok () w' := fun op ad n cap w' => by unfold eqGuard; split <;> simp
  have hq : ∀ (ad : Option Addr) (n cap : Nat) (w' : World), (Op.equal t (.slice ad n cap) (.slice none 0 0)).run P w' = .ok ad.isNone w' := fun ad n cap w' => by
    show (Op.equalIn (9999 + 1) t (.slice ad n cap) (.slice none 0 0)).run P w' = _
    rw [Op.equalIn.eq_2]
    simp only [Sem.run_bind, run_underlying' ht, Result.andThen_ok]
    cases ad <;> rfl
  have run : ∀ ad n cap, a.eval ox = .slice ad n cap → Pure P ro a (.bool (bif neg then !ad.isNone else ad.isNone)) := fun ad n cap hv w' => by
    have e1 : binOp .eql t (.slice ad n cap) (.slice none 0 0) = (do pure (.bool (← Op.equal t (.slice ad n cap) (.slice none 0 0)))) := rfl
    have e2 : binOp .neq t (.slice ad n cap) (.slice none 0 0) = (do pure (.bool (!(← Op.equal t (.slice ad n cap) (.slice none 0 0))))) := rfl
    cases neg with
    | false => simp [execOp, ho, hv, hy, hg, e1, hq]
    | true => simp [execOp, ho, hv, hy, hg, e2, hq]
  simp only [step] at hk
  split at hk
  · rename_i v hv
    have hvv := ev_sound hE hx hv
    cases hb : nilD v with
    | true =>
      rw [hb] at hk; simp only [cond_true] at hk
      unfold nilD at hb
      split at hb
      · generalize he : a.eval ox = val at hvv
        cases hvv with
        | d h => cases h with | v => exact ⟨_, run none 0 0 he, .keep hM hE hk (by cases neg <;> exact .d (.b (.lit _)))⟩
      · cases hb
    | false =>
      rw [hb] at hk; simp only [cond_false] at hk
      split at hk
      · rename_i α esz cells d0 xs
        obtain ⟨hne, hk⟩ := hk
        generalize he : a.eval ox = val at hvv
        cases hvv with
        | d h =>
          obtain ⟨ad, cap, rfl, hn⟩ := h.len
          have := hn hne.h
          have hisn : ad.isNone = false := by cases ad with | none => exact absurd rfl this | some _ => rfl
          have hr := run ad _ cap he
          rw [hisn] at hr
          exact ⟨_, hr, .keep hM hE hk (by cases neg <;> exact .d (.b (.lit _)))⟩
      · exact hk.elim
  · rename_i r hv
    have hvv := ev_sound hE hx hv
    split at hk
    · rename_i s xs hr
      obtain ⟨hne, hk⟩ := hk
      have hro := hM.row r _ hr
      generalize he : a.eval ox = val at hvv
      cases hvv with
      | own r =>
        obtain ⟨ad, cap, hq', hn⟩ := hro.len
        rw [hq'] at he
        have := hn hne.h
        have hisn : ad.isNone = false := by cases ad with | none => exact absurd rfl this | some _ => rfl
        have hr := run ad _ cap he
        rw [hisn] at hr
        exact ⟨_, hr, .keep hM hE hk (by cases neg <;> exact .d (.b (.lit _)))⟩
    · exact hk.elim
  · exact hk.elim
/-! ### structs compared -/

theorem part_one {t : TypeId} {d : TypeDesc} (ht : P.underlying t = some d) (h1 : ∀ fs, d ≠ .struct fs) (h2 : ∀ n e, d ≠ .array n e) {vs : Array Value} {o : Nat} (ho : o < vs.size) (w' : World) : (part t vs o).run P w' = .ok (vs.getD o undef) w' := by
  have hna : (isAgg t).run P w' = .ok false w' := by
    simp only [isAgg, Sem.run_bind, run_underlying' ht, Result.andThen_ok]
    cases d <;> first
      | rfl
      | exact absurd rfl (h1 _)
      | exact absurd rfl (h2 _ _)
  simp [part, hna, ho]

theorem run_eqFields (n : Nat) {xs ys : Array Value} {cs ds : List D} (hxs : xs.size = cs.length) (hx : ∀ j d, cs[j]? = some d → RD w S (xs.getD j undef) d) (hys : ys.size = ds.length)
    (hy : ∀ j d, ds[j]? = some d → RD w S (ys.getD j undef) d) : ∀ (fs : List Field) (offs : List (Nat × Bool)) (e : Th Bool), eqFields P fs = some offs → eqFs offs cs ds = some e → ∀ w', (Op.eqFields (n + 1) xs ys fs).run P w' = .ok (e ()) w'
  | [], offs, e, ho, he, w' => by simp only [eqFields, Option.some.injEq] at ho; subst ho; simp only [eqFs, Option.some.injEq] at he; subst he; rfl
  | f :: fs, offs, e, ho, he, w' => by
    unfold eqFields at ho
    cases hn : (f.name == "_") with
    | true => rw [hn] at ho; cases ho
    | false =>
      rw [hn] at ho; simp only [cond_false] at ho
      have hne : f.name ≠ "_" := by simpa using hn
      have main : ∀ m q (d : TypeDesc), P.underlying f.type = some d → (∀ fs, d ≠ .struct fs) → (∀ n e, d ≠ .array n e) → eqFields P fs = some m → offs = (f.offset, q) :: m →
          (∀ u v x y r, RD w S u x → RD w S v y → eqD q x y = some r → ∀ w', (Op.equalIn (n + 1) f.type u v).run P w' = .ok (r ()) w') → (Op.eqFields (n + 1) xs ys (f :: fs)).run P w' = .ok (e ()) w' := by
        intro m q d ht h1 h2 hm ho heq
        subst ho
        unfold eqFs at he
        rw [nth_get, nth_get] at he
        split at he
        · rename_i x y r hx' hy' hr
          split at he
          · rename_i z hq
            simp only [Option.some.injEq] at he; subst he
            have hlx : f.offset < xs.size := by rw [hxs]; exact (List.getElem?_eq_some_iff.1 hx').1
            have hly : f.offset < ys.size := by rw [hys]; exact (List.getElem?_eq_some_iff.1 hy').1
            have ih := run_eqFields n hxs hx hys hy fs m r hm hr
            simp only [Op.eqFields, if_pos hne, Sem.run_bind, part_one ht h1 h2 hlx, part_one ht h1 h2 hly, Result.andThen_ok, heq _ _ x y z (hx _ _ hx') (hy _ _ hy') hq]
            cases hq1 : z () with
            | true => simp [ih]
            | false => simp
          · cases he
        · cases he
      split at ho
      · rename_i k m ht hm
        simp only [Option.some.injEq] at ho
        refine main m true _ ht (by simp) (by simp) hm ho.symm ?_
        intro u v x y r hu hv hr w'
        unfold eqD at hr
        split at hr
        · rename_i k1 a1 k2 a2 _
          cases hk : decide (k1 = k2) with
          | false => rw [hk] at hr; cases hr
          | true =>
            rw [hk] at hr; simp only [cond_true, Option.some.injEq] at hr; subst hr
            obtain rfl : k1 = k2 := by simpa using hk
            cases hu; cases hv
            rw [Op.equalIn.eq_2]
            simp only [Sem.run_bind, run_underlying' ht, Result.andThen_ok, if_true, Sem.run_pure]
            rfl
        · rename_i h; cases h
        · cases hr
      · rename_i m ht hm
        simp only [Option.some.injEq] at ho
        refine main m false _ ht (by simp) (by simp) hm ho.symm ?_
        intro u v x y r hu hv hr w'
        unfold eqD at hr
        split at hr
        · rename_i h; cases h
        · cases hu; cases hv
          simp only [Option.some.injEq] at hr; subst hr
          rw [Op.equalIn.eq_2]
          simp only [Sem.run_bind, run_underlying' ht, Result.andThen_ok, Sem.run_pure]
        · cases hr
      · cases ho

theorem p_eqa (hM : Mem c σ.rows w S ρ F E) (hE : EnvOK c σ.env a.tmps w S ρ E) {t yt : TypeId} {ox oy : Operand} {neg : Bool} (ho : ro.op = .binOp (if neg then .neq else .eql) t ox oy yt) {fs : Array Field}
    (ht : P.underlying t = some (.struct fs)) (hp : P.stoodInHeld t = false) (hg : P.eqGuardType P.depth t = false) {offs : List (Nat × Bool)} (hf : eqFields P fs.toList = some offs) {x y : X}
    (hx : xOf ox = some x) (hy : xOf oy = some y) (hk : step T (.eqa neg offs x y) σ K) : PRes P T c σ.rows F K ro a w := by
  simp only [step] at hk
  split at hk
  · rename_i cs ds hm hn
    split at hk
    · rename_i e he
      have hxv := ev_sound hE hx hm
      have hyv := ev_sound hE hy hn
      generalize hex : a.eval ox = vx at hxv
      generalize hey : a.eval oy = vy at hyv
      cases hxv with
      | d hxv => cases hxv with
        | agg xs h1 h2 => cases hyv with
          | d hyv => cases hyv with
            | agg ys h3 h4 =>
              have hF : P.fieldsOf t = fs := by simp [Program.fieldsOf, ht]
              have run : ∀ w', (Op.equalIn 10000 t (.agg xs) (.agg ys)).run P w' = .ok (e ()) w' := fun w' => by
                have := run_equalIn_struct (P := P) w' 9999 t xs ys (by rw [hF]; exact ht) hp
                rw [show (10000 : Nat) = 9999 + 1 from rfl, this, hF]
                exact run_eqFields 9998 h1 h2 h3 h4 fs.toList offs e hf he w'
              cases neg with
              | false =>
                refine ⟨.bool (e ()), fun w' => ?_, .keep hM hE hk (.d (.b (.dyn fun _ => bif false then !e () else e ())))⟩
                simp only [Bool.false_eq_true, if_false] at ho
                simp [execOp, ho, hex, hey, run_eqGuard_agg w' .eql t ox oy xs ys hg, run_eql_struct, run]
              | true =>
                refine ⟨.bool (!e ()), fun w' => ?_, .keep hM hE hk (.d (.b (.dyn fun _ => bif true then !e () else e ())))⟩
                simp only [if_true] at ho
                simp [execOp, ho, hex, hey, run_eqGuard_agg w' .neq t ox oy xs ys hg, run_neq_struct, run]
    · exact hk.elim
  · exact hk.elim

/-! ### arrays compared -/

theorem run_eqArr (n : Nat) {e : TypeId} {d : TypeDesc} {q : Bool} (ht : P.underlying e = some d) (hd : (q = true ∧ ∃ k, d = .int k) ∨ (q = false ∧ d = .bool)) (hc : P.cellsOf e = 1) {xs ys : Array Value} {cs ds : List D} (hxs : xs.size = cs.length) (hx : ∀ j d, cs[j]? = some d → RD w S (xs.getD j undef) d) (hys : ys.size = ds.length)
    (hy : ∀ j d, ds[j]? = some d → RD w S (ys.getD j undef) d) : ∀ (is : List Nat) (r : Th Bool), eqFs (is.map fun i => (i, q)) cs ds = some r → ∀ w', (Op.eqItems (n + 1) e (P.cellsOf e) xs ys is).run P w' = .ok (r ()) w'
  | [], r, he, w' => by simp only [List.map_nil, eqFs, Option.some.injEq] at he; subst he; rfl
  | i :: is, r, he, w' => by
    simp only [List.map_cons, eqFs] at he
    rw [nth_get, nth_get] at he
    split at he
    · rename_i x y r' hx' hy' hr
      split at he
      · rename_i z hq
        simp only [Option.some.injEq] at he; subst he
        have hlx : i < xs.size := by rw [hxs]; exact (List.getElem?_eq_some_iff.1 hx').1
        have hly : i < ys.size := by rw [hys]; exact (List.getElem?_eq_some_iff.1 hy').1
        have ih := run_eqArr n ht hd hc hxs hx hys hy is r' hr
        have h1 : ∀ fs, d ≠ .struct fs := fun fs e => by rcases hd with ⟨_, k, h⟩ | ⟨_, h⟩ <;> rw [h] at e <;> cases e
        have h2 : ∀ n e, d ≠ .array n e := fun n e' e => by rcases hd with ⟨_, k, h⟩ | ⟨_, h⟩ <;> rw [h] at e <;> cases e
        have heq : (Op.equalIn (n + 1) e (xs.getD i undef) (ys.getD i undef)).run P w' = .ok (z ()) w' := by
          have hu := hx _ _ hx'
          have hv := hy _ _ hy'
          generalize xs.getD i undef = u at hu
          generalize ys.getD i undef = v at hv
          rcases hd with ⟨rfl, k, rfl⟩ | ⟨rfl, rfl⟩
          · unfold eqD at hq
            split at hq
            · rename_i k1 a1 k2 a2 _
              cases hk : decide (k1 = k2) with
              | false => rw [hk] at hq; cases hq
              | true =>
                rw [hk] at hq; simp only [cond_true, Option.some.injEq] at hq; subst hq
                obtain rfl : k1 = k2 := by simpa using hk
                cases hu; cases hv
                rw [Op.equalIn.eq_2]
                simp only [Sem.run_bind, run_underlying' ht, Result.andThen_ok, if_true, Sem.run_pure]
                rfl
            · rename_i h; cases h
            · cases hq
          · unfold eqD at hq
            split at hq
            · rename_i h; cases h
            · cases hu; cases hv
              simp only [Option.some.injEq] at hq; subst hq
              rw [Op.equalIn.eq_2]
              simp only [Sem.run_bind, run_underlying' ht, Result.andThen_ok, Sem.run_pure]
            · cases hq
        simp only [hc] at ih ⊢
        simp only [Op.eqItems, Nat.mul_one, Sem.run_bind, part_one ht h1 h2 hlx, part_one ht h1 h2 hly, Result.andThen_ok, heq]
        cases hq1 : z () with
        | true => simp [ih]
        | false => simp
      · cases he
    · cases he

theorem p_eqr (hM : Mem c σ.rows w S ρ F E) (hE : EnvOK c σ.env a.tmps w S ρ E) {t yt e : TypeId} {ox oy : Operand} {neg : Bool} (ho : ro.op = .binOp (if neg then .neq else .eql) t ox oy yt) {n : Nat} {i : TypeInfo}
    (ht : P.underlying t = some (.array n e)) (hi : P.info? e = some i) (h1 : i.size = 1) (hg : P.eqGuardType P.depth t = false) {d : TypeDesc} {q : Bool} (hu : P.underlying e = some d) (hd : (q = true ∧ ∃ k, d = .int k) ∨ (q = false ∧ d = .bool)) {x y : X}
    (hx : xOf ox = some x) (hy : xOf oy = some y) (hk : step T (.eqa neg ((List.range n).map fun i => (i, q)) x y) σ K) : PRes P T c σ.rows F K ro a w := by
  have hc : P.cellsOf e = 1 := by simp [Program.cellsOf, hi, h1]
  simp only [step] at hk
  split at hk
  · rename_i cs ds hm hn
    split at hk
    · rename_i r he
      have hxv := ev_sound hE hx hm
      have hyv := ev_sound hE hy hn
      generalize hex : a.eval ox = vx at hxv
      generalize hey : a.eval oy = vy at hyv
      cases hxv with
      | d hxv => cases hxv with
        | agg xs h1 h2 => cases hyv with
          | d hyv => cases hyv with
            | agg ys h3 h4 =>
              have run : ∀ w', (Op.equalIn 10000 t (.agg xs) (.agg ys)).run P w' = .ok (r ()) w' := fun w' => by
                rw [show (10000 : Nat) = 9999 + 1 from rfl, run_equalIn_array (P := P) (w := w') 9999 xs ys ht hi]
                exact run_eqArr 9998 hu hd hc h1 h2 h3 h4 (List.range n) r he w'
              cases neg with
              | false =>
                refine ⟨.bool (r ()), fun w' => ?_, .keep hM hE hk (.d (.b (.dyn fun _ => bif false then !r () else r ())))⟩
                simp only [Bool.false_eq_true, if_false] at ho
                simp [execOp, ho, hex, hey, run_eqGuard_agg w' .eql t ox oy xs ys hg, run_eql_struct, run]
              | true =>
                refine ⟨.bool (!r ()), fun w' => ?_, .keep hM hE hk (.d (.b (.dyn fun _ => bif true then !r () else r ())))⟩
                simp only [if_true] at ho
                simp [execOp, ho, hex, hey, run_eqGuard_agg w' .neq t ox oy xs ys hg, run_neq_struct, run]
    · exact hk.elim
  · exact hk.elim

/-! ### slices cut -/

theorem bnd_sound (hE : EnvOK c σ.env a.tmps w S ρ E) {o : Option Operand} {x : Option X} (hx : o.bind xOf = x) (ho : o.isSome = x.isSome) {d : Th Int} {K' : Th Int → Prop} (hk : step.bnd σ x d K') :
    ∃ n : Th Int, K' n ∧ ((o = none ∧ n = d) ∨ ∃ p k, o = some p ∧ a.eval p = .int k (n ())) := by
  cases o with
  | none => simp only [Option.bind_none] at hx; subst hx; exact ⟨d, hk, .inl ⟨rfl, rfl⟩⟩
  | some p =>
    cases x with
    | none => simp at ho
    | some y =>
      simp only [Option.bind_some] at hx
      simp only [step.bnd] at hk
      split at hk
      · rename_i k n hv
        exact ⟨n, hk, .inr ⟨p, k, rfl, (ev_sound hE hx hv).i_inv⟩⟩
      · exact hk.elim

theorem RD.slc {v : Value} {α : Type} {esz : Nat} {cells : Th α → List D} {d0 : α} {xs : Th (List α)} (h : RD w S v (.sl esz cells d0 xs)) {l m : Nat} (hl : l ≤ m) (hm : m ≤ (xs ()).length) :
    ∃ ad n cap, v = .slice ad n cap ∧ m ≤ cap ∧ n = (xs ()).length ∧ RD w S (.slice (if cap = l then ad else ad.map (·.add (l * esz))) (m - l) (cap - l)) (.sl esz cells d0 (fun _ => ((xs ()).drop l).take (m - l))) := by
  cases h with
  | nilsl ad cap h =>
    rw [h] at hm
    simp only [List.length_nil, Nat.le_zero] at hm
    subst hm
    obtain rfl : l = 0 := by omega
    exact ⟨ad, 0, cap, rfl, Nat.zero_le _, by rw [h]; rfl, .nilsl _ _ (by simp)⟩
  | sl b off n cap us hb hn hlen hcell hrd hc =>
    refine ⟨some ⟨b, off, none⟩, n, cap, rfl, by omega, hn, ?_⟩
    by_cases hz : m - l = 0
    · rw [hz]; exact .nilsl _ _ (by simp)
    · rw [if_neg (by omega)]
      simp only [Option.map_some, add_plain]
      refine .sl b _ _ _ (fun i => us (l * esz + i)) hb (by simp; omega) ?_ ?_ ?_ (by omega)
      · intro x hx
        exact hlen x (List.mem_of_mem_drop (List.mem_of_mem_take hx))
      · intro i hi
        rw [Nat.add_assoc]
        refine hcell _ ?_
        have : l * esz + i < l * esz + (m - l) * esz := by omega
        rw [← Nat.add_mul] at this
        exact Nat.lt_of_lt_of_le this (Nat.mul_le_mul_right _ (by omega))
      · intro i j d hi hd
        have e : (((xs ()).drop l).take (m - l)).getD i d0 = (xs ()).getD (l + i) d0 := by
          simp only [List.getD_eq_getElem?_getD, List.getElem?_take, List.getElem?_drop]
          rw [if_pos hi]
        simp only [e] at hd
        have := hrd (l + i) j d (by omega) hd
        rw [Nat.add_mul, Nat.add_assoc] at this
        exact this

theorem p_slc (hM : Mem c σ.rows w S ρ F E) (hE : EnvOK c σ.env a.tmps w S ρ E) {t : TypeId} {ox : Operand} {olo ohi : Option Operand} (ho : ro.op = .slice t ox olo ohi none) {e : TypeId} (ht : P.underlying t = some (.slice e))
    {i : TypeInfo} (hi : P.info? e = some i) {x : X} (hx : xOf ox = some x) {lo hi' : Option X} (h1 : olo.bind xOf = lo) (h1' : olo.isSome = lo.isSome) (h2 : ohi.bind xOf = hi') (h2' : ohi.isSome = hi'.isSome)
    (hk : step T (.slc i.size x lo hi') σ K) : PRes P T c σ.rows F K ro a w := by
  simp only [step] at hk
  split at hk
  · rename_i α esz cells d0 xs hv
    cases hb : Nat.beq esz i.size with
    | false => rw [hb] at hk; exact hk.elim
    | true =>
      rw [hb] at hk; simp only [cond_true] at hk
      have hsz := beq_iff.1 hb
      obtain ⟨l, hk, hl⟩ := bnd_sound hE h1 h1' hk
      obtain ⟨h, hk, hh⟩ := bnd_sound hE h2 h2' hk
      obtain ⟨⟨hs⟩, hk⟩ := hk
      obtain ⟨hl0, hlh, hhn⟩ := hs
      have hvv := ev_sound hE hx hv
      generalize he : a.eval ox = val at hvv
      cases hvv with
      | d hvv =>
        obtain ⟨ad, n, cap, rfl, hmc, hn, hrd⟩ := hvv.slc (l := (l ()).toNat) (m := (h ()).toNat) (by omega) (by omega)
        subst hsz
        have hsub : (h ()).toNat - (l ()).toNat = (h () - l ()).toNat := by omega
        rw [hsub] at hrd
        refine ⟨_, fun w' => ?_, .keep hM hE hk (.d hrd)⟩
        have hh' : (h ()).toNat ≤ cap := hmc
        have hnl : ¬ ((xs ()).length : Int) < 0 := by omega
        rcases hl with ⟨rfl, rfl⟩ | ⟨p, k, rfl, hp⟩ <;> rcases hh with ⟨rfl, rfl⟩ | ⟨q, k', rfl, hq⟩
        · have e1 : cap - (cap - cap) = cap := by omega
          simp [execOp, ho, he, Instr.sliceAt, run_underlying' ht, Instr.slice, Instr.sliceBounds, run_sizeOf hi, hn]
        · have c1 : (0 : Int) ≤ h () ∧ h () ≤ (cap : Int) := by omega
          simp [execOp, ho, he, Instr.sliceAt, run_underlying' ht, Instr.slice, Instr.sliceBounds, run_sizeOf hi, Instr.sliceBound, hq, asIntOf, c1]
        · have c1 : (0 : Int) ≤ l () ∧ l () ≤ (n : Int) := by omega
          have c2 : (((xs ()).length : Int) - l ()).toNat = n - (l ()).toNat := by omega
          simp [execOp, ho, he, Instr.sliceAt, run_underlying' ht, Instr.slice, Instr.sliceBounds, run_sizeOf hi, Instr.sliceBound, hp, asIntOf, c1, c2]
        · have c1 : (0 : Int) ≤ h () ∧ h () ≤ (cap : Int) := by omega
          have c2 : (0 : Int) ≤ l () ∧ l () ≤ ((h ()).toNat : Int) := by omega
          have c3 : (h () - l ()).toNat = (h ()).toNat - (l ()).toNat := by omega
          simp only [execOp, ho, he, Instr.sliceAt, Sem.run_bind, run_underlying' ht, Result.andThen_ok, Instr.slice, Instr.sliceBounds, Option.map_some, Option.map_none, Sem.run_pure, Instr.sliceBound, hp, hq, asIntOf, Option.isSome_none, Bool.false_eq_true, if_false, if_true, Sem.run_ite, run_sizeOf hi]
          rw [if_pos c1]
          simp only [Result.andThen_ok, Sem.run_pure]
          rw [if_pos c2]
          simp [c3]
  · exact hk.elim
end
end Go.Eng

/- The engine, part 6: the operations that read and make memory. -/
namespace Go.Eng

/-- Cells that read as data. -/
structure CRD (w : World) (S : Nat → Prop) (us : Array Value) (ds : List D) : Prop where
  size : us.size = ds.length
  rd : ∀ j d, ds[j]? = some d → RD w S (us.getD j undef) d

theorem CRD.mono {w w' : World} {S S' : Nat → Prop} {us : Array Value} {ds : List D} (h : CRD w S us ds) (hS : ∀ b, S b → S' b) (hw : ∀ b, S b → w'.heap[b]? = w.heap[b]?) : CRD w' S' us ds :=
  ⟨h.size, fun j d hd => (h.rd j d hd).mono hS hw⟩

theorem one_cell {w : World} {S : Nat → Prop} {v : Value} {d : D} (h : RD w S v d) (ho : d.one = true) : v.oneCell' = true ∧ v.cells = #[v] := by
  cases h with
  | v =>
    unfold D.one at ho
    cases v <;> first
      | exact ⟨rfl, rfl⟩
      | simp at ho
  | agg => simp [D.one] at ho
  | _ => exact ⟨rfl, rfl⟩

theorem ones_mem : ∀ {l : List D}, ones l = true → ∀ d ∈ l, d.one = true
  | [], _, _, h => by cases h
  | x :: l, ho, d, h => by
    unfold ones at ho
    cases hx : x.one with
    | false => rw [hx] at ho; cases ho
    | true =>
      rw [hx] at ho; simp only [cond_true] at ho
      rcases List.mem_cons.1 h with rfl | h
      · exact hx
      · exact ones_mem ho d h

theorem nrm_rd {w : World} {S : Nat → Prop} {v : Value} {d : D} (h : RD w S v d) : RD w S v d.nrm := by
  unfold D.nrm
  split
  · rename_i b
    cases h with
    | b => exact .b (.dyn fun _ => b)
  · exact h
theorem nrmL_get : ∀ {l : List D} {j : Nat} {d : D}, (nrmL l)[j]? = some d → ∃ x, l[j]? = some x ∧ d = x.nrm
  | [], j, d, h => by simp [nrmL] at h
  | x :: l, 0, d, h => by simp only [nrmL, List.getElem?_cons_zero, Option.some.injEq] at h; exact ⟨x, rfl, h.symm⟩
  | x :: l, j + 1, d, h => by simp only [nrmL, List.getElem?_cons_succ] at h; obtain ⟨y, h1, h2⟩ := nrmL_get h; exact ⟨y, by simpa using h1, h2⟩
theorem nrmL_len : ∀ (l : List D), (nrmL l).length = l.length
  | [] => rfl
  | x :: l => by simp [nrmL, nrmL_len l]

theorem parts_sound {w : World} {S : Nat → Prop} {v : Value} {d : D} (h : RD w S v d) (ho : ones d.parts = true) : CRD w S v.cells d.parts ∧ ∀ u ∈ v.cells.toList, u.oneCell' = true := by
  have single : d.parts = [d.nrm] → CRD w S v.cells d.parts ∧ ∀ u ∈ v.cells.toList, u.oneCell' = true := fun hp => by
    have h1 : d.nrm.one = true := ones_mem ho d.nrm (by rw [hp]; exact List.mem_singleton.2 rfl)
    obtain ⟨h2, h3⟩ := one_cell (nrm_rd h) h1
    rw [hp, h3]
    refine ⟨⟨rfl, fun j x hj => ?_⟩, fun u hu => ?_⟩
    · cases j with
      | zero => simp only [List.getElem?_cons_zero, Option.some.injEq] at hj; subst hj; exact nrm_rd h
      | succ j => simp at hj
    · simp only [List.mem_singleton] at hu; subst hu; exact h2
  cases h with
  | @agg ds vs hs hrd =>
    have hget : ∀ (j : Nat) (d : D), (nrmL ds)[j]? = some d → RD w S (vs.getD j undef) d := fun j d hj => by
      obtain ⟨x, h1, rfl⟩ := nrmL_get hj
      exact nrm_rd (hrd j x h1)
    refine ⟨⟨by rw [show (D.agg ds).parts = nrmL ds from rfl, nrmL_len]; exact hs, hget⟩, fun u hu => ?_⟩
    obtain ⟨j, hj, rfl⟩ := List.getElem_of_mem hu
    have hj' : j < vs.size := by simpa [Value.cells] using hj
    have hl : j < (nrmL ds).length := by rw [nrmL_len]; exact hs ▸ hj'
    have hd := hget j _ (List.getElem?_eq_getElem hl)
    have := (one_cell hd (ones_mem ho _ (List.getElem_mem hl))).1
    simpa [Array.getD_eq_getD_getElem?, hj', Value.cells] using this
  | _ => exact single rfl

theorem over_eq : ∀ (l : List D) (off : Nat) (ys m : List D), over l off ys = some m → m = l.take off ++ ys ++ l.drop (off + ys.length) ∧ off + ys.length ≤ l.length
  | l, 0, [], m, h => by simp only [over, Option.some.injEq] at h; subst h; simp
  | [], 0, y :: ys, m, h => by simp [over] at h
  | x :: l, 0, y :: ys, m, h => by
    simp only [over] at h
    split at h
    · rename_i m' hm
      simp only [Option.some.injEq] at h; subst h
      obtain ⟨h1, h2⟩ := over_eq l 0 ys m' hm
      simp only [Nat.zero_add, List.take_zero, List.nil_append] at h1 h2
      refine ⟨?_, by simp; omega⟩
      rw [h1]; simp
    · cases h
  | [], n + 1, ys, m, h => by cases ys <;> simp [over] at h
  | x :: l, n + 1, ys, m, h => by
    simp only [over] at h
    split at h
    · rename_i m' hm
      simp only [Option.some.injEq] at h; subst h
      obtain ⟨h1, h2⟩ := over_eq l n ys m' hm
      refine ⟨?_, by simp; omega⟩
      rw [h1, show n + 1 + ys.length = (n + ys.length) + 1 by omega]; simp
    · cases h

/-- A part laid over cells. -/
theorem CRD.over {w : World} {S : Nat → Prop} {us ns : Array Value} {cs ds ms : List D} {off : Nat} (h : CRD w S us cs) (hn : CRD w S ns ds) (ho : Eng.over cs off ds = some ms) :
    ∀ vs : Array Value, vs.size = us.size → (∀ j, j < us.size → vs.getD j undef = if off ≤ j ∧ j < off + ns.size then ns.getD (j - off) undef else us.getD j undef) → CRD w S vs ms := by
  intro vs hv hg
  obtain ⟨h1, h2⟩ := over_eq _ _ _ _ ho
  subst h1
  have hs1 := h.size
  have hs2 := hn.size
  refine ⟨by simp [hv, h.size]; omega, fun j d hj => ?_⟩
  have hlt : j < us.size := by
    have := (List.getElem?_eq_some_iff.1 hj).1
    simp at this; omega
  rw [hg j hlt]
  by_cases c1 : j < off
  · rw [if_neg (by omega)]
    refine h.rd j d ?_
    rw [List.append_assoc, List.getElem?_append_left (by simp; omega), List.getElem?_take, if_pos c1] at hj
    exact hj
  · by_cases c2 : j < off + ns.size
    · rw [if_pos ⟨by omega, c2⟩]
      refine hn.rd _ d ?_
      rw [List.append_assoc, List.getElem?_append_right (by simp; omega), List.getElem?_append_left (by simp; omega)] at hj
      simp only [List.length_take] at hj
      rw [Nat.min_eq_left (by omega)] at hj
      exact hj
    · rw [if_neg (by omega)]
      refine h.rd j d ?_
      rw [List.getElem?_append_right (by simp; omega), List.getElem?_drop] at hj
      simp only [List.length_append, List.length_take] at hj
      rw [Nat.min_eq_left (by omega)] at hj
      rw [← hj]; congr 1; omega

theorem foldl_put_size (off : Nat) : ∀ (l : List (Value × Nat)) (cs : Array Value), (l.foldl (fun cs (p : Value × Nat) => cs.setIfInBounds (off + p.2) p.1) cs).size = cs.size
  | [], _ => rfl
  | p :: l, cs => by simp only [List.foldl_cons]; rw [foldl_put_size off l]; simp
theorem foldl_put_get (off : Nat) : ∀ (vs : List Value) (k : Nat) (cs : Array Value) (j : Nat), j < cs.size →
    ((vs.zipIdx k).foldl (fun cs (p : Value × Nat) => cs.setIfInBounds (off + p.2) p.1) cs).getD j undef = if off + k ≤ j ∧ j < off + k + vs.length then vs.getD (j - (off + k)) undef else cs.getD j undef
  | [], k, cs, j, hj => by rw [if_neg (by simp only [List.length_nil]; omega)]; rfl
  | v :: vs, k, cs, j, hj => by
    simp only [List.zipIdx_cons, List.foldl_cons]
    rw [foldl_put_get off vs (k + 1) _ j (by simpa using hj)]
    simp only [List.length_cons]
    by_cases c1 : off + (k + 1) ≤ j ∧ j < off + (k + 1) + vs.length
    · rw [if_pos c1, if_pos ⟨by omega, by omega⟩]
      rw [show j - (off + k) = (j - (off + (k + 1))) + 1 by omega]; simp
    · rw [if_neg c1]
      by_cases c2 : j = off + k
      · subst c2
        rw [if_pos ⟨Nat.le_refl _, by omega⟩]
        simp [Array.getD_eq_getD_getElem?, hj]
      · rw [if_neg (by omega)]
        simp [Array.getD_eq_getD_getElem?, Array.getElem?_setIfInBounds_ne (fun e => c2 e.symm : off + k ≠ j)]

theorem fill_step {w : World} {S : Nat → Prop} {us : Array Value} {cs ms : List D} (h : CRD w S us cs) {v : Value} {d : D} (hv : RD w S v d) (ho : ones d.parts = true) {off : Nat} (hov : Eng.over cs off d.parts = some ms) :
    ¬ off + v.cells.size > us.size ∧ CRD w S (v.cells.zipIdx.foldl (fun cs (p : Value × Nat) => cs.setIfInBounds (off + p.2) p.1) us) ms := by
  obtain ⟨hp, _⟩ := parts_sound hv ho
  have hle := (over_eq _ _ _ _ hov).2
  refine ⟨by rw [hp.size, h.size]; omega, ?_⟩
  rw [← Array.foldl_toList, Array.toList_zipIdx]
  refine h.over hp hov _ (foldl_put_size _ _ _) fun j hj => ?_
  rw [foldl_put_get off _ 0 us j hj]
  simp only [Nat.add_zero, Array.length_toList]
  split
  · simp [Array.getD_eq_getD_getElem?, List.getD_eq_getElem?_getD]
  · rfl

section
variable {P : Program} {T : Tab} {c : Ctx} {σ : St} {ro : Oper} {a : Act} {w : World} {S : Nat → Prop} {ρ : Nat → Value} {F : Nat → Nat → Prop} {E : Nat → Nat}

/-- A value as data; S grows by what is frozen. -/
theorem asD_sound (hT : T.base = c.base) (hM : Mem c σ.rows w S ρ F E) (hE : EnvOK c σ.env a.tmps w S ρ E) {u : Value} {v : AV} (hv : VOK w S ρ E u v) {K : St → D → Prop} (hk : asD T σ v K) :
    ∃ σ' x S', K σ' x ∧ Mem c σ'.rows w S' ρ F E ∧ EnvOK c σ'.env a.tmps w S' ρ E ∧ RD w S' u x ∧ (∀ b, S b → S' b) ∧ ∀ q y, lkp σ'.rows q = some y → lkp σ.rows q = some y := by
  unfold asD at hk
  split at hk
  · rename_i x
    cases hv with
    | d h => exact ⟨σ, x, S, hk, hM, hE, h, fun _ h => h, fun _ _ h => h⟩
  · rename_i r
    cases hb : Nat.blt r T.base with
    | true => rw [hb] at hk; exact hk.elim
    | false =>
      rw [hb] at hk; simp only [cond_false] at hk
      split at hk
      · rename_i s xs hr
        have hbase : c.base ≤ r := by rw [← hT]; exact Nat.le_of_not_lt fun h => by have : Nat.blt r T.base = true := by { simpa [Nat.blt_eq] using h }; rw [this] at hb; cases hb
        cases hv with
        | own r =>
          obtain ⟨f1, f2, f3⟩ := freeze_sound hM hE hr hbase
          exact ⟨_, _, fun b => S b ∨ F r b, hk, f1, f2, f3, fun _ h => .inl h, fun q y hq => lkp_del_some hq⟩
      · exact hk.elim
  · exact hk.elim

theorem evD_sound (hT : T.base = c.base) (hM : Mem c σ.rows w S ρ F E) (hE : EnvOK c σ.env a.tmps w S ρ E) {o : Operand} {x : X} (hx : xOf o = some x) {K : St → D → Prop} (hk : evD T σ x K) :
    ∃ σ' d S', K σ' d ∧ Mem c σ'.rows w S' ρ F E ∧ EnvOK c σ'.env a.tmps w S' ρ E ∧ RD w S' (a.eval o) d ∧ (∀ b, S b → S' b) ∧ ∀ q y, lkp σ'.rows q = some y → lkp σ.rows q = some y := by
  unfold evD at hk
  split at hk
  · exact asD_sound hT hM hE (ev_sound hE hx (by assumption)) hk
  · exact hk.elim

theorem evDs_sound (hT : T.base = c.base) : ∀ {os : List Operand} {xs : List X} {σ : St} {S : Nat → Prop} {K : St → List D → Prop}, Mem c σ.rows w S ρ F E → EnvOK c σ.env a.tmps w S ρ E → xsOf' os = some xs → evDs T σ xs K →
    ∃ σ' ds S', K σ' ds ∧ Mem c σ'.rows w S' ρ F E ∧ EnvOK c σ'.env a.tmps w S' ρ E ∧ os.length = ds.length ∧ (∀ j d, ds[j]? = some d → RD w S' ((os.map a.eval).getD j undef) d) ∧ (∀ b, S b → S' b) ∧ ∀ q y, lkp σ'.rows q = some y → lkp σ.rows q = some y
  | [], xs, σ, S, K, hM, hE, hx, hk => by
    simp only [xsOf', Option.some.injEq] at hx; subst hx
    exact ⟨σ, [], S, hk, hM, hE, rfl, by simp, fun _ h => h, fun _ _ h => h⟩
  | o :: os, xs, σ, S, K, hM, hE, hx, hk => by
    simp only [xsOf'] at hx
    split at hx
    · rename_i y m hy hm
      simp only [Option.some.injEq] at hx; subst hx
      simp only [evDs] at hk
      obtain ⟨σ1, d, S1, hk, hM1, hE1, hd, hS1, hr1⟩ := evD_sound hT hM hE hy hk
      obtain ⟨σ2, ds, S2, hk, hM2, hE2, hl, hds, hS2, hr2⟩ := evDs_sound hT hM1 hE1 hm hk
      refine ⟨σ2, d :: ds, S2, hk, hM2, hE2, by simp [hl], fun j x hj => ?_, fun b hb => hS2 b (hS1 b hb), fun q y hq => hr1 q y (hr2 q y hq)⟩
      cases j with
      | zero => simp only [List.getElem?_cons_zero, Option.some.injEq] at hj; subst hj; simpa using hd.mono hS2 (fun _ _ => rfl)
      | succ j => simpa using hds j x (by simpa using hj)
    · cases hx

theorem partsAt_spec {pl : Nat → Option (Nat × Nat)} : ∀ {ps : List (Nat × Operand)} {l : List (Nat × Nat × X)}, partsAt pl ps = some l → xsOf' (ps.map (·.2)) = some (xsOf l)
  | [], l, h => by simp only [partsAt, Option.some.injEq] at h; subst h; rfl
  | (i, x) :: ps, l, h => by
    simp only [partsAt] at h
    split at h
    · rename_i o n y m h1 h2 h3
      simp only [Option.some.injEq] at h; subst h
      simp [xsOf', h2, partsAt_spec h3, xsOf]
    · cases h

theorem fill_sound {pl : Nat → Option (Nat × Nat)} : ∀ {ps : List (Nat × Operand)} {l : List (Nat × Nat × X)} {ds cs ms : List D} {us : Array Value}, partsAt pl ps = some l → ps.length = ds.length →
    (∀ j d, ds[j]? = some d → RD w S (((ps.map (·.2)).map a.eval).getD j undef) d) → CRD w S us cs → fillD cs (zip3 l ds) = some ms →
    ∃ vs, Instr.fill pl us (ps.map fun (i, x) => (i, a.eval x)) = some vs ∧ CRD w S vs ms
  | [], l, ds, cs, ms, us, hp, hl, _, hu, hf => by
    simp only [partsAt, Option.some.injEq] at hp; subst hp
    cases ds <;> simp at hl
    simp only [zip3, fillD, Option.some.injEq] at hf; subst hf
    exact ⟨us, rfl, hu⟩
  | (i, x) :: ps, l, ds, cs, ms, us, hp, hl, hd, hu, hf => by
    simp only [partsAt] at hp
    split at hp
    · rename_i o n y m h1 h2 h3
      simp only [Option.some.injEq] at hp; subst hp
      cases ds with
      | nil => simp at hl
      | cons d ds =>
        simp only [zip3, fillD] at hf
        cases hb : Nat.beq (len' d.parts) n with
        | false => rw [hb] at hf; cases hf
        | true =>
          rw [hb] at hf; simp only [cond_true] at hf
          cases ho : ones d.parts with
          | false => rw [ho] at hf; cases hf
          | true =>
            rw [ho] at hf; simp only [cond_true] at hf
            split at hf
            · rename_i m' hm
              have hx : RD w S (a.eval x) d := by have := hd 0 d rfl; simpa using this
              obtain ⟨g1, g2⟩ := fill_step hu hx ho hm
              have hsz : (a.eval x).cells.size = n := by rw [(parts_sound hx ho).1.size, ← len'_eq]; exact beq_iff.1 hb
              obtain ⟨vs, e1, e2⟩ := fill_sound h3 (by simpa using hl) (fun j d' hj => by have := hd (j + 1) d' (by simpa using hj); simpa using this) g2 hf
              refine ⟨vs, ?_, e2⟩
              simp only [List.map_cons, Instr.fill, h1]
              rw [if_neg (by simp only [Bool.or_eq_true, decide_eq_true_eq, not_or]; exact ⟨fun h => h hsz, g1⟩)]
              exact e1
            · cases hf
    · cases hp

theorem cvs_eq : ∀ l : List Value, cvs l = l.map cv
  | [] => rfl
  | _ :: l => by simp [cvs, cvs_eq l]
theorem cvs_crd (w : World) (S : Nat → Prop) (us : Array Value) : CRD w S us (cvs us.toList) := by
  refine ⟨by simp [cvs_eq], fun j d hj => ?_⟩
  rw [cvs_eq, List.getElem?_map] at hj
  cases hv : us.toList[j]? with
  | none => rw [hv] at hj; cases hj
  | some v =>
    rw [hv] at hj; simp only [Option.map_some, Option.some.injEq] at hj; subst hj
    have : us.getD j undef = v := by simp [Array.getD_eq_getD_getElem?, ← Array.getElem?_toList, hv]
    rw [this]; exact cv_rd _ _ _

theorem placesOf_eq : ∀ {fs : List Field} {pl : List (Nat × Nat)}, placesOf P fs = some pl → fs.mapM (fun f => (P.info? f.type).map fun i => (f.offset, i.size)) = some pl
  | [], pl, h => by simp only [placesOf, Option.some.injEq] at h; subst h; rfl
  | f :: fs, pl, h => by
    simp only [placesOf] at h
    split at h
    · rename_i i m h1 h2
      simp only [Option.some.injEq] at h; subst h
      simp [h1, placesOf_eq h2]
    · cases h

variable {K : St → AV → Prop}
theorem p_build (hT : T.base = c.base) (hM : Mem c σ.rows w S ρ F E) (hE : EnvOK c σ.env a.tmps w S ρ E) {t : TypeId} {ps : Array (Nat × Operand)} (ho : ro.op = .build t ps) {zs : List Value} {l : List (Nat × Nat × X)}
    {one : Bool} (hop : opOf P one (.build t ps) = some (.build zs l)) (hk : step T (.build zs l) σ K) : PRes P T c σ.rows F K ro a w := by
  have main : ∀ (z : Value) (pl : Nat → Option (Nat × Nat)), partsAt pl ps.toList = some l → zs = z.cells.toList →
      (∀ parts cells, Instr.fill pl z.cells parts = some cells → P.built t parts = some cells) → PRes P T c σ.rows F K ro a w := by
    intro z pl hp hz hb
    subst hz
    simp only [step] at hk
    obtain ⟨σ1, ds, S1, hk, hM1, hE1, hl, hds, _, hr1⟩ := evDs_sound hT hM hE (partsAt_spec hp) hk
    split at hk
    · rename_i m hm
      obtain ⟨vs, h1, h2⟩ := fill_sound (w := w) (S := S1) (a := a) hp (by simpa using hl) hds (cvs_crd w S1 z.cells) hm
      refine ⟨.agg vs, fun w' => ?_, σ1, _, S1, ρ, F, E, hk, hM1, hE1, .d (.agg vs h2.size h2.rd), .sub hr1⟩
      have := run_build (P := P) w' t (ps.map fun (i, x) => (i, a.eval x)) vs (hb _ _ (by simpa using h1))
      simp only [execOp, ho, Sem.run_bind, this, Result.andThen_ok, Sem.run_pure]
    · exact hk.elim
  simp only [opOf] at hop
  split at hop
  · rename_i fs i ht hi
    split at hop
    · rename_i z pl hz hpl
      split at hop
      · rename_i l' hl'
        simp only [Option.some.injEq, IOp.build.injEq] at hop
        obtain ⟨rfl, rfl⟩ := hop
        refine main z _ hl' rfl fun parts cells hf => ?_
        have e : (fun (k : Nat) => pl[k]?) = (fun (k : Nat) => pl.toArray[k]?) := by funext k; simp
        rw [e] at hf
        simp only [Program.built, hi, ht, hz, placesOf_eq hpl]
        exact hf
      · cases hop
    · cases hop
  · rename_i n e i ht hi
    split at hop
    · rename_i z ie hz hie
      split at hop
      · rename_i l' hl'
        simp only [Option.some.injEq, IOp.build.injEq] at hop
        obtain ⟨rfl, rfl⟩ := hop
        refine main z _ hl' rfl fun parts cells hf => ?_
        simp only [Program.built, hi, ht, hz, hie]
        exact hf
      · cases hop
    · cases hop
  · cases hop
end
end Go.Eng

/- The engine, part 7: loads, new rows, stores. -/
namespace Go.Eng

theorem top_le {β : Type 1} : ∀ {l : List (Nat × β)} {n : Nat}, top l ≤ n → lkp l n = none
  | l, n, h => by
    cases hl : lkp l n with
    | none => rfl
    | some v => exact absurd (lt_top (lkp_mem hl)) (Nat.not_lt.2 h)

theorem alloc_size (w : World) (o : Obj) : (w.alloc o).heap.size = w.heap.size + 1 := by
  show (w.heap.push o).size = _
  simp
theorem Ext.alloc (w : World) (o : Obj) (M : Nat → Prop) : Ext w (w.alloc o) M := ⟨rfl, rfl, rfl, by rw [alloc_size]; exact Nat.le_succ _, fun b hb _ => by
  show (w.heap.push o)[b]? = _
  rw [Array.getElem?_push, if_neg (Nat.ne_of_lt hb)]⟩

theorem alloc_new (w : World) (o : Obj) : (w.alloc o).heap[w.heap.size]? = some o := by
  show (w.heap.push o)[w.heap.size]? = some o
  simp

/-- The blocks that may be written. -/
def Mb (T : Tab) (rows : List (Nat × Row)) (F : Nat → Nat → Prop) (b : Nat) : Prop := ∃ r x, allowed T r = true ∧ lkp rows r = some x ∧ F r b

section
variable {P : Program} {T : Tab} {c : Ctx} {σ : St} {K : St → AV → Prop} {ro : Oper} {a : Act} {w : World} {S : Nat → Prop} {ρ : Nat → Value} {F : Nat → Nat → Prop} {E : Nat → Nat}

theorem add_sound (hT : T.base = c.base) (hM : Mem c σ.rows w S ρ F E) {t : Array Value} (hE : EnvOK c σ.env t w S ρ E) {w' : World} (hx : Ext w w' (fun _ => False)) (h0 : Ext c.w0 w c.Fp)
    {v : Value} {x : Row} {G : Nat → Prop} {e : Nat} (hrow : RowOK w' S G v x) (hG : ∀ b, G b → w.heap.size ≤ b ∧ b < w'.heap.size) (he : ∀ s xs, x = .sl s xs → e = s.esz) :
    Mem c (σ.add T x).rows w' S (upd ρ (σ.fresh T) v) (upd F (σ.fresh T) G) (upd E (σ.fresh T) e) ∧ EnvOK c (σ.add T x).env t w' S (upd ρ (σ.fresh T) v) (upd E (σ.fresh T) e) ∧
      From T σ.rows F w.heap.size (σ.add T x).rows (upd F (σ.fresh T) G) := by
  have hn : lkp σ.rows (σ.fresh T) = none := top_le (Nat.le_max_left _ _)
  refine ⟨hM.add hx h0 hn (by rw [← hT]; exact Nat.le_max_right _ _) hrow hG he, ?_, ?_⟩
  · have hsame := hx.same (S := S) hM.slt (fun _ _ h => h)
    have := (hE.mono (fun _ h => h) hsame).sub (env' := dropHits (σ.fresh T) σ.env) fun s u hm => (mem_dropHits hm).1
    exact this.upd (fun s u hm => (mem_dropHits hm).2) v e
  · intro q y b hq hb
    by_cases e : σ.fresh T = q
    · subst e; rw [upd_same] at hb; exact .inr (hG b hb).1
    · rw [upd_ne _ _ (Ne.symm e)] at hb
      have hq' : lkp σ.rows q = some y := by
        have : lkp ((σ.fresh T, x) :: σ.rows) q = some y := hq
        rwa [lkp_cons_ne _ _ e] at this
      exact .inl ⟨q, y, hq', hb, id⟩

/-- The operation gives a value. -/
def GRes (P : Program) (T : Tab) (c : Ctx) (rows : List (Nat × Row)) (F : Nat → Nat → Prop) (K : St → AV → Prop) (ro : Oper) (a : Act) (w : World) : Prop :=
  ∃ v w', ((execOp a.eval ro).run P w = .ok (.value v) w' ∨ ((execOp a.eval ro).run P w = .ok .skip w' ∧ v = undef)) ∧ Ext w w' (Mb T rows F) ∧ OutG T c rows F w.heap.size K a.tmps w' v

theorem PRes.gres (h : PRes P T c σ.rows F K ro a w) : GRes P T c σ.rows F K ro a w := by
  obtain ⟨v, h1, h2⟩ := h
  exact ⟨v, w, .inl (h1 w), .refl _ _, h2⟩

theorem g_alloc (hT : T.base = c.base) (hM : Mem c σ.rows w S ρ F E) (hE : EnvOK c σ.env a.tmps w S ρ E) (h0 : Ext c.w0 w c.Fp) {t : TypeId} (ho : ro.op = .alloc t) {i : TypeInfo} (hi : P.info? t = some i) {z : Value}
    (hz : i.zero = some z) (hk : step T (.alloc z.cells.toList) σ K) : GRes P T c σ.rows F K ro a w := by
  simp only [step] at hk
  have hrow : RowOK (w.alloc (.cells z.cells t)) S (fun b => b = w.heap.size) (.pointer (some ⟨w.heap.size, 0, none⟩)) (.box (cvs z.cells.toList)) :=
    .box w.heap.size t z.cells (alloc_new w _) (cvs_crd w S z.cells).size fun j d hd => (cvs_crd _ S z.cells).rd j d hd
  obtain ⟨h1, h2, h3⟩ := add_sound hT hM hE (Ext.alloc w _ _) h0 hrow (fun b hb => by subst hb; exact ⟨Nat.le_refl _, by rw [alloc_size]; exact Nat.lt_succ_self _⟩) (e := 0) (fun s xs h => by cases h)
  refine ⟨_, _, .inl ?_, Ext.alloc w (.cells z.cells t) _, _, _, S, _, _, _, hk, h1, h2, .bptr _ 0 w.heap.size (upd_same _ _ _), h3⟩
  simp [execOp, ho, Instr.alloc, zeroValue, typeInfo, hi, hz, newVar, newRow]

theorem g_box (hT : T.base = c.base) (hM : Mem c σ.rows w S ρ F E) (hE : EnvOK c σ.env a.tmps w S ρ E) (h0 : Ext c.w0 w c.Fp) {t : TypeId} {o : Operand} (ho : ro.op = .box t o) {x : X} (hx : xOf o = some x)
    (hk : step T (.box x) σ K) : GRes P T c σ.rows F K ro a w := by
  simp only [step] at hk
  obtain ⟨σ1, d, S1, hk, hM1, hE1, hd, hS1, hr1⟩ := evD_sound hT hM hE hx hk
  cases hb : ones d.parts with
  | false => rw [hb] at hk; exact hk.elim
  | true =>
    rw [hb] at hk; simp only [cond_true] at hk
    obtain ⟨hc, _⟩ := parts_sound hd hb
    have hsame := (Ext.alloc w (.cells (a.eval o).cells t) (fun _ => False)).same (S := S1) hM1.slt (fun _ _ h => h)
    have hrow : RowOK (w.alloc (.cells (a.eval o).cells t)) S1 (fun b => b = w.heap.size) (.pointer (some ⟨w.heap.size, 0, none⟩)) (.box d.parts) :=
      .box w.heap.size t _ (alloc_new w _) hc.size fun j y hy => (hc.rd j y hy).mono (fun _ h => h) hsame
    obtain ⟨h1, h2, h3⟩ := add_sound hT hM1 hE1 (Ext.alloc w _ _) h0 hrow (fun b hb => by subst hb; exact ⟨Nat.le_refl _, by rw [alloc_size]; exact Nat.lt_succ_self _⟩) (e := 0) (fun s xs h => by cases h)
    refine ⟨_, _, .inl ?_, Ext.alloc w (.cells (a.eval o).cells t) _, _, _, S1, _, _, _, hk, h1, h2, .bptr _ 0 w.heap.size (upd_same _ _ _), ?_⟩
    · simp [execOp, ho, Instr.box, newVar, newRow]
    · intro q y b hq hb'
      rcases h3 q y b hq hb' with ⟨r, z, e1, e2, e3⟩ | h
      · exact .inl ⟨r, z, hr1 r z e1, e2, e3⟩
      · exact .inr h

/-! ### loads -/

theorem cell_same {w w' : World} {g o : Nat} (h : w'.heap[g]? = w.heap[g]?) : w'.cell? ⟨g, o, none⟩ = w.cell? ⟨g, o, none⟩ := World.cell?_of_block h

theorem getD_mem {α : Type} {l : List α} {i : Nat} {d : α} (h : i < l.length) : l.getD i d ∈ l := by
  rw [List.getD_eq_getElem?_getD, List.getElem?_eq_getElem h]; exact List.getElem_mem _

theorem cellsAt_sound (hM : Mem c σ.rows w S ρ F E) {v : Value} {p : AV} (hv : VOK w S ρ E v p) {ds : List D} (h : cellsAt σ p = some ds) :
    ∃ (g o : Nat) (us : Nat → Value), v = .pointer (some ⟨g, o, none⟩) ∧ (∀ (j : Nat) (d : D), ds[j]? = some d → w.cell? ⟨g, o + j, none⟩ = some (us j) ∧ RD w S (us j) d) ∧
      (S g ∨ ∃ r x, lkp σ.rows r = some x ∧ p.into r = true ∧ F r g) := by
  unfold cellsAt at h
  split at h
  · rename_i r o
    split at h
    · rename_i cs hr
      simp only [Option.some.injEq] at h; subst h
      cases hv with
      | bptr r o g hq =>
        obtain ⟨g', ty, cur, e1, e2, e3, e4, e5⟩ := (hM.row r _ hr).invBox
        rw [hq] at e1; cases e1
        refine ⟨g, o, fun j => cur.getD (o + j) undef, rfl, fun j d hj => ?_, .inr ⟨r, _, hr, by simp [AV.into, Nat.beq_refl], (e5 g).2 rfl⟩⟩
        rw [dropD_eq, List.getElem?_drop] at hj
        have hlt : o + j < cs.length := (List.getElem?_eq_some_iff.1 hj).1
        exact ⟨cell_of_row e2 (by omega), e4 _ d hj⟩
    · cases h
  · rename_i r i o
    split at h
    · rename_i s xs hr
      simp only [Option.some.injEq] at h; subst h
      have hEr := hM.esz r s xs hr
      cases hv with
      | eptr r i o g n cap hq h0 h1 =>
        rcases (hM.row r _ hr).inv with ⟨_, e, _⟩ | ⟨g', n', cap', cur, e1, hn, e2, hnc, hm, hc, hlen, hrd, e5⟩
        · rw [hq] at e; cases e
        · rw [hq] at e1; cases e1
          have hi : (i ()).toNat < n := by omega
          refine ⟨g, _, fun j => cur.getD ((i ()).toNat * s.esz + (o + j)) undef, by rw [hEr], fun j d hj => ?_, .inr ⟨r, _, hr, by simp [AV.into, Nat.beq_refl], (e5 g).2 rfl⟩⟩
          rw [dropD_eq, List.getElem?_drop] at hj
          have hlt := (List.getElem?_eq_some_iff.1 hj).1
          rw [hlen _ (getD_mem (by omega))] at hlt
          refine ⟨?_, hrd _ _ d hi hj⟩
          rw [Nat.add_assoc]
          refine cell_of_row e2 ?_
          rw [hc]
          have : (i ()).toNat * s.esz + (o + j) < ((i ()).toNat + 1) * s.esz := by rw [Nat.add_mul]; omega
          exact Nat.lt_of_lt_of_le this (Nat.mul_le_mul_right _ (by omega))
    · cases h
  · rename_i α esz cells d0 xs i o
    simp only [Option.some.injEq] at h; subst h
    cases hv with
    | dptr i o b off n cap hd h0 h1 =>
      cases hd with
      | nilsl a cap hx => simp at h1; omega
      | sl b off n cap us hb hn hlen hcell hrd hc =>
        have hi : (i ()).toNat < n := by omega
        refine ⟨b, _, fun j => us ((i ()).toNat * esz + (o + j)), rfl, fun j d hj => ?_, .inl hb⟩
        rw [dropD_eq, List.getElem?_drop] at hj
        have hlt := (List.getElem?_eq_some_iff.1 hj).1
        rw [hlen _ (getD_mem (by omega))] at hlt
        refine ⟨?_, hrd _ _ d hi hj⟩
        have : (i ()).toNat * esz + (o + j) < ((i ()).toNat + 1) * esz := by rw [Nat.add_mul]; omega
        have hh := hcell _ (Nat.lt_of_lt_of_le this (Nat.mul_le_mul_right _ hi))
        rw [← hh]; congr 2; omega
  · rename_i cs o
    simp only [Option.some.injEq] at h; subst h
    cases hv with
    | pptr o b hd =>
      cases hd with
      | box b us hb hcell hrd =>
        refine ⟨b, o, fun j => us (o + j), rfl, fun j d hj => ?_, .inl hb⟩
        rw [dropD_eq, List.getElem?_drop] at hj
        exact ⟨hcell _ (List.getElem?_eq_some_iff.1 hj).1, hrd _ d hj⟩
  · cases h

theorem run_loadVar' {t : TypeId} {ag : Option Nat} (hag : aggOf P t = some ag) {ds : List D} {g o : Nat} {us : Nat → Value}
    (hc : ∀ (j : Nat) (d : D), ds[j]? = some d → w.cell? ⟨g, o + j, none⟩ = some (us j) ∧ RD w S (us j) d) {K' : D → Prop} (hk : partsOf ag ds K') :
    ∃ v d, (∀ w', w'.heap[g]? = w.heap[g]? → (loadVar t ⟨g, o, none⟩).run P w' = .ok v w') ∧ K' d ∧ RD w S v d := by
  have agg : ∀ n : Nat, (P.info? t).map (fun i => i.size) = some n → (∀ w', (isAgg t).run P w' = .ok true w') → partsOf (some n) ds K' →
      ∃ v d, (∀ w', w'.heap[g]? = w.heap[g]? → (loadVar t ⟨g, o, none⟩).run P w' = .ok v w') ∧ K' d ∧ RD w S v d := by
    intro n hn hagg hk
    simp only [partsOf] at hk
    split at hk
    · rename_i l hl
      obtain ⟨h1, h2⟩ := takeD_eq _ _ _ hl
      cases hi : P.info? t with
      | none => rw [hi] at hn; cases hn
      | some i =>
        rw [hi] at hn; simp only [Option.map_some, Option.some.injEq] at hn
        refine ⟨.agg ((List.range n).map us).toArray, .agg l, fun w' hw' => ?_, hk, ?_⟩
        · have hcells : ∀ j, j < n → w'.cell? ((⟨g, o, none⟩ : Addr).add j) = some (us j) := fun j hj => by
            rw [add_plain, cell_same hw']
            exact (hc j _ (List.getElem?_eq_getElem (by omega))).1
          have := run_loadCells (P := P) w' ⟨g, o, none⟩ n us hcells
          simp [loadVar, hagg, run_sizeOf hi, hn, this]
        · refine .agg _ (by simp [h1]; omega) fun j d hj => ?_
          rw [h1, List.getElem?_take] at hj
          split at hj
          · rename_i hjn
            have e : ((List.range n).map us).toArray.getD j undef = us j := by simp [Array.getD_eq_getD_getElem?, hjn]
            rw [e]; exact (hc j d hj).2
          · cases hj
    · exact hk.elim
  unfold aggOf at hag
  split at hag
  · rename_i fs ht
    cases hi : P.info? t with
    | none => rw [hi] at hag; cases hag
    | some i => rw [hi] at hag; cases hag; exact agg i.size (by rw [hi]; rfl) (fun w' => by simp [isAgg, run_underlying' ht]) hk
  · rename_i m e ht
    cases hi : P.info? t with
    | none => rw [hi] at hag; cases hag
    | some i => rw [hi] at hag; cases hag; exact agg i.size (by rw [hi]; rfl) (fun w' => by simp [isAgg, run_underlying' ht]) hk
  · rename_i d h1 h2 ht
    cases hag
    simp only [partsOf] at hk
    split at hk
    · rename_i dd l
      obtain ⟨e1, e2⟩ := hc 0 dd rfl
      refine ⟨us 0, dd, fun w' hw' => ?_, hk, e2⟩
      have hna : (isAgg t).run P w' = .ok false w' := by
        simp only [isAgg, Sem.run_bind, run_underlying' ht, Result.andThen_ok]
        first
          | rfl
          | (split
             · rename_i fs; exact (h1 fs rfl).elim
             · rename_i m e; exact (h2 m e rfl).elim
             · rfl)
      have e1' : w'.cell? ⟨g, o, none⟩ = some (us 0) := by rw [cell_same hw']; simpa using e1
      simp [loadVar, hna, e1']
    · exact hk.elim
  · cases hag

/-- A load: what it gives depends on one block alone. -/
def RRes (P : Program) (T : Tab) (c : Ctx) (σ : St) (S : Nat → Prop) (F : Nat → Nat → Prop) (p : AV) (K : St → AV → Prop) (ro : Oper) (a : Act) (w : World) : Prop :=
  ∃ v g, (∀ w', w'.heap[g]? = w.heap[g]? → (execOp a.eval ro).run P w' = .ok (.value v) w') ∧ (S g ∨ ∃ r x, lkp σ.rows r = some x ∧ p.into r = true ∧ F r g) ∧ OutG T c σ.rows F w.heap.size K a.tmps w v

theorem r_load (hM : Mem c σ.rows w S ρ F E) (hE : EnvOK c σ.env a.tmps w S ρ E) {t : TypeId} {o : Operand} (ho : ro.op = .load t o) {ag : Option Nat} (hag : aggOf P t = some ag) {x : X} (hx : xOf o = some x)
    (hk : step T (.load ag x) σ K) : ∃ p, σ.ev x = some p ∧ RRes P T c σ S F p K ro a w := by
  simp only [step] at hk
  split at hk
  · rename_i p hp
    split at hk
    · rename_i ds hds
      obtain ⟨g, off, us, h1, h2, h3⟩ := cellsAt_sound hM (ev_sound hE hx hp) hds
      obtain ⟨v, d, e1, e2, e3⟩ := run_loadVar' (P := P) hag h2 hk
      exact ⟨p, hp, v, g, fun w' hw' => by simp [execOp, ho, Instr.loadAt, h1, Instr.sureAddr, e1 w' hw'], h3, .keep hM hE e2 (.d e3)⟩
    · exact hk.elim
  · exact hk.elim

theorem RRes.gres {p : AV} (h : RRes P T c σ S F p K ro a w) : GRes P T c σ.rows F K ro a w := by
  obtain ⟨v, g, h1, _, h2⟩ := h
  exact ⟨v, w, .inl (h1 w rfl), .refl _ _, h2⟩
end
end Go.Eng

/- The engine, part 8: stores, slices laid out and made, append. -/
namespace Go.Eng

theorem upd_self {α : Sort _} (f : Nat → α) (r : Nat) : upd f r (f r) = f := by
  funext q
  unfold upd
  split
  · rename_i h; rw [h]
  · rfl

theorem Ext.setRow {w : World} {g ty : Nat} {cur new : Array Value} (_hg : w.heap[g]? = some (.cells cur ty (0, 0))) {M : Nat → Prop} (hM : M g) : Ext w (w.setRow g new) M :=
  ⟨rfl, rfl, rfl, by simp [World.setRow], fun b _ hb => setRow_other w g b new (fun e => hb (e ▸ hM))⟩

theorem zrep_rd {v : Value} {d : D} (h : zrep v d) (w : World) (S : Nat → Prop) : RD w S v d := by
  rcases h with rfl | h
  · exact cv_rd w S v
  · split at h
    · obtain ⟨rfl, h⟩ := h; exact .nilsl none 0 h
    · rw [h]; exact .b _
    · exact h.elim

theorem dec1_sound {s : Sh} {ds : List D} {K : Th s.α → Prop} (h : dec1 s ds K) : ∃ x : Th s.α, ds = s.cells x ∧ K x := by
  unfold dec1 at h
  split at h
  · rename_i x hx; exact ⟨x, s.hdec _ _ hx, h⟩
  · obtain ⟨x, h1, h2⟩ := h.h; exact ⟨fun _ => x, h1, h2⟩
theorem decs_sound {s : Sh} : ∀ {dss : List (List D)} {xs : List (Th s.α)}, decs s dss = some xs → dss = (thl xs).map (fun x => s.cells (fun _ => x))
  | [], xs, h => by simp only [decs, Option.some.injEq] at h; subst h; rfl
  | ds :: l, xs, h => by
    simp only [decs] at h
    split at h
    · rename_i x m h1 h2
      simp only [Option.some.injEq] at h; subst h
      rw [decs_sound h2, s.hdec _ _ h1]
      rfl
    · cases h
theorem dec'_sound {s : Sh} {dss : List (List D)} {K : Th (List s.α) → Prop} (h : dec' s dss K) : ∃ xs : Th (List s.α), dss = (xs ()).map (fun x => s.cells (fun _ => x)) ∧ K xs := by
  unfold dec' at h
  split at h
  · rename_i xs hx; exact ⟨_, decs_sound hx, h⟩
  · obtain ⟨xs, h1, h2⟩ := h.h; exact ⟨fun _ => xs, h1, h2⟩

/-- Cells of a row with some of them written. -/
theorem seg_get (cur : Array Value) (vs : List Value) (o j : Nat) (hl : o + vs.length ≤ cur.size) :
    (cur.toList.take o ++ vs ++ cur.toList.drop (o + vs.length)).toArray.getD j undef = if o ≤ j ∧ j < o + vs.length then vs.getD (j - o) undef else cur.getD j undef := by
  have hlo : (cur.toList.take o).length = o := by simp; omega
  simp only [Array.getD_eq_getD_getElem?, List.getElem?_toArray, List.getD_eq_getElem?_getD, List.append_assoc]
  by_cases c1 : j < o
  · rw [if_neg (by omega), List.getElem?_append_left (by omega), List.getElem?_take, if_pos c1]; simp
  · rw [List.getElem?_append_right (by omega), hlo]
    by_cases c2 : j < o + vs.length
    · rw [if_pos ⟨by omega, c2⟩, List.getElem?_append_left (by omega)]
    · rw [if_neg (by omega), List.getElem?_append_right (by omega), List.getElem?_drop]
      rw [show o + vs.length + (j - o - vs.length) = j by omega]; simp
theorem extract_getD (arr : Array Value) (s e j : Nat) (h1 : s + j < e) (h2 : s + j < arr.size) : (arr.extract s e).getD j undef = arr.getD (s + j) undef := by
  simp only [Array.getD_eq_getD_getElem?, Array.getElem?_extract]
  rw [if_pos (by omega)]
theorem seg_size (cur : Array Value) (vs : List Value) (o : Nat) (hl : o + vs.length ≤ cur.size) : (cur.toList.take o ++ vs ++ cur.toList.drop (o + vs.length)).toArray.size = cur.size := by
  simp; omega

section
variable {P : Program} {T : Tab} {c : Ctx} {σ : St} {K : St → AV → Prop} {ro : Oper} {a : Act} {w : World} {S : Nat → Prop} {ρ : Nat → Value} {F : Nat → Nat → Prop} {E : Nat → Nat}

/-- A row written in place. -/
theorem put_sound (hM : Mem c σ.rows w S ρ F E) {t : Array Value} (hE : EnvOK c σ.env t w S ρ E) (h0 : Ext c.w0 w c.Fp) {r : Nat} {x y : Row} (hr : lkp σ.rows r = some y) (ha : allowed T r = true) {g : Nat} {cur new : Array Value} {ty : Nat}
    (hg : w.heap[g]? = some (.cells cur ty (0, 0))) (hF : ∀ b, F r b ↔ b = g) (hrow : RowOK (w.setRow g new) S (F r) (ρ r) x) (he : ∀ s xs, x = .sl s xs → E r = s.esz) :
    Ext w (w.setRow g new) (Mb T σ.rows F) ∧ Mem c (σ.putRow r x).rows (w.setRow g new) S ρ F E ∧ EnvOK c (σ.putRow r x).env t (w.setRow g new) S ρ E ∧ From T σ.rows F w.heap.size (σ.putRow r x).rows F := by
  have hx : Ext w (w.setRow g new) (F r) := Ext.setRow hg ((hF g).2 rfl)
  have hlt : g < w.heap.size := (Array.getElem?_eq_some_iff.1 hg).1
  have hm := hM.put (x := x) (v := ρ r) (G := F r) (e := E r) hr hx hrow (fun b hb => ⟨.inl hb, by rw [(hF b).1 hb]; simpa [World.setRow] using hlt⟩) h0 he (fun _ => ⟨rfl, fun _ => Iff.rfl⟩)
  rw [upd_self, upd_self, upd_self] at hm
  refine ⟨hx.weaken fun b hb => ⟨r, y, ha, hr, hb⟩, hm, hE.mono (fun _ h => h) (hx.same (S := S) hM.slt fun b hs hf => (hM.blk r y hr b hf).2.1 hs), ?_⟩
  intro q z b hq hb
  by_cases e : r = q
  · subst e; exact .inl ⟨r, y, hr, hb, id⟩
  · have : lkp ((r, x) :: del σ.rows r) q = some z := hq
    rw [lkp_cons_ne _ _ e] at this
    exact .inl ⟨q, z, lkp_del_some this, hb, id⟩

theorem g_store (hT : T.base = c.base) (hM : Mem c σ.rows w S ρ F E) (hE : EnvOK c σ.env a.tmps w S ρ E) (h0 : Ext c.w0 w c.Fp) {t : TypeId} {oa ov : Operand} (ho : ro.op = .store t oa ov) {i : TypeInfo} (hi : P.info? t = some i)
    {xa xv : X} (hxa : xOf oa = some xa) (hxv : xOf ov = some xv) (hk : step T (.store i.size xa xv) σ K) : GRes P T c σ.rows F K ro a w := by
  simp only [step] at hk
  obtain ⟨σ1, d, S1, hk, hM1, hE1, hd, hS1, hr1⟩ := evD_sound hT hM hE hxv hk
  cases hb : Nat.beq (len' d.parts) i.size with
  | false => rw [hb] at hk; exact hk.elim
  | true =>
    rw [hb] at hk; simp only [cond_true] at hk
    cases ho1 : ones d.parts with
    | false => rw [ho1] at hk; exact hk.elim
    | true =>
      rw [ho1] at hk; simp only [cond_true] at hk
      obtain ⟨hc, hone⟩ := parts_sound hd ho1
      have hsz : (a.eval ov).cells.size = i.size := by rw [hc.size, ← len'_eq]; exact beq_iff.1 hb
      generalize hvs : (a.eval ov).cells = vs at hc hone hsz
      have run : ∀ g o ty (cur : Array Value), a.eval oa = .pointer (some ⟨g, o, none⟩) → w.heap[g]? = some (.cells cur ty (0, 0)) → o + vs.size ≤ cur.size →
          (execOp a.eval ro).run P w = .ok .skip (w.setRow g (cur.toList.take o ++ vs.toList ++ cur.toList.drop (o + vs.toList.length)).toArray) := fun g o ty cur he hg hl => by
        have := run_storeCells_at P g o ty vs.toList 0 cur w hg (by simpa using hl) hone
        simp only [Nat.add_zero] at this
        simp [execOp, ho, Instr.storeAt, he, Instr.sureAddr, storeVar, run_sizeOf hi, hvs, hsz, this]
      have fin : ∀ {w' : World} {rows : List (Nat × Row)}, From T σ1.rows F w.heap.size rows F → From T σ.rows F w.heap.size rows F := fun h q y b hq hb => by
        rcases h q y b hq hb with ⟨r, z, e1, e2, e3⟩ | h
        · exact .inl ⟨r, z, hr1 r z e1, e2, e3⟩
        · exact .inr h
      have extm : ∀ {w' : World}, Ext w w' (Mb T σ1.rows F) → Ext w w' (Mb T σ.rows F) := fun h => h.weaken fun b ⟨r, x, e1, e2, e3⟩ => ⟨r, x, e1, hr1 r x e2, e3⟩
      split at hk
      · rename_i r o hv
        cases hal : allowed T r with
        | false => rw [hal] at hk; exact hk.elim
        | true =>
          rw [hal] at hk; simp only [cond_true] at hk
          split at hk
          · rename_i cs hr
            split at hk
            · rename_i l hl
              have hvv := ev_sound hE1 hxa hv
              generalize he : a.eval oa = val at hvv
              cases hvv with
              | bptr r o g hq =>
                obtain ⟨g', ty, cur, e1, e2, e3, e4, e5⟩ := (hM1.row r _ hr).invBox
                rw [hq] at e1; cases e1
                have hle := (over_eq _ _ _ _ hl).2
                have hbd : o + vs.size ≤ cur.size := by rw [hc.size, e3]; exact hle
                have hlt : vs.toList.length = vs.size := by simp
                have hrow : RowOK (w.setRow g (cur.toList.take o ++ vs.toList ++ cur.toList.drop (o + vs.toList.length)).toArray) S1 (F r) (ρ r) (.box l) := by
                  have hcrd : CRD w S1 (cur.toList.take o ++ vs.toList ++ cur.toList.drop (o + vs.toList.length)).toArray l :=
                    (CRD.mk e3 e4 : CRD w S1 cur cs).over hc hl _ (seg_size _ _ _ (by rw [hlt]; exact hbd)) fun j _ => by
                      rw [seg_get _ _ _ _ (by rw [hlt]; exact hbd), hlt]
                      split
                      · simp [Array.getD_eq_getD_getElem?, List.getD_eq_getElem?_getD]
                      · rfl
                  have hsame : ∀ b, S1 b → (w.setRow g (cur.toList.take o ++ vs.toList ++ cur.toList.drop (o + vs.toList.length)).toArray).heap[b]? = w.heap[b]? := fun b hs =>
                    setRow_other w g b _ fun e => (hM1.blk r _ hr b ((e5 b).2 e)).2.1 hs
                  have := RowOK.box (w := w.setRow g (cur.toList.take o ++ vs.toList ++ cur.toList.drop (o + vs.toList.length)).toArray) (S := S1) g ty _ (setRow_heap w g cur _ ty _ e2) hcrd.size (fun j y hy => (hcrd.rd j y hy).mono (fun _ h => h) hsame)
                  rw [hq]
                  have hFe : F r = fun b => b = g := by funext b; exact propext (e5 b)
                  rw [hFe]; exact this
                obtain ⟨k1, k2, k3, k4⟩ := put_sound hM1 hE1 h0 hr hal e2 e5 hrow (fun s xs h => by cases h)
                exact ⟨undef, _, .inr ⟨run g o ty cur he e2 hbd, rfl⟩, extm k1, _, _, S1, ρ, F, E, hk, k2, k3, .un, fin (w' := w) k4⟩
            · exact hk.elim
          · exact hk.elim
      · rename_i r ix o hv
        cases hal : allowed T r with
        | false => rw [hal] at hk; exact hk.elim
        | true =>
          rw [hal] at hk; simp only [cond_true] at hk
          split at hk
          · rename_i s xs hr
            split at hk
            · rename_i l hl
              obtain ⟨x, hx, hk⟩ := dec1_sound hk
              have hvv := ev_sound hE1 hxa hv
              have hEr := hM1.esz r s xs hr
              generalize he : a.eval oa = val at hvv
              cases hvv with
              | eptr r ix o g n cap hq hi0 hi1 =>
                rcases (hM1.row r _ hr).inv with ⟨_, e, _⟩ | ⟨g', n', cap', cur, e1, hn, e2, hnc, hm, hcs, hlen, hrd, e5⟩
                · rw [hq] at e; cases e
                · rw [hq] at e1; cases e1
                  rw [hEr] at he
                  generalize hk' : (ix ()).toNat = k at *
                  have hkn : k < n := by omega
                  have hle := (over_eq _ _ _ _ hl).2
                  rw [s.hlen] at hle
                  have hke : k * s.esz + s.esz ≤ cap * s.esz := by rw [← Nat.succ_mul]; exact Nat.mul_le_mul_right _ (by omega)
                  have hbd : k * s.esz + o + vs.size ≤ cur.size := by rw [hc.size, hcs]; omega
                  have hlt : vs.toList.length = vs.size := by simp
                  generalize hnew : (cur.toList.take (k * s.esz + o) ++ vs.toList ++ cur.toList.drop (k * s.esz + o + vs.toList.length)).toArray = new at *
                  have hnsz : new.size = cur.size := by rw [← hnew]; exact seg_size _ _ _ (by rw [hlt]; exact hbd)
                  have hget : ∀ j, new.getD j undef = if k * s.esz + o ≤ j ∧ j < k * s.esz + o + vs.size then vs.getD (j - (k * s.esz + o)) undef else cur.getD j undef := fun j => by
                    rw [← hnew, seg_get _ _ _ _ (by rw [hlt]; exact hbd), hlt]
                    split
                    · simp [Array.getD_eq_getD_getElem?, List.getD_eq_getElem?_getD]
                    · rfl
                  have hsame : ∀ b, S1 b → (w.setRow g new).heap[b]? = w.heap[b]? := fun b hs => setRow_other w g b _ fun e => (hM1.blk r _ hr b ((e5 b).2 e)).2.1 hs
                  have hlen' : ((xs ()).set k (x ())).length = (xs ()).length := by simp
                  have hrow : RowOK (w.setRow g new) S1 (F r) (ρ r) (.sl s (fun _ => (xs ()).set k (x ()))) := by
                    have hFe : F r = fun b => b = g := by funext b; exact propext (e5 b)
                    rw [hq, hFe]
                    refine .sl g n cap new (by simp [hn]) (setRow_heap w g cur _ s.ty _ e2) hnc hm (by rw [hnsz]; exact hcs) (fun _ _ => s.hlen _) ?_
                    intro p j y hp hy
                    by_cases hpk : p = k
                    · subst hpk
                      have hxe : ((xs ()).set p (x ())).getD p s.d0 = x () := by simp [List.getD_eq_getElem?_getD, hn ▸ hp]
                      rw [hxe] at hy
                      have hy' : l[j]? = some y := by rw [hx]; exact hy
                      have hje : j < s.esz := by
                        have := (List.getElem?_eq_some_iff.1 hy).1
                        rwa [s.hlen] at this
                      have hold : CRD w S1 (cur.extract (p * s.esz) (p * s.esz + s.esz)) (s.cells fun _ => (xs ()).getD p s.d0) := by
                        refine ⟨by rw [s.hlen]; simp; omega, fun j z hz => ?_⟩
                        have := hrd p j z hp hz
                        have hj : j < s.esz := by have := (List.getElem?_eq_some_iff.1 hz).1; rwa [s.hlen] at this
                        rw [extract_getD _ _ _ _ (by omega) (by omega)]; exact this
                      have hcrd := hold.over hc hl (new.extract (p * s.esz) (p * s.esz + s.esz)) (by simp [hnsz]) fun j hj => by
                        have hj' : j < s.esz := by simp at hj; omega
                        have g1 : ∀ arr : Array Value, arr.size = cur.size → (arr.extract (p * s.esz) (p * s.esz + s.esz)).getD j undef = arr.getD (p * s.esz + j) undef := fun arr ha => by
                          exact extract_getD _ _ _ _ (by omega) (by omega)
                        rw [g1 new hnsz, g1 cur rfl, hget]
                        by_cases c1 : o ≤ j ∧ j < o + vs.size
                        · rw [if_pos c1, if_pos ⟨by omega, by omega⟩]; congr 1; omega
                        · rw [if_neg c1, if_neg (by omega)]
                      have := hcrd.rd j y hy'
                      have g2 : (new.extract (p * s.esz) (p * s.esz + s.esz)).getD j undef = new.getD (p * s.esz + j) undef := by
                        exact extract_getD _ _ _ _ (by omega) (by omega)
                      rw [g2] at this
                      exact this.mono (fun _ h => h) hsame
                    · have hxe : ((xs ()).set k (x ())).getD p s.d0 = (xs ()).getD p s.d0 := by simp [List.getD_eq_getElem?_getD, List.getElem?_set_ne (Ne.symm hpk)]
                      rw [hxe] at hy
                      have hje : j < s.esz := by
                        have := (List.getElem?_eq_some_iff.1 hy).1
                        rwa [s.hlen] at this
                      have hout : ¬ (k * s.esz + o ≤ p * s.esz + j ∧ p * s.esz + j < k * s.esz + o + vs.size) := by
                        rw [hc.size]
                        rcases Nat.lt_or_gt_of_ne hpk with h | h
                        · have : p * s.esz + s.esz ≤ k * s.esz := by rw [← Nat.succ_mul]; exact Nat.mul_le_mul_right _ h
                          omega
                        · have : k * s.esz + s.esz ≤ p * s.esz := by rw [← Nat.succ_mul]; exact Nat.mul_le_mul_right _ h
                          omega
                      rw [hget, if_neg hout]
                      exact (hrd p j y hp hy).mono (fun _ h => h) hsame
                  obtain ⟨k1, k2, k3, k4⟩ := put_sound hM1 hE1 h0 hr hal e2 e5 hrow (fun s' xs' h => by cases h; exact hEr)
                  exact ⟨undef, _, .inr ⟨by rw [run g (k * s.esz + o) s.ty cur he e2 hbd, hnew], rfl⟩, extm k1, _, _, S1, ρ, F, E, hk, k2, k3, .un, fin (w' := w) k4⟩
            · exact hk.elim
          · exact hk.elim
      · exact hk.elim
end
end Go.Eng

/- The engine, part 9: slices laid out and made, append. -/
namespace Go.Eng

theorem fill_row (sz : Nat) : ∀ (vs : List Value) (k : Nat) (us : Array Value), (∀ v ∈ vs, v.cells.size = sz) → (k + vs.length) * sz ≤ us.size →
    ∃ out, Instr.fill (fun i => some (i * sz, sz)) us ((vs.zipIdx k).map fun p => (p.2, p.1)) = some out ∧ out.size = us.size ∧ (∀ p, p < k * sz → out.getD p undef = us.getD p undef) ∧
      ∀ q j, q < vs.length → j < sz → out.getD ((k + q) * sz + j) undef = (vs.getD q undef).cells.getD j undef
  | [], k, us, _, _ => ⟨us, rfl, rfl, fun _ _ => rfl, fun q j h _ => by cases h⟩
  | v :: vs, k, us, hc, hs => by
    have hv : v.cells.size = sz := hc v List.mem_cons_self
    simp only [List.length_cons] at hs
    have hk : k * sz + sz ≤ us.size := by
      have : (k + 1) * sz ≤ (k + (vs.length + 1)) * sz := Nat.mul_le_mul_right _ (by omega)
      rw [Nat.add_mul, Nat.one_mul] at this; omega
    let us1 := v.cells.toList.zipIdx.foldl (fun cs (p : Value × Nat) => cs.setIfInBounds (k * sz + p.2) p.1) us
    have hs1 : us1.size = us.size := foldl_put_size _ _ _
    have hg1 : ∀ j, j < us.size → us1.getD j undef = if k * sz ≤ j ∧ j < k * sz + sz then v.cells.getD (j - k * sz) undef else us.getD j undef := fun j hj => by
      have := foldl_put_get (k * sz) v.cells.toList 0 us j hj
      simp only [Nat.add_zero, Array.length_toList, hv] at this
      rw [this]
      split
      · simp [Array.getD_eq_getD_getElem?, List.getD_eq_getElem?_getD]
      · rfl
    obtain ⟨out, h1, h2, h3, h4⟩ := fill_row sz vs (k + 1) us1 (fun x hx => hc x (List.mem_cons_of_mem _ hx)) (by rw [hs1, show k + 1 + vs.length = k + (vs.length + 1) by omega]; exact hs)
    refine ⟨out, ?_, h2.trans hs1, fun p hp => ?_, fun q j hq hj => ?_⟩
    · simp only [List.zipIdx_cons, List.map_cons, Instr.fill]
      rw [if_neg (by simp only [Bool.or_eq_true, decide_eq_true_eq, not_or]; exact ⟨fun h => h hv, by rw [hv]; omega⟩)]
      rw [← Array.foldl_toList, Array.toList_zipIdx]
      exact h1
    · rw [h3 p (by rw [Nat.add_mul]; omega), hg1 p (by omega), if_neg (by omega)]
    · cases q with
      | zero =>
        rw [Nat.add_zero, h3 _ (by rw [Nat.add_mul]; omega), hg1 _ (by omega), if_pos ⟨by omega, by omega⟩]
        simp [show k * sz + j - k * sz = j by omega]
      | succ q =>
        have := h4 q j (by simpa using hq) hj
        rw [show k + (q + 1) = k + 1 + q by omega, this]; simp

section
variable {P : Program} {T : Tab} {c : Ctx} {σ : St} {K : St → AV → Prop} {ro : Oper} {a : Act} {w : World} {S : Nat → Prop} {ρ : Nat → Value} {F : Nat → Nat → Prop} {E : Nat → Nat}

theorem inRow_spec : ∀ {ps : List (Nat × Operand)} {k : Nat} {xs : List X}, inRow k ps = some xs → xsOf' (ps.map (·.2)) = some xs ∧ ∀ f : Operand → Value, (ps.map fun (i, x) => (i, f x)) = (((ps.map (·.2)).map f).zipIdx k).map fun p => (p.2, p.1)
  | [], k, xs, h => by simp only [inRow, Option.some.injEq] at h; subst h; exact ⟨rfl, fun _ => rfl⟩
  | (i, x) :: ps, k, xs, h => by
    simp only [inRow] at h
    cases hb : Nat.beq i k with
    | false => rw [hb] at h; cases h
    | true =>
      rw [hb] at h; simp only [cond_true] at h
      split at h
      · rename_i y m h1 h2
        simp only [Option.some.injEq] at h; subst h
        obtain ⟨e1, e2⟩ := inRow_spec h2
        refine ⟨by simp [xsOf', h1, e1], fun f => ?_⟩
        simp only [List.map_cons, List.zipIdx_cons, e2 f]
        rw [beq_iff.1 hb]
      · cases h

theorem onesAll_mem : ∀ {l : List D}, onesAll l = true → ∀ d ∈ l, ones d.parts = true
  | [], _, _, h => by cases h
  | x :: l, ho, d, h => by
    unfold onesAll at ho
    cases hx : ones x.parts with
    | false => rw [hx] at ho; cases ho
    | true =>
      rw [hx] at ho; simp only [cond_true] at ho
      rcases List.mem_cons.1 h with rfl | h
      · exact hx
      · exact onesAll_mem ho d h

theorem g_bsl (hT : T.base = c.base) (hM : Mem c σ.rows w S ρ F E) (hE : EnvOK c σ.env a.tmps w S ρ E) (h0 : Ext c.w0 w c.Fp) {t : TypeId} {n : Nat} {ps : Array (Nat × Operand)} (ho : ro.op = .buildSlice t n ps) {e : TypeId}
    (ht : P.underlying t = some (.slice e)) {i : TypeInfo} (hi : P.info? e = some i) {xs : List X} (hx : inRow 0 ps.toList = some xs) (hn : xs.length = n) (hb1 : n * i.size ≤ 16777216) (hb2 : n ≤ 16777216) {z : Value} (hz : i.zero = some z)
    (hk : step T (.bsl e i.size xs) σ K) : GRes P T c σ.rows F K ro a w := by
  obtain ⟨q1, q2⟩ := inRow_spec hx
  simp only [step] at hk
  obtain ⟨σ1, ds, S1, hk, hM1, hE1, hl, hds, hS1, hr1⟩ := evDs_sound hT hM hE q1 hk
  split at hk
  · rename_i s hs
    cases c1 : Nat.beq s.ty e with
    | false => rw [c1] at hk; exact hk.elim
    | true => cases c2 : Nat.beq s.esz i.size with
      | false => rw [c1, c2] at hk; exact hk.elim
      | true => cases c3 : onesAll ds with
        | false => rw [c1, c2, c3] at hk; exact hk.elim
        | true =>
          rw [c1, c2, c3] at hk; simp only [cond_true] at hk
          have hty := beq_iff.1 c1
          have hsz := beq_iff.1 c2
          obtain ⟨ys, hys, hk⟩ := dec'_sound hk
          generalize hvs : (ps.toList.map (·.2)).map a.eval = vs at hds
          have hlv : vs.length = ds.length := by rw [← hvs]; simpa using hl
          have hly : (ys ()).length = ds.length := by have := congrArg List.length hys; simpa using this.symm
          have hlx : ∀ {os : List Operand} {xs : List X}, xsOf' os = some xs → xs.length = os.length := fun {os} => by
            induction os with
            | nil => intro xs h; simp only [xsOf', Option.some.injEq] at h; subst h; rfl
            | cons o os ih =>
              intro xs h
              simp only [xsOf'] at h
              split at h
              · rename_i y m h1 h2; simp only [Option.some.injEq] at h; subst h; simp [ih h2]
              · cases h
          have hnn : vs.length = n := by rw [← hn, hlx q1, ← hvs]; simp
          have part : ∀ q, q < vs.length → ∃ d, ds[q]? = some d ∧ CRD w S1 (vs.getD q undef).cells d.parts ∧ d.parts = s.cells (fun _ => (ys ()).getD q s.d0) := fun q hq => by
            have hq' : q < ds.length := by omega
            refine ⟨ds[q], List.getElem?_eq_getElem hq', (parts_sound (hds q _ (List.getElem?_eq_getElem hq')) (onesAll_mem c3 _ (List.getElem_mem _))).1, ?_⟩
            have := congrArg (fun l => l[q]?) hys
            simp only [List.getElem?_map, List.getElem?_eq_getElem hq', Option.map_some] at this
            rw [List.getElem?_eq_getElem (by omega)] at this
            simp only [Option.map_some, Option.some.injEq] at this
            rw [this, List.getD_eq_getElem?_getD, List.getElem?_eq_getElem (by omega)]
            rfl
          have hcs : ∀ v ∈ vs, v.cells.size = s.esz := fun v hv => by
            obtain ⟨q, hq, rfl⟩ := List.getElem_of_mem hv
            obtain ⟨d, _, h2, h3⟩ := part q hq
            have := h2.size
            rw [h3, s.hlen] at this
            rw [← this, List.getD_eq_getElem?_getD, List.getElem?_eq_getElem hq]; rfl
          generalize hus : (Array.range (n * i.size)).map (fun x => (if n * i.size = 0 then (#[] : Array Value) else z.cells)[x % (if n * i.size = 0 then (#[] : Array Value) else z.cells).size]!) = us
          have husz : us.size = n * i.size := by rw [← hus]; simp
          obtain ⟨out, f1, f2, _, f4⟩ := fill_row s.esz vs 0 us hcs (by rw [husz, hnn, hsz]; simp)
          have hrun : (execOp a.eval ro).run P w = .ok (.value (.slice (some ⟨w.heap.size, 0, none⟩) n n)) (w.alloc (.cells out e)) := by
            have hf : Instr.fill (fun i_1 => some (i_1 * i.size, i.size)) us (ps.toList.map fun (i, x) => (i, a.eval x)) = some out := by rw [q2 a.eval, hvs, ← hsz]; exact f1
            have h16 : ¬ (n * i.size > 2 ^ 24) := by omega
            by_cases hzz : n * i.size = 0
            · have hu0 : us = #[] := Array.eq_empty_of_size_eq_zero (by rw [husz, hzz])
              rw [hu0] at hf
              have hb : (Instr.buildSlice t n (ps.map fun (i, x) => (i, a.eval x))).run P w = .ok (.slice (some ⟨w.heap.size, 0, none⟩) n n) (w.alloc (.cells out e)) := by
                unfold Instr.buildSlice
                simp only [Sem.run_bind, run_underlying' ht, Result.andThen_ok, run_sizeOf hi, hzz]
                have hr0 : (Array.range 0 : Array Nat) = #[] := rfl
                have hf2 : Instr.fill (fun i_1 => some (i_1 * i.size, i.size)) #[] (ps.toList.map fun x => (x.fst, a.eval x.snd)) = some out := hf
                simp [newRow, hr0, hf2]
              simp [execOp, ho, hb]
            · rw [← hus, if_neg hzz] at hf
              simp [execOp, ho, Instr.buildSlice, run_underlying' ht, run_sizeOf hi, hzz, newRow, zeroValue, typeInfo, hi, hz, hf, show ¬ (16777216 < n * i.size) by omega]
          have hsame := (Ext.alloc w (.cells out e) (fun _ => False)).same (S := S1) hM1.slt (fun _ _ h => h)
          have hrow : RowOK (w.alloc (.cells out e)) S1 (fun b => b = w.heap.size) (.slice (some ⟨w.heap.size, 0, none⟩) n n) (.sl s ys) := by
            refine .sl w.heap.size n n out (by omega) (by rw [hty]; exact alloc_new w _) (Nat.le_refl _) (by unfold maxLen; omega) (by rw [f2, husz, hsz]) (fun _ _ => s.hlen _) fun q j d hq hd => ?_
            have hj : j < s.esz := by have := (List.getElem?_eq_some_iff.1 hd).1; rwa [s.hlen] at this
            obtain ⟨d', _, h2, h3⟩ := part q (by omega)
            have := f4 q j (by omega) hj
            rw [Nat.zero_add] at this
            rw [this]
            exact (h2.rd j d (by rw [h3]; exact hd)).mono (fun _ h => h) hsame
          obtain ⟨k1, k2, k3⟩ := add_sound hT hM1 hE1 (Ext.alloc w _ _) h0 hrow (fun b hb => by subst hb; exact ⟨Nat.le_refl _, by rw [alloc_size]; exact Nat.lt_succ_self _⟩) (e := s.esz) (fun s' xs' h => by cases h; rfl)
          refine ⟨_, _, .inl hrun, Ext.alloc w (.cells out e) _, _, _, S1, _, _, _, hk, k1, k2, ?_, ?_⟩
          · have := VOK.own (w := w.alloc (.cells out e)) (S := S1) (ρ := upd ρ (σ1.fresh T) (.slice (some ⟨w.heap.size, 0, none⟩) n n)) (E := upd E (σ1.fresh T) s.esz) (σ1.fresh T)
            rw [upd_same] at this; exact this
          · intro q y b hq hb'
            rcases k3 q y b hq hb' with ⟨r, z, e1, e2, e3⟩ | h
            · exact .inl ⟨r, z, hr1 r z e1, e2, e3⟩
            · exact .inr h
  · exact hk.elim

theorem zeq_eq : ∀ {l m : List Value}, zeq l m = true → l.length = m.length ∧ ∀ (j : Nat) (w : World) (S : Nat → Prop) (u v : Value) (d : D), l[j]? = some u → m[j]? = some v → zrep u d → RD w S v d
  | [], [], _ => ⟨rfl, fun j w S u v d h => by simp at h⟩
  | [], _ :: _, h => by simp [zeq] at h
  | _ :: _, [], h => by simp [zeq] at h
  | a :: l, b :: m, h => by
    simp only [zeq, Bool.and_eq_true] at h
    obtain ⟨h1, h2⟩ := h
    obtain ⟨e1, e2⟩ := zeq_eq h2
    refine ⟨by simp [e1], fun j w S u v d hu hv hz => ?_⟩
    cases j with
    | succ j => exact e2 j w S u v d (by simpa using hu) (by simpa using hv) hz
    | zero =>
      simp only [List.getElem?_cons_zero, Option.some.injEq] at hu hv
      subst hu; subst hv
      have : a = b ∨ ∃ s t, a = .string s ∧ b = .string t ∧ s = t := by
        unfold zeq1 at h1
        split at h1
        · simp only [Bool.and_eq_true, decide_eq_true_eq] at h1; obtain ⟨rfl, rfl⟩ := h1; exact .inl rfl
        · simp only [beq_iff_eq] at h1; subst h1; exact .inl rfl
        · exact .inl rfl
        · rename_i s t
          right
          refine ⟨s, t, rfl, rfl, ?_⟩
          simp only [beq_iff_eq] at h1
          cases s; cases t; simp_all
        · cases h1
      rcases this with rfl | ⟨s, t, rfl, rfl, rfl⟩ <;> exact zrep_rd hz w S

theorem madeCells_get (z : Array Value) (n sz i j : Nat) (hz : z.size = sz) (hi : i < n) (hj : j < sz) : (madeCells z (n * sz)).getD (i * sz + j) undef = z.getD j undef := by
  have h1 : i * sz + j < n * sz := by
    have : (i + 1) * sz ≤ n * sz := Nat.mul_le_mul_right _ hi
    rw [Nat.add_mul, Nat.one_mul] at this; omega
  have h2 : (i * sz + j) % sz = j := by rw [Nat.add_comm, Nat.add_mul_mod_self_right]; exact Nat.mod_eq_of_lt hj
  simp only [madeCells, Array.getD_eq_getD_getElem?, Array.getElem?_map, Array.getElem?_range, h1, if_true, Option.map_some, Option.getD_some, hz, h2]
  rw [getElem!_pos z j (by omega)]
  simp [hz ▸ hj]

theorem g_mks (hT : T.base = c.base) (hM : Mem c σ.rows w S ρ F E) (hE : EnvOK c σ.env a.tmps w S ρ E) (h0 : Ext c.w0 w c.Fp) {t : TypeId} {ol oc : Operand} (ho : ro.op = .makeSlice t ol oc) {e : TypeId}
    (ht : P.underlying t = some (.slice e)) {i : TypeInfo} (hi : P.info? e = some i) {z : Value} (hz : i.zero = some z) (hzs : z.cells.size = i.size) (hby : 0 < i.bytes) {xl xc : X} (hxl : xOf ol = some xl) (hxc : xOf oc = some xc)
    (hk : step T (.mks e i.size i.bytes z.cells.toList xl xc) σ K) : GRes P T c σ.rows F K ro a w := by
  simp only [step] at hk
  split at hk
  · rename_i m n s hm hn hs
    cases c1 : Nat.beq s.ty e with
    | false => rw [c1] at hk; exact hk.elim
    | true => cases c2 : Nat.beq s.esz i.size with
      | false => rw [c1, c2] at hk; exact hk.elim
      | true => cases c3 : zeq s.zs z.cells.toList with
        | false => rw [c1, c2, c3] at hk; exact hk.elim
        | true =>
          rw [c1, c2, c3] at hk; simp only [cond_true] at hk
          have hty := beq_iff.1 c1
          have hsz := beq_iff.1 c2
          obtain ⟨⟨hs1⟩, hk⟩ := hk
          obtain ⟨p1, p2, p3⟩ := hs1
          have el := (ev_sound hE hxl hm).i_inv
          have ec := (ev_sound hE hxc hn).i_inv
          have hby1 : (1 : Int) ≤ (i.bytes : Int) := by omega
          have p4 : n () ≤ 140737488355328 := by
            have : n () * 1 ≤ n () * (i.bytes : Int) := Int.mul_le_mul_of_nonneg_left hby1 (by omega)
            omega
          have hrun := run_make (P := P) w t e i z ht hi hz .i64 .i64 (m ()) (n ()) p1 p2 (by rw [Int.mul_comm]; omega) (by omega)
          obtain ⟨zl, zr⟩ := zeq_eq c3
          have hrow : RowOK (w.alloc (.cells (madeCells z.cells ((n ()).toNat * i.size)) e)) S (fun b => b = w.heap.size) (.slice (some ⟨w.heap.size, 0, none⟩) (m ()).toNat (n ()).toNat) (.sl s (fun _ => List.replicate (m ()).toNat s.d0)) := by
            refine .sl w.heap.size _ _ _ (by simp) (by rw [hty]; exact alloc_new w _) (by omega) (by unfold maxLen; omega) (by rw [size_madeCells, hsz]) (fun _ _ => s.hlen _) fun q j d hq hd => ?_
            have hj : j < s.esz := by have := (List.getElem?_eq_some_iff.1 hd).1; rwa [s.hlen] at this
            rw [hsz, madeCells_get z.cells _ i.size q j hzs (by omega) (by omega)]
            have hrep : (List.replicate (m ()).toNat s.d0).getD q s.d0 = s.d0 := by simp [List.getD_eq_getElem?_getD, hq]
            rw [hrep] at hd
            have hjz : j < s.zs.length := by rw [s.hz.1]; exact hj
            have hjc : j < z.cells.size := by omega
            refine zr j _ S s.zs[j] _ d (List.getElem?_eq_getElem hjz) ?_ (s.hz.2 j _ d (List.getElem?_eq_getElem hjz) hd)
            simp [Array.getD_eq_getD_getElem?, hjc]
          obtain ⟨k1, k2, k3⟩ := add_sound hT hM hE (Ext.alloc w _ _) h0 hrow (fun b hb => by subst hb; exact ⟨Nat.le_refl _, by rw [alloc_size]; exact Nat.lt_succ_self _⟩) (e := s.esz) (fun s' xs' h => by cases h; rfl)
          refine ⟨.slice (some ⟨w.heap.size, 0, none⟩) (m ()).toNat (n ()).toNat, _, .inl (by simp [execOp, ho, el, ec, hrun]), Ext.alloc w _ _, _, _, S, _, _, _, hk, k1, k2, ?_, k3⟩
          have := VOK.own (w := w.alloc (.cells (madeCells z.cells ((n ()).toNat * i.size)) e)) (S := S) (ρ := upd ρ (σ.fresh T) (.slice (some ⟨w.heap.size, 0, none⟩) (m ()).toNat (n ()).toNat)) (E := upd E (σ.fresh T) s.esz) (σ.fresh T)
          rw [upd_same] at this; exact this
  · exact hk.elim
end
end Go.Eng

/- The engine, part 10: append. -/
namespace Go.Eng

/-- What is appended: m elements, their cells in a row. -/
structure Src (w : World) (S : Nat → Prop) (esz : Nat) (dss : List (List D)) (u : Value) : Prop where
  h : ∃ (ao : Option Addr) (c : Nat) (us : Nat → Value), u = .slice ao dss.length c ∧
    (dss.length ≠ 0 → ∃ b o, ao = some ⟨b, o, none⟩ ∧ ∀ i, i < dss.length * esz → w.cell? ⟨b, o + i, none⟩ = some (us i)) ∧
    ∀ (i j : Nat) (ds : List D) (d : D), dss[i]? = some ds → ds[j]? = some d → RD w S (us (i * esz + j)) d

theorem RD.src {w : World} {S : Nat → Prop} {u : Value} {α : Type} {esz : Nat} {cells : Th α → List D} {d0 : α} {xs : Th (List α)} (h : RD w S u (.sl esz cells d0 xs)) :
    Src w S esz ((xs ()).map fun x => cells fun _ => x) u := by
  cases h with
  | nilsl a c h => exact ⟨a, c, fun _ => undef, by simp [h], by simp [h], by simp [h]⟩
  | sl b off n c us hb hn hlen hcell hrd hc =>
    refine ⟨some ⟨b, off, none⟩, c, us, by simp [hn], fun _ => ⟨b, off, rfl, fun i hi => hcell i (by simpa [hn] using hi)⟩, fun i j ds d hi hj => ?_⟩
    rw [List.getElem?_map] at hi
    have hlt : i < (xs ()).length := by
      cases hx : (xs ())[i]? with
      | none => rw [hx] at hi; cases hi
      | some x => exact (List.getElem?_eq_some_iff.1 hx).1
    rw [List.getElem?_eq_getElem hlt] at hi
    simp only [Option.map_some, Option.some.injEq] at hi
    refine hrd i j d (by omega) ?_
    have : (xs ()).getD i d0 = (xs ())[i] := by simp [List.getD_eq_getElem?_getD, hlt]
    rw [this, hi]; exact hj

theorem RowOK.src {w : World} {S F : Nat → Prop} {u : Value} {s : Sh} {xs : Th (List s.α)} (h : RowOK w S F u (.sl s xs)) : Src w S s.esz ((xs ()).map fun x => s.cells fun _ => x) u := by
  rcases h.inv with ⟨e, rfl, _⟩ | ⟨g, n, cap, cur, rfl, hn, hg, hnc, hm, hc, hlen, hrd, _⟩
  · exact ⟨none, 0, fun _ => undef, by simp [e], by simp [e], by simp [e]⟩
  · refine ⟨some ⟨g, 0, none⟩, cap, fun i => cur.getD i undef, by simp [hn], fun _ => ⟨g, 0, rfl, fun i hi => ?_⟩, fun i j ds d hi hj => ?_⟩
    · rw [Nat.zero_add]
      refine cell_of_row hg ?_
      rw [hc]
      have hi' : i < n * s.esz := by simpa [hn] using hi
      exact Nat.lt_of_lt_of_le hi' (Nat.mul_le_mul_right _ hnc)
    · rw [List.getElem?_map] at hi
      have hlt : i < (xs ()).length := by
        cases hx : (xs ())[i]? with
        | none => rw [hx] at hi; cases hi
        | some x => exact (List.getElem?_eq_some_iff.1 hx).1
      rw [List.getElem?_eq_getElem hlt] at hi
      simp only [Option.map_some, Option.some.injEq] at hi
      refine hrd i j d (by omega) ?_
      have : (xs ()).getD i s.d0 = (xs ())[i] := by simp [List.getD_eq_getElem?_getD, hlt]
      rw [this, hi]; exact hj

theorem ext_drew_alloc (w : World) (o : Obj) (M : Nat → Prop) : Ext w (w.drew.alloc o) M :=
  ⟨rfl, rfl, rfl, by rw [alloc_size]; exact Nat.le_succ _, fun b hb h => (Ext.alloc w.drew o M).block b hb h⟩

section
variable {P : Program} {w : World} {S G : Nat → Prop}

theorem app_run {t ty : TypeId} {s : Sh} {i : TypeInfo} {z : Value} (ht : P.underlying t = some (.slice s.ty)) (hi : P.info? s.ty = some i) (hz : i.zero = some z) (hzs : z.cells.size = i.size) (hsz : s.esz = i.size) (h0 : 0 < i.size) (hby : 0 < i.bytes)
    {v : Value} {xs : Th (List s.α)} (hr : RowOK w S G v (.sl s xs)) (hS : ∀ b, S b → b < w.heap.size ∧ ¬ G b) (hG : ∀ b, G b → b < w.heap.size) {ys : List s.α} {u : Value} (hu : Src w S s.esz (ys.map fun y => s.cells fun _ => y) u)
    (hb : ((xs ()).length + ys.length) * i.bytes ≤ 140737488355328) :
    ∃ v' w' G', (Builtin.append_ #[t, t] ty #[v, u]).run P w = .ok v' w' ∧ Ext w w' G ∧ RowOK w' S G' v' (.sl s (fun _ => xs () ++ ys)) ∧ ∀ b, G' b → (G b ∨ w.heap.size ≤ b) ∧ b < w'.heap.size := by
  obtain ⟨ao, c, us, rfl, hcell, hrdu⟩ := hu.h
  simp only [List.length_map] at hcell ⊢
  by_cases hm0 : ys.length = 0
  · -- nothing is appended
    have hy : ys = [] := List.eq_nil_of_length_eq_zero hm0
    subst hy
    have hown : ∃ n x, w.ownsRow 0 s.ty s.esz v n x := by
      rcases hr.inv with ⟨e, rfl, _⟩ | ⟨g, n, cap, cur, rfl, hn, hg, hnc, hm, hc, _⟩
      · exact ⟨0, [], by simp, .inl ⟨rfl, rfl⟩⟩
      · refine ⟨n, cur.toList.take (n * s.esz), ?_, .inr ⟨g, cap, cur, rfl, Nat.zero_le _, hg, hnc, hm, hc, rfl⟩⟩
        simp only [List.length_take, Array.length_toList, hc]
        exact Nat.min_eq_left (Nat.mul_le_mul_right _ hnc)
    refine ⟨v, w, G, ?_, .refl _ _, by simpa using hr, fun b hb => ⟨.inl hb, hG b hb⟩⟩
    have hl0 : ([] : List s.α).length = 0 := rfl
    rcases hr.inv with ⟨e, rfl, _⟩ | ⟨g, n, cap, cur, rfl, hn, hg, hnc, hm, hc, _⟩
    · cases ao <;> simp [Builtin.append_, run_underlying' ht, run_sizeOf hi, Builtin.lenOf, Builtin.firstCells, loadCells, loadCellsFrom]
    · cases ao <;> simp [Builtin.append_, run_underlying' ht, run_sizeOf hi, Builtin.lenOf, Builtin.firstCells, loadCells, loadCellsFrom, hnc, storeCells]
  · obtain ⟨b0, o0, rfl, hcl⟩ := hcell hm0
    clear hcell
    generalize hm : ys.length = m at *
    let news : List Value := (List.range (m * s.esz)).map us
    have hns : news.length = m * s.esz := by simp [news]
    have hnl : news.length = m * i.size := by rw [hns, hsz]
    have hnews : ∀ (j : Nat) (x : Value), news[j]? = some x → w.cell? ((⟨b0, o0, none⟩ : Addr).add j) = some x := fun j x hj => by
      have hlt : j < m * s.esz := by have := (List.getElem?_eq_some_iff.1 hj).1; simpa [news] using this
      rw [add_plain, hcl j hlt]
      simp only [news, List.getElem?_map, List.getElem?_range hlt, Option.map_some, Option.some.injEq] at hj
      rw [hj]
    have hy : ∀ q, q < m → ∃ x, ys[q]? = some x := fun q hq => ⟨ys[q], List.getElem?_eq_getElem (by omega)⟩
    have hcd : ∀ q j d, q < m → (s.cells fun _ => ys.getD q s.d0)[j]? = some d → RD w S (us (q * s.esz + j)) d := fun q j d hq hd => by
      obtain ⟨x, hx⟩ := hy q hq
      have e : ys.getD q s.d0 = x := by simp [List.getD_eq_getElem?_getD, hx]
      rw [e] at hd
      exact hrdu q j _ d (by rw [List.getElem?_map, hx]; rfl) hd
    have h1 : ∀ x ∈ news, x.oneCell' = true := fun x hx => by
      simp only [news, List.mem_map, List.mem_range] at hx
      obtain ⟨k, hk, rfl⟩ := hx
      have hes : 0 < s.esz := by omega
      have hq : k / s.esz < m := Nat.div_lt_of_lt_mul (by rw [Nat.mul_comm]; exact hk)
      have hj : k % s.esz < (s.cells fun _ => ys.getD (k / s.esz) s.d0).length := by rw [s.hlen]; exact Nat.mod_lt _ hes
      have := hcd (k / s.esz) (k % s.esz) _ hq (List.getElem?_eq_getElem hj)
      have e : k / s.esz * s.esz + k % s.esz = k := by rw [Nat.mul_comm]; exact Nat.div_add_mod k s.esz
      rw [e] at this
      exact (one_cell this (ones_mem (s.hone _) _ (List.getElem_mem _))).1
    have hnb : ∀ n : Nat, n ≤ n * i.bytes := fun n => Nat.le_mul_of_pos_right n hby
    have hsum := hnb ((xs ()).length + m)
    -- the row behind it
    have mk : ∀ (w' : World) (g cap n : Nat) (cur : Array Value), n = (xs ()).length → w'.heap[g]? = some (.cells cur s.ty (0, 0)) → n + m ≤ cap → cap ≤ maxLen → cur.size = cap * s.esz → (∀ b, S b → w'.heap[b]? = w.heap[b]?) →
        (∀ p j d, p < n → (s.cells fun _ => (xs ()).getD p s.d0)[j]? = some d → RD w S (cur.getD (p * s.esz + j) undef) d) → (∀ k, k < m * s.esz → cur.getD (n * s.esz + k) undef = us k) →
        RowOK w' S (fun b => b = g) (.slice (some ⟨g, 0, none⟩) (n + m) cap) (.sl s (fun _ => xs () ++ ys)) := by
      intro w' g cap n cur hn hg hcap hmx hcs hsame hold hnew
      refine .sl g (n + m) cap cur (by simp [hn, hm]) hg hcap hmx hcs (fun _ _ => s.hlen _) fun p j d hp hd => ?_
      by_cases hpn : p < n
      · have e : (xs () ++ ys).getD p s.d0 = (xs ()).getD p s.d0 := by simp [List.getD_eq_getElem?_getD, List.getElem?_append_left (show p < (xs ()).length by omega)]
        rw [e] at hd
        exact (hold p j d hpn hd).mono (fun _ h => h) hsame
      · have e : (xs () ++ ys).getD p s.d0 = ys.getD (p - n) s.d0 := by simp [List.getD_eq_getElem?_getD, List.getElem?_append_right (show (xs ()).length ≤ p by omega), hn]
        rw [e] at hd
        have hj : j < s.esz := by have := (List.getElem?_eq_some_iff.1 hd).1; rwa [s.hlen] at this
        have hq : p - n < m := by omega
        have e2 : p * s.esz + j = n * s.esz + ((p - n) * s.esz + j) := by
          rw [← Nat.add_assoc, ← Nat.add_mul]; congr 2; omega
        have hk : (p - n) * s.esz + j < m * s.esz := by
          have : (p - n + 1) * s.esz ≤ m * s.esz := Nat.mul_le_mul_right _ hq
          rw [Nat.add_mul, Nat.one_mul] at this; omega
        rw [e2, hnew _ hk]
        exact (hcd (p - n) j d hq hd).mono (fun _ h => h) hsame
    have hgetnew : ∀ k, k < m * s.esz → news.getD k undef = us k := fun k hk => by simp [news, List.getD_eq_getElem?_getD, List.getElem?_range hk]
    rcases hr.inv with ⟨e, rfl, hGn⟩ | ⟨g, n, cap, cur, rfl, hn, hg, hnc, hmx, hc, hlen, hrd, hGi⟩
    · -- onto nil
      have hx0 : (xs ()).length = 0 := by simp [e]
      have hrun := run_append_nil (P := P) w t ty s.ty i z ht hi hz ⟨b0, o0, none⟩ m c news hnl hnews (by omega) (by omega) (by have := hb; rw [hx0] at this; simp at this; omega)
      have hge := grownCap_ge w m 0 s.ty
      have hlm := grownCap_le_maxLen w m 0 s.ty (by unfold maxLen; omega)
      refine ⟨_, _, fun b => b = w.heap.size, hrun, ext_drew_alloc w _ _, ?_, fun b hb => by subst hb; exact ⟨.inr (Nat.le_refl _), by rw [alloc_size]; exact Nat.lt_succ_self _⟩⟩
      have := mk (w.drew.alloc (.cells (news.toArray ++ Builtin.zeroCells z.cells (grownCap w m 0 s.ty - m)) s.ty)) w.heap.size (grownCap w m 0 s.ty) 0 _ hx0.symm (alloc_new w.drew _) (by omega) hlm
        (by simp only [Array.size_append, List.size_toArray, size_zeroCells, hzs, hnl, hsz, ← Nat.add_mul]; congr 1; omega)
        (fun b hs => (ext_drew_alloc w _ (fun _ => False)).block b (hS b hs).1 (fun h => h)) (fun p j d hp => by omega)
        (fun k hk => by rw [Nat.zero_mul, Nat.zero_add, ← hgetnew k hk]; simp [Array.getD_eq_getD_getElem?, List.getD_eq_getElem?_getD, Array.getElem?_append, hnl, show k < m * i.size by rw [← hsz]; exact hk])
      rw [Nat.zero_add] at this; exact this
    · by_cases hroom : n + m ≤ cap
      · -- in place
        have hfit : n * i.size + news.length ≤ cur.size := by rw [hnl, hc, hsz, ← Nat.add_mul]; exact Nat.mul_le_mul_right _ hroom
        have hrun := run_append_room (P := P) w t ty s.ty i ht hi g n cap cur hg ⟨b0, o0, none⟩ m c news hnl hnews h1 hroom hfit
        have hlt : g < w.heap.size := (Array.getElem?_eq_some_iff.1 hg).1
        refine ⟨_, _, fun b => b = g, hrun, Ext.setRow hg ((hGi g).2 rfl), ?_, fun b hb => by subst hb; exact ⟨.inl ((hGi _).2 rfl), by simpa [World.setRow] using hlt⟩⟩
        refine mk _ g cap n _ hn (setRow_heap w g cur _ s.ty _ hg) hroom hmx (by rw [seg_size _ _ _ hfit]; exact hc) (fun b hs => setRow_other w g b _ fun e => (hS b hs).2 ((hGi b).2 e)) ?_ ?_
        · intro p j d hp hd
          have hj : j < s.esz := by have := (List.getElem?_eq_some_iff.1 hd).1; rwa [s.hlen] at this
          have hpe : p * s.esz + j < n * s.esz := by
            have : (p + 1) * s.esz ≤ n * s.esz := Nat.mul_le_mul_right _ hp
            rw [Nat.add_mul, Nat.one_mul] at this; omega
          rw [seg_get _ _ _ _ hfit, if_neg (by rw [← hsz]; omega)]
          exact hrd p j d hp hd
        · intro k hk
          rw [seg_get _ _ _ _ hfit, if_pos (by rw [hnl, ← hsz]; omega), ← hsz, show n * s.esz + k - n * s.esz = k by omega]
          exact hgetnew k hk
      · -- into a new block
        have hol : (cur.toList.take (n * s.esz)).length = n * i.size := by simp only [List.length_take, Array.length_toList, hc]; rw [Nat.min_eq_left (Nat.mul_le_mul_right _ hnc), hsz]
        have holds : ∀ (j : Nat) (x : Value), (cur.toList.take (n * s.esz))[j]? = some x → w.cell? ((⟨g, 0, none⟩ : Addr).add j) = some x := fun j x hj => by
          have hlt : j < n * s.esz := by have := (List.getElem?_eq_some_iff.1 hj).1; rw [hol, ← hsz] at this; exact this
          have hlc : j < cur.size := by rw [hc]; exact Nat.lt_of_lt_of_le hlt (Nat.mul_le_mul_right _ hnc)
          rw [add_plain, Nat.zero_add, cell_of_row hg hlc]
          rw [List.getElem?_take, if_pos hlt] at hj
          simp only [Array.getD_eq_getD_getElem?, ← Array.getElem?_toList, hj, Option.getD_some]
        have hrun := run_append_grow (P := P) w t ty s.ty i z ht hi hz ⟨g, 0, none⟩ n cap _ hol holds ⟨b0, o0, none⟩ m c news hnl hnews (by omega) (by omega) (growslice_fits (by omega) (by rw [hn]; exact hb))
        have hge := grownCap_ge w (n + m) cap s.ty
        have hlm := grownCap_le_maxLen w (n + m) cap s.ty (by unfold maxLen; omega)
        refine ⟨_, _, fun b => b = w.heap.size, hrun, ext_drew_alloc w _ _, ?_, fun b hb => by subst hb; exact ⟨.inr (Nat.le_refl _), by rw [alloc_size]; exact Nat.lt_succ_self _⟩⟩
        refine mk _ w.heap.size _ n _ hn (alloc_new w.drew _) hge hlm ?_ (fun b hs => (ext_drew_alloc w _ (fun _ => False)).block b (hS b hs).1 (fun h => h)) ?_ ?_
        · rw [Array.size_append, Array.size_append, List.size_toArray, List.size_toArray, size_zeroCells, hzs, hnl, hol, hsz, ← Nat.add_mul, ← Nat.add_mul]; congr 1; omega
        · intro p j d hp hd
          have hj : j < s.esz := by have := (List.getElem?_eq_some_iff.1 hd).1; rwa [s.hlen] at this
          have hpe : p * s.esz + j < n * s.esz := by
            have : (p + 1) * s.esz ≤ n * s.esz := Nat.mul_le_mul_right _ hp
            rw [Nat.add_mul, Nat.one_mul] at this; omega
          have := hrd p j d hp hd
          have e : ((cur.toList.take (n * s.esz)).toArray ++ news.toArray ++ Builtin.zeroCells z.cells (grownCap w (n + m) cap s.ty - (n + m))).getD (p * s.esz + j) undef = cur.getD (p * s.esz + j) undef := by
            simp only [Array.getD_eq_getD_getElem?, Array.append_assoc]
            rw [Array.getElem?_append_left (by simp only [List.size_toArray, hol, ← hsz]; exact hpe)]
            simp [List.getElem?_take, hpe]
          rw [e]; exact this
        · intro k hk
          rw [← hgetnew k hk]
          simp only [Array.getD_eq_getD_getElem?, Array.append_assoc, List.getD_eq_getElem?_getD]
          have hos : (cur.toList.take (n * s.esz)).toArray.size = n * s.esz := by rw [List.size_toArray, hol, hsz]
          rw [Array.getElem?_append_right (by rw [hos]; omega), hos, show n * s.esz + k - n * s.esz = k by omega, Array.getElem?_append_left (by rw [List.size_toArray, hns]; exact hk)]
          simp only [List.getElem?_toArray]
end
end Go.Eng

/- The engine, part 11: what a function's contract says; calls; append as an operation. -/
namespace Go.Eng

/-- Arguments: values that read as data, rows that are written (their blocks in Fs), rows handed over. -/
inductive ArgsOK (w : World) (S : Nat → Prop) : List Arg → List Value → List (Nat → Prop) → Prop
  | nil : ArgsOK w S [] [] []
  | d {x : D} {v : Value} {as : List Arg} {vs : List Value} {Fs : List (Nat → Prop)} (h : RD w S v x) (t : ArgsOK w S as vs Fs) : ArgsOK w S (.d x :: as) (v :: vs) Fs
  | row {x : Row} {G : Nat → Prop} {v : Value} {as : List Arg} {vs : List Value} {Fs : List (Nat → Prop)} (h : RowOK w S G v x) (hG : ∀ b, G b → b < w.heap.size ∧ ¬ S b) (hd : ∀ H ∈ Fs, ∀ b, G b → ¬ H b) (t : ArgsOK w S as vs Fs) :
      ArgsOK w S (.row x :: as) (v :: vs) (G :: Fs)
  | take {x : Row} {G : Nat → Prop} {v : Value} {as : List Arg} {vs : List Value} {Fs : List (Nat → Prop)} (h : RowOK w S G v x) (hG : ∀ b, G b → b < w.heap.size ∧ ¬ S b) (hd : ∀ H ∈ Fs, ∀ b, G b → ¬ H b) (t : ArgsOK w S as vs Fs) :
      ArgsOK w S (.take x :: as) (v :: vs) (G :: Fs)

/-- The rows that were written, behind the call; T: the blocks that were handed over, K: those that were written. -/
inductive RowsOK (w : World) (S : Nat → Prop) : List Arg → List Value → List (Nat → Prop) → List Row → Prop
  | nil : RowsOK w S [] [] [] []
  | d {x : D} {v : Value} {as : List Arg} {vs : List Value} {Fs : List (Nat → Prop)} {xs : List Row} (t : RowsOK w S as vs Fs xs) : RowsOK w S (.d x :: as) (v :: vs) Fs xs
  | row {x y : Row} {G : Nat → Prop} {v : Value} {as : List Arg} {vs : List Value} {Fs : List (Nat → Prop)} {xs : List Row} (h : RowOK w S G v y) (he : ∀ s ys, y = .sl s ys → ∃ xs, x = .sl s xs) (hG : ∀ b, G b → ¬ S b) (t : RowsOK w S as vs Fs xs) : RowsOK w S (.row x :: as) (v :: vs) (G :: Fs) (y :: xs)
  | take {x : Row} {G : Nat → Prop} {v : Value} {as : List Arg} {vs : List Value} {Fs : List (Nat → Prop)} {xs : List Row} (t : RowsOK w S as vs Fs xs) : RowsOK w S (.take x :: as) (v :: vs) (G :: Fs) xs

/-- The blocks of rows handed over. -/
def Taken : List Arg → List (Nat → Prop) → Nat → Prop
  | .d _ :: as, Fs, b => Taken as Fs b
  | .row _ :: as, _ :: Fs, b => Taken as Fs b
  | .take _ :: as, G :: Fs, b => G b ∨ Taken as Fs b
  | _, _, _ => False

/-- Results; H: the blocks of the rows among them. -/
inductive ResL (w : World) (S : Nat → Prop) : List Value → List Res → (Nat → Prop) → Prop
  | nil : ResL w S [] [] (fun _ => False)
  | d {x : D} {v : Value} {vs : List Value} {l : List Res} {H : Nat → Prop} (h : RD w S v x) (t : ResL w S vs l H) : ResL w S (v :: vs) (.d x :: l) H
  | row {x : Row} {G H : Nat → Prop} {v : Value} {vs : List Value} {l : List Res} (h : RowOK w S G v x) (hd : ∀ b, G b → ¬ H b) (t : ResL w S vs l H) : ResL w S (v :: vs) (.row x :: l) (fun b => G b ∨ H b)
inductive ResOK (w : World) (S : Nat → Prop) : Value → Res → (Nat → Prop) → Prop
  | d {x : D} {v : Value} (h : RD w S v x) : ResOK w S v (.d x) (fun _ => False)
  | row {x : Row} {G : Nat → Prop} {v : Value} (h : RowOK w S G v x) : ResOK w S v (.row x) G
  | tup {l : List Res} {vs : Array Value} {H : Nat → Prop} (h : ResL w S vs.toList l H) : ResOK w S (.tuple vs) (.tup l) H

/-- THE CONTRACT OF A FUNCTION. -/
def GCall (P : Program) (f : FuncId) (as : List Arg) (R : Res) (xs : List Row) : Prop :=
  ∀ (w : World) (S : Nat → Prop) (vs : List Value) (Fs : List (Nat → Prop)), (∀ b, S b → b < w.heap.size) → ArgsOK w S as vs Fs →
    Calls P f vs.toArray w fun e w' => ∃ v S' H, e = .returned v ∧ Ext w w' (fun b => ∃ G ∈ Fs, G b) ∧ (∀ b, S b → S' b) ∧ (∀ b, S' b → b < w'.heap.size ∧ (S b ∨ w.heap.size ≤ b)) ∧
      ResOK w' S' v R H ∧ (∀ b, H b → b < w'.heap.size ∧ ¬ S' b ∧ (w.heap.size ≤ b ∨ Taken as Fs b)) ∧ RowsOK w' S' as vs Fs xs

/-! ### What holds no memory reads alike everywhere -/

theorem RD.flat {w w' : World} {S S' : Nat → Prop} {v : Value} {x : D} (h : RD w S v x) : x.flat = true → RD w' S' v x := by
  have hl : ∀ (l : List D), D.flat.flatL l = true → ∀ (j : Nat) (d : D), l[j]? = some d → d.flat = true := by
    intro l
    induction l with
    | nil => intro _ j d h; simp at h
    | cons x l ih =>
      intro h j d hd
      unfold D.flat.flatL at h
      cases hx : x.flat with
      | false => rw [hx] at h; cases h
      | true =>
        rw [hx] at h; simp only [cond_true] at h
        cases j with
        | zero => simp at hd; subst hd; exact hx
        | succ j => exact ih h j d (by simpa using hd)
  induction h with
  | v x => exact fun _ => .v x
  | i k n => exact fun _ => .i k n
  | b b => exact fun _ => .b b
  | s x => exact fun _ => .s x
  | agg vs h _ ih => exact fun hf => .agg vs h fun j d hd => ih j d hd (hl _ (by simpa [D.flat] using hf) j d hd)
  | nilsl a c h => intro hf; simp [D.flat] at hf
  | sl b off n c us hb hn hlen hcell _ hc _ => intro hf; simp [D.flat] at hf
  | box b us hb hcell _ _ => intro hf; simp [D.flat] at hf
  | fn vs h _ _ => intro hf; simp [D.flat] at hf
theorem flatL_get {l : List D} (h : D.flat.flatL l = true) (j : Nat) (d : D) (hd : l[j]? = some d) : d.flat = true := by
  induction l generalizing j with
  | nil => simp at hd
  | cons x l ih =>
    unfold D.flat.flatL at h
    cases hx : x.flat with
    | false => rw [hx] at h; cases h
    | true =>
      rw [hx] at h; simp only [cond_true] at h
      cases j with
      | zero => simp at hd; subst hd; exact hx
      | succ j => exact ih h j (by simpa using hd)
theorem RowOK.flat {w : World} {S S' G : Nat → Prop} {v : Value} {x : Row} (h : RowOK w S G v x) (hf : x.Flat) : RowOK w S' G v x := by
  cases h with
  | nil h => exact .nil h
  | sl g n cap cur hn hg hnc hm hc hlen hrd => exact .sl g n cap cur hn hg hnc hm hc hlen fun i j d hi hd => (hrd i j d hi hd).flat (flatL_get (hf _) j d hd)
  | box g ty cur hg hc hrd => exact .box g ty cur hg hc fun j d hd => (hrd j d hd).flat (flatL_get hf j d hd)
theorem ResL.flat {w : World} {S S' H : Nat → Prop} {vs : List Value} {l : List Res} (h : ResL w S vs l H) : Res.Flat.FlatL l → ResL w S' vs l H := by
  induction h with
  | nil => exact fun _ => .nil
  | d h _ ih => exact fun hf => .d (h.flat hf.1) (ih hf.2)
  | row h hd _ ih => exact fun hf => .row (h.flat hf.1) hd (ih hf.2)
theorem ResOK.flat {w : World} {S S' H : Nat → Prop} {v : Value} {R : Res} (h : ResOK w S v R H) (hf : R.Flat) : ResOK w S' v R H := by
  cases h with
  | d h => exact .d (h.flat hf)
  | row h => exact .row (h.flat hf)
  | tup h => exact .tup (h.flat hf)
theorem RowsOK.flat {w : World} {S S' : Nat → Prop} {as : List Arg} {vs : List Value} {Fs : List (Nat → Prop)} {xs : List Row} (h : RowsOK w S as vs Fs xs) (hS : ∀ b, S' b → S b) : (∀ x ∈ xs, x.Flat) → RowsOK w S' as vs Fs xs := by
  induction h with
  | nil => exact fun _ => .nil
  | d _ ih => exact fun hf => .d (ih hf)
  | row h he hG _ ih => exact fun hf => .row (h.flat (hf _ List.mem_cons_self)) he (fun b hb hs => hG b hb (hS b hs)) (ih fun x hx => hf x (List.mem_cons_of_mem _ hx))
  | take _ ih => exact fun hf => .take (ih hf)

section
variable {P : Program} {T : Tab} {c : Ctx} {K : St → AV → Prop} {w : World} {S : Nat → Prop} {ρ : Nat → Value} {F : Nat → Nat → Prop} {E : Nat → Nat}

/-- The rows of a call: by name, with whether they are handed over. -/
def Fs (F : Nat → Nat → Prop) (rs : List (Nat × Bool)) : List (Nat → Prop) := rs.map fun p => F p.1
def Lent (σ : St) (F : Nat → Nat → Prop) (rs : List (Nat × Bool)) (b : Nat) : Prop := ∃ r x, lkp σ.rows r = some x ∧ memK r rs = false ∧ F r b

theorem memK_iff : ∀ {l : List (Nat × Bool)} {r : Nat}, memK r l = true ↔ ∃ q, (r, q) ∈ l
  | [], r => by simp [memK]
  | (q, z) :: l, r => by
    unfold memK
    by_cases e : q = r
    · subst e; simp [Nat.beq_refl]
    · rw [beq_ne e]; simp only [cond_false, memK_iff, List.mem_cons, Prod.mk.injEq]
      exact ⟨fun ⟨x, h⟩ => ⟨x, .inr h⟩, fun ⟨x, h⟩ => h.elim (fun h => absurd h.1.symm e) fun h => ⟨x, h⟩⟩

theorem hitsL_get {r : Nat} : ∀ {l : List AV} {j : Nat} {v : AV}, l[j]? = some v → v.hits r = true → AV.hits.hitsL r l = true
  | [], j, v, h, _ => by simp at h
  | x :: l, j, v, h, hv => by
    unfold AV.hits.hitsL
    cases hx : x.hits r with
    | true => rfl
    | false =>
      simp only [cond_false]
      cases j with
      | zero => simp only [List.getElem?_cons_zero, Option.some.injEq] at h; subst h; rw [hv] at hx; cases hx
      | succ j => exact hitsL_get (j := j) (by simpa using h) hv

theorem bor_sound {σ : St} (hM : Mem c σ.rows w S ρ F E) {S2 : Nat → Prop} (hS : ∀ b, S b → S2 b) {u : Value} {v : AV} (hv : VOK w S ρ E u v) :
    (∀ (r : Nat) (x : Row) (b : Nat), v.hits r = true → lkp σ.rows r = some x → F r b → S2 b) → ∀ {d : D}, bor σ v = some d → RD w S2 u d := by
  induction hv with
  | d h => intro _ d hb; simp only [bor, Option.some.injEq] at hb; subst hb; exact h.mono hS (fun _ _ => rfl)
  | own r =>
    intro hL d hb
    simp only [bor] at hb
    split at hb
    · rename_i s xs hr
      simp only [Option.some.injEq] at hb; subst hb
      exact (hM.row r _ hr).rd.mono (fun b hb => hb.elim (hS b) (hL r _ b (by simp [AV.hits, Nat.beq_refl]) hr)) (fun _ _ => rfl)
    · cases hb
  | bptr r o g h =>
    intro hL d hb
    cases o with
    | zero =>
      simp only [bor] at hb
      split at hb
      · rename_i cs hr
        simp only [Option.some.injEq] at hb; subst hb
        have := (hM.row r _ hr).rdBox.mono (w' := w) (fun b hb => hb.elim (hS b) (hL r _ b (by simp [AV.hits, Nat.beq_refl]) hr)) (fun _ _ => rfl)
        rw [h] at this; exact this
      · cases hb
    | succ o => simp [bor] at hb
  | pptr o b h =>
    intro _ d hb
    cases o with
    | zero => simp only [bor, Option.some.injEq] at hb; subst hb; exact h.mono hS (fun _ _ => rfl)
    | succ o => simp [bor] at hb
  | @fn f caps vs h hvs ih =>
    intro hL d hb
    simp only [bor] at hb
    split at hb
    · rename_i ds hds
      simp only [Option.some.injEq] at hb; subst hb
      have key : ∀ (l : List AV) (ds : List D), bor.borL σ l = some ds → l.length = ds.length ∧ ∀ (j : Nat) (d : D), ds[j]? = some d → ∃ v, l[j]? = some v ∧ bor σ v = some d := by
        intro l
        induction l with
        | nil => intro ds h; simp only [bor.borL, Option.some.injEq] at h; subst h; exact ⟨rfl, by simp⟩
        | cons v l ih =>
          intro ds h
          simp only [bor.borL] at h
          split at h
          · rename_i x xs h1 h2
            simp only [Option.some.injEq] at h; subst h
            obtain ⟨e1, e2⟩ := ih xs h2
            refine ⟨by simp [e1], fun j d hj => ?_⟩
            cases j with
            | zero => simp only [List.getElem?_cons_zero, Option.some.injEq] at hj; subst hj; exact ⟨v, rfl, h1⟩
            | succ j => simpa using e2 j d (by simpa using hj)
          · cases h
      obtain ⟨e1, e2⟩ := key _ _ hds
      refine .fn vs (h.trans e1) fun j d hj => ?_
      obtain ⟨v, h1, h2⟩ := e2 j d hj
      exact ih j v h1 (fun r x b hh => hL r x b (by simp only [AV.hits]; exact hitsL_get h1 hh)) h2
    · cases hb
  | _ => intro _ d hb; simp [bor] at hb

/-- Arguments, values and rows in step. -/
inductive Corr (T : Tab) (σ : St) (ρ : Nat → Value) : List Arg → List Value → List (Nat × Bool) → Prop
  | nil : Corr T σ ρ [] [] []
  | d {x : D} {u : Value} {as : List Arg} {us : List Value} {rs : List (Nat × Bool)} (t : Corr T σ ρ as us rs) : Corr T σ ρ (.d x :: as) (u :: us) rs
  | row {r : Nat} {s : Sh} {xs : Th (List s.α)} {as : List Arg} {us : List Value} {rs : List (Nat × Bool)} (hr : lkp σ.rows r = some (.sl s xs)) (hn : memK r rs = false) (ha : allowed T r = true) (t : Corr T σ ρ as us rs) :
      Corr T σ ρ (.row (.sl s xs) :: as) (ρ r :: us) ((r, false) :: rs)
  | take {r : Nat} {s : Sh} {xs : Th (List s.α)} {as : List Arg} {us : List Value} {rs : List (Nat × Bool)} (hr : lkp σ.rows r = some (.sl s xs)) (hn : memK r rs = false) (ha : allowed T r = true) (hb : T.base ≤ r) (t : Corr T σ ρ as us rs) :
      Corr T σ ρ (.take (.sl s xs) :: as) (ρ r :: us) ((r, true) :: rs)

theorem Corr.rows {σ : St} {as : List Arg} {us : List Value} {rs : List (Nat × Bool)} (h : Corr T σ ρ as us rs) : ∀ p ∈ rs, ∃ y, lkp σ.rows p.1 = some y ∧ allowed T p.1 = true ∧ (p.2 = true → T.base ≤ p.1) := by
  induction h with
  | nil => intro p hp; cases hp
  | d _ ih => exact ih
  | row hr _ ha _ ih =>
    intro p hp
    rcases List.mem_cons.1 hp with rfl | hp
    · exact ⟨_, hr, ha, fun h => by cases h⟩
    · exact ih p hp
  | take hr _ ha hb _ ih =>
    intro p hp
    rcases List.mem_cons.1 hp with rfl | hp
    · exact ⟨_, hr, ha, fun _ => hb⟩
    · exact ih p hp

theorem blt_false {r n : Nat} (h : Nat.blt r n = false) : n ≤ r := Nat.le_of_not_lt fun h' => by
  have : Nat.blt r n = true := by simpa [Nat.blt_eq] using h'
  rw [this] at h; cases h

theorem hitsAny_false : ∀ {rs : List (Nat × Bool)} {v : AV} {r : Nat}, hitsAny rs v = false → v.hits r = true → memK r rs = false
  | [], v, r, _, _ => rfl
  | (q, z) :: l, v, r, h, hv => by
    unfold hitsAny at h
    cases hq : v.hits q with
    | true => rw [hq] at h; cases h
    | false =>
      rw [hq] at h; simp only [cond_false] at h
      unfold memK
      by_cases e : q = r
      · subst e; rw [hv] at hq; cases hq
      · rw [beq_ne e]; exact hitsAny_false h hv

/-- What a call may read: where nothing is lent, what nobody writes; else also every row that this call does not write. -/
def S2 (σ : St) (S : Nat → Prop) (F : Nat → Nat → Prop) (rs : List (Nat × Bool)) (nb : Bool) (b : Nat) : Prop := S b ∨ (nb = false ∧ Lent σ F rs b)

theorem mkArgs_sound {σ : St} (hM : Mem c σ.rows w S ρ F E) (rs0 : List (Nat × Bool)) (nb0 : Bool) : ∀ {vs : List AV} {ms : List Mode} {us : List Value} {as : List Arg} {rs : List (Nat × Bool)} {nb : Bool},
    mkArgs1 T σ ms vs = some (as, rs, nb) → okB rs0 ms vs = true → (∀ r, memK r rs = true → memK r rs0 = true) → (nb0 = true → nb = true) → us.length = vs.length → (∀ j v, vs[j]? = some v → VOK w S ρ E (us.getD j undef) v) →
    ArgsOK w (S2 σ S F rs0 nb0) as us (Fs F rs) ∧ Corr T σ ρ as us rs
  | [], ms, us, as, rs, nb, h, _, _, _, hl, _ => by
    have : mkArgs1 T σ ms [] = some ([], [], true) := by cases ms with | nil => rfl | cons m ms => cases m <;> rfl
    rw [this] at h
    simp only [Option.some.injEq, Prod.mk.injEq] at h
    obtain ⟨rfl, rfl, rfl⟩ := h
    cases us with
    | nil => exact ⟨.nil, .nil⟩
    | cons u us => simp at hl
  | v :: vs, ms, us, as, rs, nb, h, ho, hsub, hnb, hl, hv => by
    cases us with
    | nil => simp at hl
    | cons u us =>
      have hl' : us.length = vs.length := by simpa using hl
      have hv0 : VOK w S ρ E u v := by simpa using hv 0 v rfl
      have hv' : ∀ j x, vs[j]? = some x → VOK w S ρ E (us.getD j undef) x := fun j x hj => by simpa using hv (j + 1) x (by simpa using hj)
      have lend : ∀ {ms' : List Mode} {x : D} {as' : List Arg} {nb' : Bool}, bor σ v = some x → mkArgs1 T σ ms' vs = some (as', rs, nb') → hitsAny rs0 v = false → okB rs0 ms' vs = true → nb = (bif nb' then isD v else false) → as = .d x :: as' →
          ArgsOK w (S2 σ S F rs0 nb0) as (u :: us) (Fs F rs) ∧ Corr T σ ρ as (u :: us) rs := by
        intro ms' x as' nb' hb hm hh ho' hn hae
        subst hae
        obtain ⟨t1, t2⟩ := mkArgs_sound hM rs0 nb0 hm ho' hsub (fun h => by
          have := hnb h; rw [hn] at this
          cases nb' with
          | true => rfl
          | false => simp at this) hl' hv'
        refine ⟨.d (bor_sound hM (fun b hb => .inl hb) hv0 (fun r y b hr hy hF => ?_) hb) t1, .d t2⟩
        refine .inr ⟨?_, r, y, hy, hitsAny_false hh hr, hF⟩
        cases hn0 : nb0 with
        | false => rfl
        | true =>
          have := hnb hn0
          rw [hn] at this
          cases nb' with
          | false => simp at this
          | true =>
            simp only [cond_true] at this
            exfalso
            cases v <;> simp [isD] at this <;> simp [AV.hits] at hr
      have own : ∀ {r : Nat} {s : Sh} {xs : Th (List s.α)} {rs' : List (Nat × Bool)} {as' : List Arg} {nb' : Bool} {ms' : List Mode} {z : Bool}, v = .own r → lkp σ.rows r = some (.sl s xs) → mkArgs1 T σ ms' vs = some (as', rs', nb') → okB rs0 ms' vs = true →
          memK r rs' = false → allowed T r = true → rs = (r, z) :: rs' → nb = nb' →
          u = ρ r ∧ RowOK w (S2 σ S F rs0 nb0) (F r) (ρ r) (.sl s xs) ∧ (∀ b, F r b → b < w.heap.size ∧ ¬ S2 σ S F rs0 nb0 b) ∧ (∀ H ∈ Fs F rs', ∀ b, F r b → ¬ H b) ∧ ArgsOK w (S2 σ S F rs0 nb0) as' us (Fs F rs') ∧ Corr T σ ρ as' us rs' := by
        intro r s xs rs' as' nb' ms' z hve hr hm ho' hmk hal hrs hnn
        subst hve; subst hrs; subst hnn
        have hsub' : ∀ q, memK q rs' = true → memK q rs0 = true := fun q hq => hsub q (by unfold memK; by_cases e : r = q <;> simp [e, Nat.beq_refl, beq_ne, hq])
        obtain ⟨t1, t2⟩ := mkArgs_sound hM rs0 nb0 hm ho' hsub' hnb hl' hv'
        cases hv0 with
        | own r =>
          refine ⟨rfl, (hM.row r _ hr).mono (fun b hb => .inl hb) (fun _ _ => rfl) (fun _ _ => rfl), fun b hb => ⟨(hM.blk r _ hr b hb).1, ?_⟩, ?_, t1, t2⟩
          · rintro (h1 | ⟨_, q, y, hq, hmq, hFq⟩)
            · exact (hM.blk r _ hr b hb).2.1 h1
            · have : memK r rs0 = true := hsub r (by unfold memK; simp [Nat.beq_refl])
              have hne : r ≠ q := fun e => by subst e; rw [this] at hmq; cases hmq
              exact hM.dis r q _ _ hne hr hq b hb hFq
          · intro H hH b hb hHb
            simp only [Fs, List.mem_map] at hH
            obtain ⟨⟨q, z'⟩, hq, rfl⟩ := hH
            have hne : r ≠ q := fun e => by subst e; rw [memK_iff.2 ⟨z', hq⟩] at hmk; cases hmk
            have hqr : ∃ y, lkp σ.rows q = some y ∧ allowed T q = true ∧ (z' = true → T.base ≤ q) := t2.rows _ hq
            obtain ⟨y, hy, _⟩ := hqr
            exact hM.dis r q _ _ hne hr hy b hb hHb
      cases ms with
      | nil =>
        simp only [mkArgs1] at h
        simp only [okB] at ho
        cases hh : hitsAny rs0 v with
        | true => rw [hh] at ho; cases ho
        | false =>
          rw [hh] at ho; simp only [cond_false] at ho
          split at h
          · rename_i x as' rs' nb' hb hm
            simp only [Option.some.injEq, Prod.mk.injEq] at h
            obtain ⟨h1, rfl, h3⟩ := h
            exact lend hb hm hh ho h3.symm h1.symm
          · cases h
      | cons m ms =>
        cases m with
        | b =>
          simp only [mkArgs1] at h
          simp only [okB] at ho
          cases hh : hitsAny rs0 v with
          | true => rw [hh] at ho; cases ho
          | false =>
            rw [hh] at ho; simp only [cond_false] at ho
            split at h
            · rename_i x as' rs' nb' hb hm
              simp only [Option.some.injEq, Prod.mk.injEq] at h
              obtain ⟨h1, rfl, h3⟩ := h
              exact lend hb hm hh ho h3.symm h1.symm
            · cases h
        | m =>
          simp only [mkArgs1] at h
          simp only [okB] at ho
          split at h
          · rename_i r
            split at h
            · rename_i s xs as' rs' nb' hr hm
              cases h1 : memK r rs' with
              | true => rw [h1] at h; cases h
              | false => cases h2 : allowed T r with
                | false => rw [h1, h2] at h; cases h
                | true =>
                  rw [h1, h2] at h
                  simp only [cond_true, cond_false, Option.some.injEq, Prod.mk.injEq] at h
                  obtain ⟨rfl, h4, h5⟩ := h
                  obtain ⟨e1, e2, e3, e4, e5, e6⟩ := own rfl hr hm ho h1 h2 h4.symm h5.symm
                  subst e1; subst h4
                  exact ⟨.row e2 e3 e4 e5, .row hr h1 h2 e6⟩
            · cases h
          · cases h
        | t =>
          simp only [mkArgs1] at h
          simp only [okB] at ho
          split at h
          · rename_i r
            split at h
            · rename_i s xs as' rs' nb' hr hm
              cases h1 : memK r rs' with
              | true => rw [h1] at h; cases h
              | false => cases h3 : Nat.blt r T.base with
                | true => rw [h1, h3] at h; cases h
                | false => cases h2 : allowed T r with
                  | false => rw [h1, h3, h2] at h; cases h
                  | true =>
                    rw [h1, h3, h2] at h
                    simp only [cond_true, cond_false, Option.some.injEq, Prod.mk.injEq] at h
                    obtain ⟨rfl, h4, h5⟩ := h
                    obtain ⟨e1, e2, e3, e4, e5, e6⟩ := own rfl hr hm ho h1 h2 h4.symm h5.symm
                    subst e1; subst h4
                    exact ⟨.take e2 e3 e4 e5, .take hr h1 h2 (blt_false h3) e6⟩
            · cases h
          · cases h
end
end Go.Eng
