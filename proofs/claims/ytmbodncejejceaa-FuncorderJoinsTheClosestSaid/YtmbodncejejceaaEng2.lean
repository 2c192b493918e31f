/- The engine, part 2: from the model's code to the compact code. -/
import Derived.Test.YtmbodncejejceaaEng1
import Derived.Laws.Build
import Derived.Orders
set_option linter.all false
namespace Go.Eng

def xOf : Operand → Option X
  | .tmp t => some (.t t)
  | .const v => some (.c v)
  | .func f => some (.f f)
  | .global _ => none
def xsOf' : List Operand → Option (List X)
  | [] => some []
  | x :: l => match xOf x, xsOf' l with
    | some y, some m => some (y :: m)
    | _, _ => none

def aggOf (P : Program) (t : TypeId) : Option (Option Nat) := match P.underlying t with
  | some (.struct _) => (P.info? t).map fun i => some i.size
  | some (.array _ _) => (P.info? t).map fun i => some i.size
  | some _ => some none
  | none => none

def placesOf (P : Program) : List Field → Option (List (Nat × Nat))
  | [] => some []
  | f :: l => match P.info? f.type, placesOf P l with
    | some i, some m => some ((f.offset, i.size) :: m)
    | _, _ => none
def partsAt (pl : Nat → Option (Nat × Nat)) : List (Nat × Operand) → Option (List (Nat × Nat × X))
  | [] => some []
  | (i, x) :: l => match pl i, xOf x, partsAt pl l with
    | some (o, n), some y, some m => some ((o, n, y) :: m)
    | _, _, _ => none
/-- Parts 0, 1, 2, .. one behind the other. -/
def inRow : Nat → List (Nat × Operand) → Option (List X)
  | _, [] => some []
  | k, (i, x) :: l => bif Nat.beq i k then match xOf x, inRow (k + 1) l with
    | some y, some m => some (y :: m)
    | _, _ => none
    else none

/-- Fields by which structs are compared: numbers and truth values alone. -/
def eqFields (P : Program) : List Field → Option (List (Nat × Bool))
  | [] => some []
  | f :: l => bif f.name == "_" then none else match P.underlying f.type, eqFields P l with
    | some (.int _), some m => some ((f.offset, true) :: m)
    | some .bool, some m => some ((f.offset, false) :: m)
    | _, _ => none

def isNil : Operand → Bool
  | .const (.slice none 0 0) => true
  | _ => false

def binOf (P : Program) (op : BinOp) (t : TypeId) (x y : Operand) : Option IOp := match P.underlying t with
  | some (.int k) => match op, xOf x, xOf y with
    | .add, some a, some b => some (.bin .add k a b)
    | .sub, some a, some b => some (.bin .sub k a b)
    | .mul, some a, some b => some (.bin .mul k a b)
    | .quo, some a, some b => some (.bin .quo k a b)
    | .rem, some a, some b => some (.bin .rem k a b)
    | .eql, some a, some b => some (.bin .eql k a b)
    | .neq, some a, some b => some (.bin .neq k a b)
    | .lss, some a, some b => some (.bin .lss k a b)
    | .leq, some a, some b => some (.bin .leq k a b)
    | .gtr, some a, some b => some (.bin .gtr k a b)
    | .geq, some a, some b => some (.bin .geq k a b)
    | _, _, _ => none
  | some .bool => match op, xOf x, xOf y with
    | .eql, some a, some b => some (.eqb false a b)
    | .neq, some a, some b => some (.eqb true a b)
    | _, _, _ => none
  | some (.slice _) => match op, isNil y, xOf x with
    | .eql, true, some a => some (.eqn false a)
    | .neq, true, some a => some (.eqn true a)
    | _, _, _ => none
  | some (.struct fs) => bif P.stoodInHeld t then none else bif P.eqGuardType P.depth t then none else match op, eqFields P fs.toList, xOf x, xOf y with
    | .eql, some l, some a, some b => some (.eqa false l a b)
    | .neq, some l, some a, some b => some (.eqa true l a b)
    | _, _, _, _ => none
  | _ => none

def callOf (P : Program) (one : Bool) (c : Call) : Option IOp := match c.callee with
  | .value f => match xOf f, xsOf' c.args.toList with
    | some (.f g), some xs => some (.call g xs)
    | some (.t n), some xs => some (.callv (.t n) xs)
    | _, _ => none
  | .invoke _ _ => none
  | .builtin b => match b, c.args.toList, c.argTypes.toList with
    | .len, [x], [t] => match P.underlying t, xOf x with
      | some (.slice _), some y => some (.len y)
      | some .string, some y => some (.slen y)
      | _, _ => none
    | .min, [x, y], _ => match xOf x, xOf y with
      | some a, some b => some (.mm false a b)
      | _, _ => none
    | .max, [x, y], _ => match xOf x, xOf y with
      | some a, some b => some (.mm true a b)
      | _, _ => none
    | .append, [x, y], [t, u] => match P.underlying t, P.underlying u, xOf x, xOf y with
      | some (.slice e), some (.slice _), some a, some b => bif Nat.beq t u then match P.info? e with
        | some i => match i.zero with
          | some z => bif Nat.beq z.cells.size i.size then bif Nat.blt 0 i.size then bif Nat.blt 0 i.bytes then some (bif one then .app1 e i.size i.bytes a b else .apps e i.size i.bytes a b) else none else none else none
          | none => none
        | none => none
        else none
      | _, _, _, _ => none
    | _, _, _ => none

def opOf (P : Program) (one : Bool) (o : Op) : Option IOp := match o with
  | .move x => (xOf x).map .mov
  | .assign x => (xOf x).map .mov
  | .pick c a b => match xOf c, xOf a, xOf b with
    | some c, some a, some b => some (.pick c a b)
    | _, _, _ => none
  | .alloc t => match P.info? t with
    | some i => match i.zero with
      | some z => some (.alloc z.cells.toList)
      | none => none
    | none => none
  | .box _ x => (xOf x).map .box
  | .build t ps => match P.underlying t, P.info? t with
    | some (.struct fs), some i => match i.zero, placesOf P fs.toList with
      | some z, some pl => match partsAt (fun k => pl[k]?) ps.toList with
        | some l => some (.build z.cells.toList l)
        | none => none
      | _, _ => none
    | some (.array _ e), some i => match i.zero, P.info? e with
      | some z, some ie => match partsAt (fun k => some (k * ie.size, ie.size)) ps.toList with
        | some l => some (.build z.cells.toList l)
        | none => none
      | _, _ => none
    | _, _ => none
  | .buildSlice t n ps => match P.underlying t with
    | some (.slice e) => match P.info? e, inRow 0 ps.toList with
      | some i, some xs => bif Nat.beq xs.length n then bif Nat.ble (n * i.size) 16777216 then bif Nat.ble n 16777216 then match i.zero with
          | some z => bif Nat.beq z.cells.size i.size then some (.bsl e i.size xs) else none
          | none => none
          else none else none else none
      | _, _ => none
    | _ => none
  | .load t a => match aggOf P t, xOf a with
    | some g, some x => some (.load g x)
    | _, _ => none
  | .store t a v => match P.info? t, xOf a, xOf v with
    | some i, some x, some y => some (.store i.size x y)
    | _, _, _ => none
  | .binOp op t x y _ => binOf P op t x y
  | .unOp .not _ x => (xOf x).map .not
  | .unOp .neg t x => match P.underlying t, xOf x with
    | some (.int k), some a => some (.neg k a)
    | _, _ => none
  | .convert s t x => match P.underlying s, P.underlying t, xOf x with
    | some (.int _), some (.int k), some a => some (.conv k a)
    | _, _, _ => none
  | .makeInterface t _ => bif P.concrete t then some .mki else none
  | .makeFunc (.func f) first caps => bif first.isEmpty then (xsOf' caps.toList).map (.mkf f) else none
  | .makeSlice t l c => match P.underlying t, xOf l, xOf c with
    | some (.slice e), some a, some b => match P.info? e with
      | some i => match i.zero with
        | some z => bif Nat.beq z.cells.size i.size then bif Nat.blt 0 i.size then bif Nat.blt 0 i.bytes then some (.mks e i.size i.bytes z.cells.toList a b) else none else none else none
        | none => none
      | none => none
    | _, _, _ => none
  | .slice t x lo hi mx => match P.underlying t, xOf x, mx with
    | some (.slice e), some a, none => match P.info? e with
      | some i => bif Nat.blt 0 i.size then match lo, hi with
        | none, none => some (.slc i.size a none none)
        | some l, none => (xOf l).map fun l => .slc i.size a (some l) none
        | none, some h => (xOf h).map fun h => .slc i.size a none (some h)
        | some l, some h => match xOf l, xOf h with
          | some l, some h => some (.slc i.size a (some l) (some h))
          | _, _ => none
        else none
      | none => none
    | _, _, _ => none
  | .fieldAddr t x k => match P.underlying t, xOf x with
    | some (.struct fs), some a => match fs[k]? with
      | some f => match P.info? f.type with
        | some i => bif Nat.beq i.size 0 then none else some (.faddr f.offset a)
        | none => none
      | none => none
    | _, _ => none
  | .field t x k => match P.underlying t, xOf x with
    | some (.struct fs), some a => match fs[k]? with
      | some f => (aggOf P f.type).map fun g => .fld f.offset g a
      | none => none
    | _, _ => none
  | .indexAddr t x i => match P.underlying t, xOf x, xOf i with
    | some (.slice e), some a, some j => match P.info? e with
      | some ie => bif Nat.beq ie.size 0 then none else some (.iaddr ie.size a j)
      | none => none
    | some (.array n e), some a, some j => match P.info? e with
      | some ie => bif Nat.beq ie.size 0 then none else some (.aaddr n ie.size a j)
      | none => none
    | _, _, _ => none
  | .extract x k => (xOf x).map fun a => .ext a k
  | .call c => callOf P one c
  | .panic _ => some .pan
  | _ => none

/-- What one says ahead of a piece of code: the slots that are read behind a region; where the ways are cut; which appends take what was just laid out. -/
structure Hint where
  n : Nat
  keep : Nat → List Nat
  one : Nat → Bool
  cut : Nat → Bool
  dr : Nat → Option (List (Nat × Cls))

def dstOk (n : Nat) : Option Nat → Bool
  | none => true
  | some d => Nat.blt d n
def gopOf (P : Program) (H : Hint) (ops : Array Oper) (o : Oper) : Option GOp := bif dstOk H.n o.dst then match opOf P (match o.dst with | some d => H.one d | none => false) o.op with
  | some i => match o.guard with
    | none => some ⟨none, o.dst, i⟩
    | some (j, pol) => match (ops[j]?).bind (·.dst) with
      | some s => some ⟨some (s, pol), o.dst, i⟩
      | none => none
  | none => none
  else none
def gopsOf (P : Program) (H : Hint) (ops : Array Oper) : List Oper → Option (List GOp)
  | [] => some []
  | o :: l => match gopOf P H ops o, gopsOf P H ops l with
    | some g, some m => some (g :: m)
    | _, _ => none

/-- The first region's number: cuts are named by the region that follows. -/
def firstReg : Code → Option Nat
  | .region id _ _ => some id
  | .seq a _ => firstReg a
  | .block _ b => firstReg b
  | .loop b => firstReg b
  | _ => none

/-! Drawn regions: an order that stands for all; class p: pure, r: reads memory, and nothing that writes may come in between, g: stands alone. -/
def clsOf : List (Nat × Cls) → Nat → Cls
  | [], _ => .g
  | (i, k) :: l, n => bif Nat.beq i n then k else clsOf l n
def isG : Cls → Bool
  | .g => true
  | _ => false
def sameCls : Cls → Cls → Bool
  | .p, .p => true
  | .r, .r => true
  | .g, .g => true
  | _, _ => false
def fsts : List (Nat × Cls) → List Nat
  | [] => []
  | (i, _) :: l => i :: fsts l
/-- What stands behind an operation. -/
def descs (ops : Array Oper) : List Nat → List Nat → List Nat
  | acc, [] => acc
  | acc, j :: js => match ops[j]? with
    | some o => bif o.after.any (fun e => Region.binds .any e && mem acc e.on) then descs ops (j :: acc) js else descs ops acc js
    | none => descs ops acc js
def drGo (ops : Array Oper) (cls : Nat → Cls) : List (Nat × Cls) → Array Bool → Bool
  | [], listed => (Region.ready .any ops listed).isEmpty
  | (i, k) :: l, listed => bif sameCls (cls i) k then bif (match k with
      | .p => (Region.ready .any ops listed).contains i && Region.free .any ops listed i
      | .r => (Region.ready .any ops listed).contains i && Region.free .any ops listed i && (List.range ops.size).all fun j => listed.getD j true || Nat.beq j i || !isG (cls j) || mem (descs ops [i] (fsts l)) j
      | .g => match Region.ready .any ops listed with
        | [j] => Nat.beq j i
        | _ => false) then drGo ops cls l (listed.setIfInBounds i true) else false else false
def drOk (ops : Array Oper) (perm : List (Nat × Cls)) : Bool := Region.noSelect ops && Nat.beq perm.length ops.size && drGo ops (clsOf perm) perm (Array.replicate ops.size false)
/-- Pure operations. -/
def pureOp : IOp → Bool
  | .mov _ => true
  | .pick _ _ _ => true
  | .bin _ _ _ _ => true
  | .eqb _ _ _ => true
  | .eqn _ _ => true
  | .eqa _ _ _ _ => true
  | .not _ => true
  | .neg _ _ => true
  | .conv _ _ => true
  | .build _ _ => true
  | .faddr _ _ => true
  | .iaddr _ _ _ => true
  | .aaddr _ _ _ _ => true
  | .fld _ _ _ => true
  | .ext _ _ => true
  | .len _ => true
  | .slen _ => true
  | .mm _ _ _ => true
  | .slc _ _ _ _ => true
  | .mkf _ _ => true
  | .mki => true
  | _ => false
def loadOp : Op → Bool
  | .load _ _ => true
  | _ => false
def clsOp : Cls → Op → IOp → Bool
  | .p, _, o => pureOp o
  | .r, o, _ => loadOp o
  | .g, _, _ => true
def gopsD (P : Program) (H : Hint) (ops : Array Oper) : List (Nat × Cls) → Option (List GOp)
  | [] => some []
  | (i, k) :: l => match ops[i]? with
    | some o => match gopOf P H ops o, gopsD P H ops l with
      | some g, some m => bif clsOp k o.op g.op then some (g :: m) else none
      | _, _ => none
    | none => none

def erase (P : Program) (H : Hint) : Code → CC
  | .skip => .skip
  | .region id ops draw => match draw with
    | false => match gopsOf P H ops ops.toList with
      | some l => .reg (H.keep id) l
      | none => .bad
    | true => match H.dr id with
      | some perm => bif drOk ops perm then match gopsD P H ops perm with
        | some l => .reg (H.keep id) l
        | none => .bad
        else .bad
      | none => .bad
  | .seq a b => match firstReg b with
    | some id => bif H.cut id then .cut (erase P H a) (erase P H b) else .seq (erase P H a) (erase P H b)
    | none => .seq (erase P H a) (erase P H b)
  | .cond c a b => match xOf c with
    | some x => .cond x (erase P H a) (erase P H b)
    | none => .bad
  | .block id b => .block id (erase P H b)
  | .loop b => .loop (erase P H b)
  | .exit id => .exit id
  | .ret => .ret
  | _ => .bad


def lk : List (Nat × List Nat) → Nat → List Nat
  | [], _ => []
  | (m, v) :: l, n => bif Nat.beq m n then v else lk l n
def lkd : List (Nat × List (Nat × Cls)) → Nat → Option (List (Nat × Cls))
  | [], _ => none
  | (m, v) :: l, n => bif Nat.beq m n then some v else lkd l n

end Go.Eng
