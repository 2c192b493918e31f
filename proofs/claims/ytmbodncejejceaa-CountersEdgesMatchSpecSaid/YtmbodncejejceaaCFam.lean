/- The shapes of the program's lists, and the table of contracts. -/
import Derived.Test.YtmbodncejejceaaCEngB
import Derived.Test.YtmbodncejejceaaCPlA
import Derived.Test.YtmbodncejejceaaChecked
import Derived.KernelRfl
set_option linter.all false

namespace Go.Eng
open Go.Proofs

@[reducible] def intSh : Sh where
  α := Int
  ty := 3
  esz := 1
  cells := fun x => [.i .i64 x]
  d0 := 0
  zs := [.int .i64 0]
  dec := fun ds => match ds with
    | [.i .i64 x] => some x
    | _ => none
  hlen := fun _ => rfl
  hone := fun _ => rfl
  hdec := by
    intro ds x h
    split at h
    · simp only [Option.some.injEq] at h; subst h; rfl
    · cases h
  hz := by
    refine ⟨rfl, fun j v d h1 h2 => ?_⟩
    cases j with
    | zero => simp at h1 h2; subst h1 h2; exact .inl rfl
    | succ j => simp at h1
abbrev ints (xs : Th (List Int)) : D := .sl 1 (fun x => [.i .i64 x]) 0 xs
abbrev num (n : Th Int) : D := .i .i64 n
abbrev bol (b : Th Bool) : D := .b (.dyn b)

@[reducible] def boolSh : Sh where
  α := Bool
  ty := 4
  esz := 1
  cells := fun x => [.b (.dyn x)]
  d0 := false
  zs := [.bool false]
  dec := fun ds => match ds with
    | [.b (.dyn x)] => some x
    | _ => none
  hlen := fun _ => rfl
  hone := fun _ => rfl
  hdec := by
    intro ds x h
    split at h
    · simp only [Option.some.injEq] at h; subst h; rfl
    · cases h
  hz := by
    refine ⟨rfl, fun j v d h1 h2 => ?_⟩
    cases j with
    | zero => simp at h1 h2; subst h1 h2; exact .inr rfl
    | succ j => simp at h1

@[reducible] def nearSh : Sh where
  α := Near
  ty := 40
  esz := 3
  cells := fun x => [.i .i64 (fun _ => (x ()).1), .i .i64 (fun _ => (x ()).2.1), .i .i64 (fun _ => (x ()).2.2)]
  d0 := (0, 0, 0)
  zs := [.int .i64 0, .int .i64 0, .int .i64 0]
  dec := fun ds => match ds with
    | [.i .i64 x, .i .i64 y, .i .i64 z] => some (fun _ => (x (), y (), z ()))
    | _ => none
  hlen := fun _ => rfl
  hone := fun _ => rfl
  hdec := by
    intro ds x h
    split at h
    · simp only [Option.some.injEq] at h; subst h; rfl
    · cases h
  hz := by
    refine ⟨rfl, fun j v d h1 h2 => ?_⟩
    match j with
    | 0 => simp at h1 h2; subst h1 h2; exact .inl rfl
    | 1 => simp at h1 h2; subst h1 h2; exact .inl rfl
    | 2 => simp at h1 h2; subst h1 h2; exact .inl rfl
    | j + 3 => simp at h1
abbrev nears (xs : Th (List Near)) : D := .sl 3 (fun x => [.i .i64 (fun _ => (x ()).1), .i .i64 (fun _ => (x ()).2.1), .i .i64 (fun _ => (x ()).2.2)]) (0, 0, 0) xs

@[reducible] def listSh : Sh where
  α := List Int
  ty := 22
  esz := 1
  cells := fun x => [ints x]
  d0 := []
  zs := [.slice none 0 0]
  dec := fun _ => none
  hlen := fun _ => rfl
  hone := fun _ => rfl
  hdec := by intro ds x h; cases h
  hz := by
    refine ⟨rfl, fun j v d h1 h2 => ?_⟩
    cases j with
    | zero => simp at h1 h2; subst h1 h2; exact .inr ⟨rfl, rfl⟩
    | succ j => simp at h1
abbrev lists (xs : Th (List (List Int))) : D := .sl 1 (fun x => [ints x]) [] xs

abbrev Way2 := List Int × List Int
@[reducible] def waySh : Sh where
  α := Way2
  ty := 109
  esz := 2
  cells := fun x => [ints (fun _ => (x ()).1), ints (fun _ => (x ()).2)]
  d0 := ([], [])
  zs := [.slice none 0 0, .slice none 0 0]
  dec := fun _ => none
  hlen := fun _ => rfl
  hone := fun _ => rfl
  hdec := by intro ds x h; cases h
  hz := by
    refine ⟨rfl, fun j v d h1 h2 => ?_⟩
    match j with
    | 0 => simp at h1 h2; subst h1 h2; exact .inr ⟨rfl, rfl⟩
    | 1 => simp at h1 h2; subst h1 h2; exact .inr ⟨rfl, rfl⟩
    | j + 2 => simp at h1
abbrev ways (xs : Th (List Way2)) : D := .sl 2 (fun x => [ints (fun _ => (x ()).1), ints (fun _ => (x ()).2)]) ([], []) xs

@[reducible] def listsSh : Sh where
  α := List (List Int)
  ty := 63
  esz := 1
  cells := fun x => [lists x]
  d0 := []
  zs := [.slice none 0 0]
  dec := fun _ => none
  hlen := fun _ => rfl
  hone := fun _ => rfl
  hdec := by intro ds x h; cases h
  hz := by
    refine ⟨rfl, fun j v d h1 h2 => ?_⟩
    cases j with
    | zero => simp at h1 h2; subst h1 h2; exact .inr ⟨rfl, rfl⟩
    | succ j => simp at h1

abbrev Pair := Int × Int
@[reducible] def pairShOf (ty : Nat) : Sh where
  α := Pair
  ty := ty
  esz := 2
  cells := fun x => [.i .i64 (fun _ => (x ()).1), .i .i64 (fun _ => (x ()).2)]
  d0 := (0, 0)
  zs := [.int .i64 0, .int .i64 0]
  dec := fun ds => match ds with
    | [.i .i64 x, .i .i64 y] => some (fun _ => (x (), y ()))
    | _ => none
  hlen := fun _ => rfl
  hone := fun _ => rfl
  hdec := by
    intro ds x h
    split at h
    · simp only [Option.some.injEq] at h; subst h; rfl
    · cases h
  hz := by
    refine ⟨rfl, fun j v d h1 h2 => ?_⟩
    match j with
    | 0 => simp at h1 h2; subst h1 h2; exact .inl rfl
    | 1 => simp at h1 h2; subst h1 h2; exact .inl rfl
    | j + 2 => simp at h1
@[reducible] def pairSh : Sh := pairShOf 62
@[reducible] def edgeSh : Sh := pairShOf 80
abbrev pairs (xs : Th (List Pair)) : D := .sl 2 (fun x => [.i .i64 (fun _ => (x ()).1), .i .i64 (fun _ => (x ()).2)]) (0, 0) xs
@[reducible] def cedgeSh : Sh := { nearSh with ty := 124, hz := nearSh.hz }

abbrev Blk := Int × Int × Int × List Pair
@[reducible] def blockSh : Sh where
  α := Blk
  ty := 78
  esz := 4
  cells := fun x => [.i .i64 (fun _ => (x ()).1), .i .i64 (fun _ => (x ()).2.1), .i .i64 (fun _ => (x ()).2.2.1), pairs (fun _ => (x ()).2.2.2)]
  d0 := (0, 0, 0, [])
  zs := [.int .i64 0, .int .i64 0, .int .i64 0, .slice none 0 0]
  dec := fun _ => none
  hlen := fun _ => rfl
  hone := fun _ => rfl
  hdec := by intro ds x h; cases h
  hz := by
    refine ⟨rfl, fun j v d h1 h2 => ?_⟩
    match j with
    | 0 => simp at h1 h2; subst h1 h2; exact .inl rfl
    | 1 => simp at h1 h2; subst h1 h2; exact .inl rfl
    | 2 => simp at h1 h2; subst h1 h2; exact .inl rfl
    | 3 => simp at h1 h2; subst h1 h2; exact .inr ⟨rfl, rfl⟩
    | j + 4 => simp at h1
abbrev blocks (xs : Th (List Blk)) : D := .sl 4 (fun x => [.i .i64 (fun _ => (x ()).1), .i .i64 (fun _ => (x ()).2.1), .i .i64 (fun _ => (x ()).2.2.1), pairs (fun _ => (x ()).2.2.2)]) (0, 0, 0, []) xs

abbrev fault (c i : Th Int) : D := .agg [.i .i64 c, .i .i64 i]

structure CTx (f : FuncId) (ag : List Arg) (R : Res) (xs : List Row) : Prop where
  h : GCall Try.prog f ag R xs

def fam : List Nat := [3,4,5,6,7,8,9,10,11,12,13,14,15,16,17,18,19,20,21,22,23,24,25,26,27,28,29,30,31,32,33,34,35,36,37,38,39,40,41,42,43,44,45,46,47,48,49,50,51,52,53,54,55,56,57,58,59,60,61,62,63,64,65,66,67,68,69,70,71,72,73,74,75,76,77,78,79,80,81,82,83,84,85,86,87,88,89,90,91,92,93,94,95,96,97,98,99,100,101,102,103,104,105,106,107,108,109,110,111,112,113,114,115,116,117,118,119,120,121,122,123,124,125,126,127,128,129,130,131,132,133,134,135,136,137,138]

noncomputable def famOk (f : Nat) : Bool := match Try.prog.funcs[f]? with
  | some fn => !(fn.name == "runtime.NumGoroutine") && !fn.body.isNone
  | none => false
theorem fam_ok : fam.all famOk = true := by kernel_rfl

def tab (base : Nat) (modes : FuncId → List Mode) : Tab where
  sh := fun n => match n with
    | 3 => some intSh
    | 4 => some boolSh
    | 40 => some nearSh
    | 22 => some listSh
    | 109 => some waySh
    | 63 => some listsSh
    | 62 => some pairSh
    | 80 => some edgeSh
    | 124 => some cedgeSh
    | 78 => some blockSh
    | _ => none
  fns := fam
  base := base
  ct := CTx
  modes := modes
  mod := none

theorem tabOK (b : Nat) (m : FuncId → List Mode) : TabOK Try.prog (tab b m) where
  ct := fun _ _ _ _ h => h.h
  fns := fun f h => by
    have h1 : famOk f = true := List.all_eq_true.1 fam_ok f (mem_iff.1 h)
    unfold famOk at h1
    split at h1
    · rename_i fn hfn
      simp only [Bool.and_eq_true, Bool.not_eq_true'] at h1
      exact ⟨fn, hfn, h1.1, h1.2⟩
    · cases h1

theorem VCall.mk' {T : Tab} {f : FuncId} {ag : List Arg} {rs : List (Nat × Bool)} {nb : Bool} {σ : St} {vs : List AV} {K : St → AV → Prop} {R : Res} {xs : List Row} (hc : T.ct f ag R xs)
    (hf : nb = true ∨ (R.Flat ∧ ∀ x ∈ xs, x.Flat)) (hk : andThen T (after σ rs xs) R K) : VCall T f (some (ag, rs, nb)) σ vs K := ⟨fun e => .go e.symm hc hf hk⟩

def m0 : FuncId → List Mode := fun _ => []

end Go.Eng
