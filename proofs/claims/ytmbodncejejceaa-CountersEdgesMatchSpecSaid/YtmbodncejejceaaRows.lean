/-
  No cell of these rows narrows 'for every input' (looked for: loops, veiled, ifaces, maps, wideKeys, modest, calm, conditions, laid).
  DERIVED. THE GIVEN ROWS OF THIS SEAT. 16 by the template 'for every input the law returns true; each argument reads behind the call as it read before'; 0 by the template 'total and deterministic' (their statements: YtmbodncejejceaaTotals.lean).
  GIVEN WITH THE SEED: the statements are not yours to turn. If you find one false, say at which input.
  Laid BY PROGRAM, IN A SANDBOX (cutbox-rows.mjs): the forced cells as the released guide's own fill.sh prints them over the translation 904a89fddff70ebc… (all of the seat's roots in one cut). By AI agents, Wed Nov 11 2026. No macro, syntax, notation, axiom, sorry.
-/
import Derived.Test.YtmbodncejejceaaChecked
import GoSem.Claim
import GoSem.ClaimJoined
import GoSem.ClaimMapViews
import Derived.JoinedTies
import Derived.KernelRfl
namespace Go.Proofs.Ytmbodncejejceaa
/- THE CELL 'sum', in the pinned program and in every row, IS THE sha256 OF THE DUMP (.gsa) THAT YtmbodncejejceaaProg.lean LOADS. Nothing in Lean hashes anything: it is a label: what it is worth is what the hold of that sum in a sandbox is worth. -/
noncomputable def Try.pinned : Pinned := { name := "ytmbodncejejceaa", sum := "904a89fddff70ebcbcb5fb2959995653b9ce8be99cf5822651423cb6ecd02f80", checked := Try.checked }
namespace Rows
def none {H : Type} : Left H := { results := [], args := [] }

/-- 'linkhouselaw7.FuncorderMatchesSpec': WHATEVER THE INPUT: true; the input reads as it did. -/
def funcorderMatchesSpecSpec : ChangeSpec := { name := "funcorderMatchesSpec", fn := fun _ => fun
  | [d1, d2] => { results := [.lit (.bool true)], args := [d1, d2] }
  | _ => none }
def funcorderMatchesSpecRow : OpenClaim := { program := "ytmbodncejejceaa", sum := "904a89fddff70ebcbcb5fb2959995653b9ce8be99cf5822651423cb6ecd02f80", func := "linkhouse/linkhouselaw7.FuncorderMatchesSpec", spec := "funcorderMatchesSpec", unfollowed := true, recurses := true, apart := false }
def FuncorderMatchesSpecSaid : Prop := funcorderMatchesSpecRow.holds Try.pinned (OpenSpec.ofChange funcorderMatchesSpecSpec)

/-- ITS FALSE NEIGHBOUR: 'it returns false'. Refute it at one input. -/
def funcorderMatchesSpecWrong : ChangeSpec := { name := "funcorderMatchesSpec", fn := fun _ => fun
  | [d1, d2] => { results := [.lit (.bool false)], args := [d1, d2] }
  | _ => none }
def FuncorderMatchesSpecWrongFalsely : Prop := funcorderMatchesSpecRow.holds Try.pinned (OpenSpec.ofChange funcorderMatchesSpecWrong)

/-- 'linkhouselaw7.FuncorderCostMatchesSpec': WHATEVER THE INPUT: true; the input reads as it did. -/
def funcorderCostMatchesSpecSpec : ChangeSpec := { name := "funcorderCostMatchesSpec", fn := fun _ => fun
  | [d1, d2, d3] => { results := [.lit (.bool true)], args := [d1, d2, d3] }
  | _ => none }
def funcorderCostMatchesSpecRow : OpenClaim := { program := "ytmbodncejejceaa", sum := "904a89fddff70ebcbcb5fb2959995653b9ce8be99cf5822651423cb6ecd02f80", func := "linkhouse/linkhouselaw7.FuncorderCostMatchesSpec", spec := "funcorderCostMatchesSpec", unfollowed := true, recurses := true, apart := false }
def FuncorderCostMatchesSpecSaid : Prop := funcorderCostMatchesSpecRow.holds Try.pinned (OpenSpec.ofChange funcorderCostMatchesSpecSpec)

/-- ITS FALSE NEIGHBOUR: 'it returns false'. Refute it at one input. -/
def funcorderCostMatchesSpecWrong : ChangeSpec := { name := "funcorderCostMatchesSpec", fn := fun _ => fun
  | [d1, d2, d3] => { results := [.lit (.bool false)], args := [d1, d2, d3] }
  | _ => none }
def FuncorderCostMatchesSpecWrongFalsely : Prop := funcorderCostMatchesSpecRow.holds Try.pinned (OpenSpec.ofChange funcorderCostMatchesSpecWrong)

/-- 'linkhouselaw7.FuncorderIsComplete': WHATEVER THE INPUT: true; the input reads as it did. -/
def funcorderIsCompleteSpec : ChangeSpec := { name := "funcorderIsComplete", fn := fun _ => fun
  | [d1, d2] => { results := [.lit (.bool true)], args := [d1, d2] }
  | _ => none }
def funcorderIsCompleteRow : OpenClaim := { program := "ytmbodncejejceaa", sum := "904a89fddff70ebcbcb5fb2959995653b9ce8be99cf5822651423cb6ecd02f80", func := "linkhouse/linkhouselaw7.FuncorderIsComplete", spec := "funcorderIsComplete", unfollowed := true, recurses := true, apart := false }
def FuncorderIsCompleteSaid : Prop := funcorderIsCompleteRow.holds Try.pinned (OpenSpec.ofChange funcorderIsCompleteSpec)

/-- ITS FALSE NEIGHBOUR: 'it returns false'. Refute it at one input. -/
def funcorderIsCompleteWrong : ChangeSpec := { name := "funcorderIsComplete", fn := fun _ => fun
  | [d1, d2] => { results := [.lit (.bool false)], args := [d1, d2] }
  | _ => none }
def FuncorderIsCompleteWrongFalsely : Prop := funcorderIsCompleteRow.holds Try.pinned (OpenSpec.ofChange funcorderIsCompleteWrong)

/-- 'linkhouselaw7.FuncorderIgnoresDirections': WHATEVER THE INPUT: true; the input reads as it did. -/
def funcorderIgnoresDirectionsSpec : ChangeSpec := { name := "funcorderIgnoresDirections", fn := fun _ => fun
  | [d1, d2] => { results := [.lit (.bool true)], args := [d1, d2] }
  | _ => none }
def funcorderIgnoresDirectionsRow : OpenClaim := { program := "ytmbodncejejceaa", sum := "904a89fddff70ebcbcb5fb2959995653b9ce8be99cf5822651423cb6ecd02f80", func := "linkhouse/linkhouselaw7.FuncorderIgnoresDirections", spec := "funcorderIgnoresDirections", unfollowed := true, recurses := true, apart := false }
def FuncorderIgnoresDirectionsSaid : Prop := funcorderIgnoresDirectionsRow.holds Try.pinned (OpenSpec.ofChange funcorderIgnoresDirectionsSpec)

/-- ITS FALSE NEIGHBOUR: 'it returns false'. Refute it at one input. -/
def funcorderIgnoresDirectionsWrong : ChangeSpec := { name := "funcorderIgnoresDirections", fn := fun _ => fun
  | [d1, d2] => { results := [.lit (.bool false)], args := [d1, d2] }
  | _ => none }
def FuncorderIgnoresDirectionsWrongFalsely : Prop := funcorderIgnoresDirectionsRow.holds Try.pinned (OpenSpec.ofChange funcorderIgnoresDirectionsWrong)

/-- 'linkhouselaw7.FuncorderJoinsTheClosest': WHATEVER THE INPUT: true; the input reads as it did. -/
def funcorderJoinsTheClosestSpec : ChangeSpec := { name := "funcorderJoinsTheClosest", fn := fun _ => fun
  | [d1, d2, d3, d4] => { results := [.lit (.bool true)], args := [d1, d2, d3, d4] }
  | _ => none }
def funcorderJoinsTheClosestRow : OpenClaim := { program := "ytmbodncejejceaa", sum := "904a89fddff70ebcbcb5fb2959995653b9ce8be99cf5822651423cb6ecd02f80", func := "linkhouse/linkhouselaw7.FuncorderJoinsTheClosest", spec := "funcorderJoinsTheClosest", unfollowed := true, recurses := true, apart := false }
def FuncorderJoinsTheClosestSaid : Prop := funcorderJoinsTheClosestRow.holds Try.pinned (OpenSpec.ofChange funcorderJoinsTheClosestSpec)

/-- ITS FALSE NEIGHBOUR: 'it returns false'. Refute it at one input. -/
def funcorderJoinsTheClosestWrong : ChangeSpec := { name := "funcorderJoinsTheClosest", fn := fun _ => fun
  | [d1, d2, d3, d4] => { results := [.lit (.bool false)], args := [d1, d2, d3, d4] }
  | _ => none }
def FuncorderJoinsTheClosestWrongFalsely : Prop := funcorderJoinsTheClosestRow.holds Try.pinned (OpenSpec.ofChange funcorderJoinsTheClosestWrong)

/-- 'linkhouselaw7.CountersPlaceMatchesSpec': WHATEVER THE INPUT: true; the input reads as it did. -/
def countersPlaceMatchesSpecSpec : ChangeSpec := { name := "countersPlaceMatchesSpec", fn := fun _ => fun
  | [d1, d2, d3] => { results := [.lit (.bool true)], args := [d1, d2, d3] }
  | _ => none }
def countersPlaceMatchesSpecRow : OpenClaim := { program := "ytmbodncejejceaa", sum := "904a89fddff70ebcbcb5fb2959995653b9ce8be99cf5822651423cb6ecd02f80", func := "linkhouse/linkhouselaw7.CountersPlaceMatchesSpec", spec := "countersPlaceMatchesSpec", unfollowed := true, recurses := true, apart := false }
def CountersPlaceMatchesSpecSaid : Prop := countersPlaceMatchesSpecRow.holds Try.pinned (OpenSpec.ofChange countersPlaceMatchesSpecSpec)

/-- ITS FALSE NEIGHBOUR: 'it returns false'. Refute it at one input. -/
def countersPlaceMatchesSpecWrong : ChangeSpec := { name := "countersPlaceMatchesSpec", fn := fun _ => fun
  | [d1, d2, d3] => { results := [.lit (.bool false)], args := [d1, d2, d3] }
  | _ => none }
def CountersPlaceMatchesSpecWrongFalsely : Prop := countersPlaceMatchesSpecRow.holds Try.pinned (OpenSpec.ofChange countersPlaceMatchesSpecWrong)

/-- 'linkhouselaw7.CountersCountsMatchSpec': WHATEVER THE INPUT: true; the input reads as it did. -/
def countersCountsMatchSpecSpec : ChangeSpec := { name := "countersCountsMatchSpec", fn := fun _ => fun
  | [d1, d2, d3, d4] => { results := [.lit (.bool true)], args := [d1, d2, d3, d4] }
  | _ => none }
def countersCountsMatchSpecRow : OpenClaim := { program := "ytmbodncejejceaa", sum := "904a89fddff70ebcbcb5fb2959995653b9ce8be99cf5822651423cb6ecd02f80", func := "linkhouse/linkhouselaw7.CountersCountsMatchSpec", spec := "countersCountsMatchSpec", unfollowed := true, recurses := true, apart := false }
def CountersCountsMatchSpecSaid : Prop := countersCountsMatchSpecRow.holds Try.pinned (OpenSpec.ofChange countersCountsMatchSpecSpec)

/-- ITS FALSE NEIGHBOUR: 'it returns false'. Refute it at one input. -/
def countersCountsMatchSpecWrong : ChangeSpec := { name := "countersCountsMatchSpec", fn := fun _ => fun
  | [d1, d2, d3, d4] => { results := [.lit (.bool false)], args := [d1, d2, d3, d4] }
  | _ => none }
def CountersCountsMatchSpecWrongFalsely : Prop := countersCountsMatchSpecRow.holds Try.pinned (OpenSpec.ofChange countersCountsMatchSpecWrong)

/-- 'linkhouselaw7.CountersAreFewest': WHATEVER THE INPUT: true; the input reads as it did. -/
def countersAreFewestSpec : ChangeSpec := { name := "countersAreFewest", fn := fun _ => fun
  | [d1, d2, d3, d4] => { results := [.lit (.bool true)], args := [d1, d2, d3, d4] }
  | _ => none }
def countersAreFewestRow : OpenClaim := { program := "ytmbodncejejceaa", sum := "904a89fddff70ebcbcb5fb2959995653b9ce8be99cf5822651423cb6ecd02f80", func := "linkhouse/linkhouselaw7.CountersAreFewest", spec := "countersAreFewest", unfollowed := true, recurses := true, apart := false }
def CountersAreFewestSaid : Prop := countersAreFewestRow.holds Try.pinned (OpenSpec.ofChange countersAreFewestSpec)

/-- ITS FALSE NEIGHBOUR: 'it returns false'. Refute it at one input. -/
def countersAreFewestWrong : ChangeSpec := { name := "countersAreFewest", fn := fun _ => fun
  | [d1, d2, d3, d4] => { results := [.lit (.bool false)], args := [d1, d2, d3, d4] }
  | _ => none }
def CountersAreFewestWrongFalsely : Prop := countersAreFewestRow.holds Try.pinned (OpenSpec.ofChange countersAreFewestWrong)

/-- 'linkhouselaw7.CountersAreAdditive': WHATEVER THE INPUT: true; the input reads as it did. -/
def countersAreAdditiveSpec : ChangeSpec := { name := "countersAreAdditive", fn := fun _ => fun
  | [d1, d2, d3, d4, d5] => { results := [.lit (.bool true)], args := [d1, d2, d3, d4, d5] }
  | _ => none }
def countersAreAdditiveRow : OpenClaim := { program := "ytmbodncejejceaa", sum := "904a89fddff70ebcbcb5fb2959995653b9ce8be99cf5822651423cb6ecd02f80", func := "linkhouse/linkhouselaw7.CountersAreAdditive", spec := "countersAreAdditive", unfollowed := true, recurses := true, apart := false }
def CountersAreAdditiveSaid : Prop := countersAreAdditiveRow.holds Try.pinned (OpenSpec.ofChange countersAreAdditiveSpec)

/-- ITS FALSE NEIGHBOUR: 'it returns false'. Refute it at one input. -/
def countersAreAdditiveWrong : ChangeSpec := { name := "countersAreAdditive", fn := fun _ => fun
  | [d1, d2, d3, d4, d5] => { results := [.lit (.bool false)], args := [d1, d2, d3, d4, d5] }
  | _ => none }
def CountersAreAdditiveWrongFalsely : Prop := countersAreAdditiveRow.holds Try.pinned (OpenSpec.ofChange countersAreAdditiveWrong)

/-- 'linkhouselaw7.CountersEdgesMatchSpec': WHATEVER THE INPUT: true; the input reads as it did. -/
def countersEdgesMatchSpecSpec : ChangeSpec := { name := "countersEdgesMatchSpec", fn := fun _ => fun
  | [d1, d2] => { results := [.lit (.bool true)], args := [d1, d2] }
  | _ => none }
def countersEdgesMatchSpecRow : OpenClaim := { program := "ytmbodncejejceaa", sum := "904a89fddff70ebcbcb5fb2959995653b9ce8be99cf5822651423cb6ecd02f80", func := "linkhouse/linkhouselaw7.CountersEdgesMatchSpec", spec := "countersEdgesMatchSpec", unfollowed := true, recurses := true, apart := false }
def CountersEdgesMatchSpecSaid : Prop := countersEdgesMatchSpecRow.holds Try.pinned (OpenSpec.ofChange countersEdgesMatchSpecSpec)

/-- ITS FALSE NEIGHBOUR: 'it returns false'. Refute it at one input. -/
def countersEdgesMatchSpecWrong : ChangeSpec := { name := "countersEdgesMatchSpec", fn := fun _ => fun
  | [d1, d2] => { results := [.lit (.bool false)], args := [d1, d2] }
  | _ => none }
def CountersEdgesMatchSpecWrongFalsely : Prop := countersEdgesMatchSpecRow.holds Try.pinned (OpenSpec.ofChange countersEdgesMatchSpecWrong)

/-- 'linkhouselaw7.CountersRecoverWalks': WHATEVER THE INPUT: true; the input reads as it did. -/
def countersRecoverWalksSpec : ChangeSpec := { name := "countersRecoverWalks", fn := fun _ => fun
  | [d1, d2, d3, d4] => { results := [.lit (.bool true)], args := [d1, d2, d3, d4] }
  | _ => none }
def countersRecoverWalksRow : OpenClaim := { program := "ytmbodncejejceaa", sum := "904a89fddff70ebcbcb5fb2959995653b9ce8be99cf5822651423cb6ecd02f80", func := "linkhouse/linkhouselaw7.CountersRecoverWalks", spec := "countersRecoverWalks", unfollowed := true, recurses := true, apart := false }
def CountersRecoverWalksSaid : Prop := countersRecoverWalksRow.holds Try.pinned (OpenSpec.ofChange countersRecoverWalksSpec)

/-- ITS FALSE NEIGHBOUR: 'it returns false'. Refute it at one input. -/
def countersRecoverWalksWrong : ChangeSpec := { name := "countersRecoverWalks", fn := fun _ => fun
  | [d1, d2, d3, d4] => { results := [.lit (.bool false)], args := [d1, d2, d3, d4] }
  | _ => none }
def CountersRecoverWalksWrongFalsely : Prop := countersRecoverWalksRow.holds Try.pinned (OpenSpec.ofChange countersRecoverWalksWrong)

/-- 'linkhouselaw7.ChainMatchesSpec': WHATEVER THE INPUT: true; the input reads as it did. -/
def chainMatchesSpecSpec : ChangeSpec := { name := "chainMatchesSpec", fn := fun _ => fun
  | [d1, d2] => { results := [.lit (.bool true)], args := [d1, d2] }
  | _ => none }
def chainMatchesSpecRow : OpenClaim := { program := "ytmbodncejejceaa", sum := "904a89fddff70ebcbcb5fb2959995653b9ce8be99cf5822651423cb6ecd02f80", func := "linkhouse/linkhouselaw7.ChainMatchesSpec", spec := "chainMatchesSpec", unfollowed := true, recurses := true, apart := false }
def ChainMatchesSpecSaid : Prop := chainMatchesSpecRow.holds Try.pinned (OpenSpec.ofChange chainMatchesSpecSpec)

/-- ITS FALSE NEIGHBOUR: 'it returns false'. Refute it at one input. -/
def chainMatchesSpecWrong : ChangeSpec := { name := "chainMatchesSpec", fn := fun _ => fun
  | [d1, d2] => { results := [.lit (.bool false)], args := [d1, d2] }
  | _ => none }
def ChainMatchesSpecWrongFalsely : Prop := chainMatchesSpecRow.holds Try.pinned (OpenSpec.ofChange chainMatchesSpecWrong)

/-- 'linkhouselaw7.ChainFallsMatchesSpec': WHATEVER THE INPUT: true; the input reads as it did. -/
def chainFallsMatchesSpecSpec : ChangeSpec := { name := "chainFallsMatchesSpec", fn := fun _ => fun
  | [d1, d2, d3] => { results := [.lit (.bool true)], args := [d1, d2, d3] }
  | _ => none }
def chainFallsMatchesSpecRow : OpenClaim := { program := "ytmbodncejejceaa", sum := "904a89fddff70ebcbcb5fb2959995653b9ce8be99cf5822651423cb6ecd02f80", func := "linkhouse/linkhouselaw7.ChainFallsMatchesSpec", spec := "chainFallsMatchesSpec", unfollowed := true, recurses := true, apart := false }
def ChainFallsMatchesSpecSaid : Prop := chainFallsMatchesSpecRow.holds Try.pinned (OpenSpec.ofChange chainFallsMatchesSpecSpec)

/-- ITS FALSE NEIGHBOUR: 'it returns false'. Refute it at one input. -/
def chainFallsMatchesSpecWrong : ChangeSpec := { name := "chainFallsMatchesSpec", fn := fun _ => fun
  | [d1, d2, d3] => { results := [.lit (.bool false)], args := [d1, d2, d3] }
  | _ => none }
def ChainFallsMatchesSpecWrongFalsely : Prop := chainFallsMatchesSpecRow.holds Try.pinned (OpenSpec.ofChange chainFallsMatchesSpecWrong)

/-- 'linkhouselaw7.ChainOrderIsComplete': WHATEVER THE INPUT: true; the input reads as it did. -/
def chainOrderIsCompleteSpec : ChangeSpec := { name := "chainOrderIsComplete", fn := fun _ => fun
  | [d1, d2] => { results := [.lit (.bool true)], args := [d1, d2] }
  | _ => none }
def chainOrderIsCompleteRow : OpenClaim := { program := "ytmbodncejejceaa", sum := "904a89fddff70ebcbcb5fb2959995653b9ce8be99cf5822651423cb6ecd02f80", func := "linkhouse/linkhouselaw7.ChainOrderIsComplete", spec := "chainOrderIsComplete", unfollowed := true, recurses := true, apart := false }
def ChainOrderIsCompleteSaid : Prop := chainOrderIsCompleteRow.holds Try.pinned (OpenSpec.ofChange chainOrderIsCompleteSpec)

/-- ITS FALSE NEIGHBOUR: 'it returns false'. Refute it at one input. -/
def chainOrderIsCompleteWrong : ChangeSpec := { name := "chainOrderIsComplete", fn := fun _ => fun
  | [d1, d2] => { results := [.lit (.bool false)], args := [d1, d2] }
  | _ => none }
def ChainOrderIsCompleteWrongFalsely : Prop := chainOrderIsCompleteRow.holds Try.pinned (OpenSpec.ofChange chainOrderIsCompleteWrong)

/-- 'linkhouselaw7.ChainLinksAreKept': WHATEVER THE INPUT: true; the input reads as it did. -/
def chainLinksAreKeptSpec : ChangeSpec := { name := "chainLinksAreKept", fn := fun _ => fun
  | [d1, d2, d3, d4] => { results := [.lit (.bool true)], args := [d1, d2, d3, d4] }
  | _ => none }
def chainLinksAreKeptRow : OpenClaim := { program := "ytmbodncejejceaa", sum := "904a89fddff70ebcbcb5fb2959995653b9ce8be99cf5822651423cb6ecd02f80", func := "linkhouse/linkhouselaw7.ChainLinksAreKept", spec := "chainLinksAreKept", unfollowed := true, recurses := true, apart := false }
def ChainLinksAreKeptSaid : Prop := chainLinksAreKeptRow.holds Try.pinned (OpenSpec.ofChange chainLinksAreKeptSpec)

/-- ITS FALSE NEIGHBOUR: 'it returns false'. Refute it at one input. -/
def chainLinksAreKeptWrong : ChangeSpec := { name := "chainLinksAreKept", fn := fun _ => fun
  | [d1, d2, d3, d4] => { results := [.lit (.bool false)], args := [d1, d2, d3, d4] }
  | _ => none }
def ChainLinksAreKeptWrongFalsely : Prop := chainLinksAreKeptRow.holds Try.pinned (OpenSpec.ofChange chainLinksAreKeptWrong)

/-- 'linkhouselaw7.ChainOrderFalls': WHATEVER THE INPUT: true; the input reads as it did. -/
def chainOrderFallsSpec : ChangeSpec := { name := "chainOrderFalls", fn := fun _ => fun
  | [d1, d2, d3, d4] => { results := [.lit (.bool true)], args := [d1, d2, d3, d4] }
  | _ => none }
def chainOrderFallsRow : OpenClaim := { program := "ytmbodncejejceaa", sum := "904a89fddff70ebcbcb5fb2959995653b9ce8be99cf5822651423cb6ecd02f80", func := "linkhouse/linkhouselaw7.ChainOrderFalls", spec := "chainOrderFalls", unfollowed := true, recurses := true, apart := false }
def ChainOrderFallsSaid : Prop := chainOrderFallsRow.holds Try.pinned (OpenSpec.ofChange chainOrderFallsSpec)

/-- ITS FALSE NEIGHBOUR: 'it returns false'. Refute it at one input. -/
def chainOrderFallsWrong : ChangeSpec := { name := "chainOrderFalls", fn := fun _ => fun
  | [d1, d2, d3, d4] => { results := [.lit (.bool false)], args := [d1, d2, d3, d4] }
  | _ => none }
def ChainOrderFallsWrongFalsely : Prop := chainOrderFallsRow.holds Try.pinned (OpenSpec.ofChange chainOrderFallsWrong)

/- THE SECOND FORM. 'bulk': how many values and letters a reading holds, each counted each time it is reached (what is shared counts as often as it is met; a slice's spare places count too). A statement '..UptoSaid' is the law's where the arguments, and the package variables that the reading takes, are together of bulk at most 1048576: NARROWER than '..Said'. Prove '..Said' where nothing that the law and all that it calls make is longer than what came in: it says more and counts as full. Else prove '..UptoSaid'. A law counts once. -/
mutual
def uptoBulk {H : Type} : DataW H → Nat
  | .lit (.string bytes) => bytes.length + 1
  | .lit _ => 1
  | .nil => 1
  | .ptr d => uptoBulk d + 1
  | .slice elems spare => uptoBulkAll elems + uptoBulkAll spare + 1
  | .agg parts => uptoBulkAll parts + 1
  | .iface _ d => uptoBulk d + 1
  | .map entries => uptoBulkEntries entries + 1
  | .held _ => 1
def uptoBulkAll {H : Type} : List (DataW H) → Nat
  | [] => 0
  | d :: r => uptoBulk d + uptoBulkAll r
def uptoBulkEntries {H : Type} : List (Lit × DataW H) → Nat
  | [] => 0
  | x :: r => uptoBulkEntry x + uptoBulkEntries r
def uptoBulkEntry {H : Type} : Lit × DataW H → Nat
  | (.string bytes, d) => bytes.length + uptoBulk d + 1
  | (_, d) => uptoBulk d + 1
 end
def uptoSmall : (H : Type) → List (DataW H) → Bool := fun _ ds => decide (uptoBulkAll ds ≤ 1048576)
def OpenSpec.upto (s : _root_.Go.ChangeSpec) : _root_.Go.OpenSpec := { _root_.Go.OpenSpec.ofChange s with cond := some uptoSmall }

/-- 'linkhouselaw7.FuncorderMatchesSpec', WHERE WHAT IT READS IS OF BULK AT MOST 1048576: true; the input reads as it did. -/
def funcorderMatchesSpecUptoRow : OpenClaim := { program := "ytmbodncejejceaa", sum := "904a89fddff70ebcbcb5fb2959995653b9ce8be99cf5822651423cb6ecd02f80", func := "linkhouse/linkhouselaw7.FuncorderMatchesSpec", spec := "funcorderMatchesSpec", unfollowed := true, recurses := true, apart := false, narrowed := true }
def FuncorderMatchesSpecUptoSaid : Prop := funcorderMatchesSpecUptoRow.holds Try.pinned (OpenSpec.upto funcorderMatchesSpecSpec)

/-- 'linkhouselaw7.FuncorderCostMatchesSpec', WHERE WHAT IT READS IS OF BULK AT MOST 1048576: true; the input reads as it did. -/
def funcorderCostMatchesSpecUptoRow : OpenClaim := { program := "ytmbodncejejceaa", sum := "904a89fddff70ebcbcb5fb2959995653b9ce8be99cf5822651423cb6ecd02f80", func := "linkhouse/linkhouselaw7.FuncorderCostMatchesSpec", spec := "funcorderCostMatchesSpec", unfollowed := true, recurses := true, apart := false, narrowed := true }
def FuncorderCostMatchesSpecUptoSaid : Prop := funcorderCostMatchesSpecUptoRow.holds Try.pinned (OpenSpec.upto funcorderCostMatchesSpecSpec)

/-- 'linkhouselaw7.FuncorderIsComplete', WHERE WHAT IT READS IS OF BULK AT MOST 1048576: true; the input reads as it did. -/
def funcorderIsCompleteUptoRow : OpenClaim := { program := "ytmbodncejejceaa", sum := "904a89fddff70ebcbcb5fb2959995653b9ce8be99cf5822651423cb6ecd02f80", func := "linkhouse/linkhouselaw7.FuncorderIsComplete", spec := "funcorderIsComplete", unfollowed := true, recurses := true, apart := false, narrowed := true }
def FuncorderIsCompleteUptoSaid : Prop := funcorderIsCompleteUptoRow.holds Try.pinned (OpenSpec.upto funcorderIsCompleteSpec)

/-- 'linkhouselaw7.FuncorderIgnoresDirections', WHERE WHAT IT READS IS OF BULK AT MOST 1048576: true; the input reads as it did. -/
def funcorderIgnoresDirectionsUptoRow : OpenClaim := { program := "ytmbodncejejceaa", sum := "904a89fddff70ebcbcb5fb2959995653b9ce8be99cf5822651423cb6ecd02f80", func := "linkhouse/linkhouselaw7.FuncorderIgnoresDirections", spec := "funcorderIgnoresDirections", unfollowed := true, recurses := true, apart := false, narrowed := true }
def FuncorderIgnoresDirectionsUptoSaid : Prop := funcorderIgnoresDirectionsUptoRow.holds Try.pinned (OpenSpec.upto funcorderIgnoresDirectionsSpec)

/-- 'linkhouselaw7.FuncorderJoinsTheClosest', WHERE WHAT IT READS IS OF BULK AT MOST 1048576: true; the input reads as it did. -/
def funcorderJoinsTheClosestUptoRow : OpenClaim := { program := "ytmbodncejejceaa", sum := "904a89fddff70ebcbcb5fb2959995653b9ce8be99cf5822651423cb6ecd02f80", func := "linkhouse/linkhouselaw7.FuncorderJoinsTheClosest", spec := "funcorderJoinsTheClosest", unfollowed := true, recurses := true, apart := false, narrowed := true }
def FuncorderJoinsTheClosestUptoSaid : Prop := funcorderJoinsTheClosestUptoRow.holds Try.pinned (OpenSpec.upto funcorderJoinsTheClosestSpec)

/-- 'linkhouselaw7.CountersPlaceMatchesSpec', WHERE WHAT IT READS IS OF BULK AT MOST 1048576: true; the input reads as it did. -/
def countersPlaceMatchesSpecUptoRow : OpenClaim := { program := "ytmbodncejejceaa", sum := "904a89fddff70ebcbcb5fb2959995653b9ce8be99cf5822651423cb6ecd02f80", func := "linkhouse/linkhouselaw7.CountersPlaceMatchesSpec", spec := "countersPlaceMatchesSpec", unfollowed := true, recurses := true, apart := false, narrowed := true }
def CountersPlaceMatchesSpecUptoSaid : Prop := countersPlaceMatchesSpecUptoRow.holds Try.pinned (OpenSpec.upto countersPlaceMatchesSpecSpec)

/-- 'linkhouselaw7.CountersCountsMatchSpec', WHERE WHAT IT READS IS OF BULK AT MOST 1048576: true; the input reads as it did. -/
def countersCountsMatchSpecUptoRow : OpenClaim := { program := "ytmbodncejejceaa", sum := "904a89fddff70ebcbcb5fb2959995653b9ce8be99cf5822651423cb6ecd02f80", func := "linkhouse/linkhouselaw7.CountersCountsMatchSpec", spec := "countersCountsMatchSpec", unfollowed := true, recurses := true, apart := false, narrowed := true }
def CountersCountsMatchSpecUptoSaid : Prop := countersCountsMatchSpecUptoRow.holds Try.pinned (OpenSpec.upto countersCountsMatchSpecSpec)

/-- 'linkhouselaw7.CountersAreFewest', WHERE WHAT IT READS IS OF BULK AT MOST 1048576: true; the input reads as it did. -/
def countersAreFewestUptoRow : OpenClaim := { program := "ytmbodncejejceaa", sum := "904a89fddff70ebcbcb5fb2959995653b9ce8be99cf5822651423cb6ecd02f80", func := "linkhouse/linkhouselaw7.CountersAreFewest", spec := "countersAreFewest", unfollowed := true, recurses := true, apart := false, narrowed := true }
def CountersAreFewestUptoSaid : Prop := countersAreFewestUptoRow.holds Try.pinned (OpenSpec.upto countersAreFewestSpec)

/-- 'linkhouselaw7.CountersAreAdditive', WHERE WHAT IT READS IS OF BULK AT MOST 1048576: true; the input reads as it did. -/
def countersAreAdditiveUptoRow : OpenClaim := { program := "ytmbodncejejceaa", sum := "904a89fddff70ebcbcb5fb2959995653b9ce8be99cf5822651423cb6ecd02f80", func := "linkhouse/linkhouselaw7.CountersAreAdditive", spec := "countersAreAdditive", unfollowed := true, recurses := true, apart := false, narrowed := true }
def CountersAreAdditiveUptoSaid : Prop := countersAreAdditiveUptoRow.holds Try.pinned (OpenSpec.upto countersAreAdditiveSpec)

/-- 'linkhouselaw7.CountersEdgesMatchSpec', WHERE WHAT IT READS IS OF BULK AT MOST 1048576: true; the input reads as it did. -/
def countersEdgesMatchSpecUptoRow : OpenClaim := { program := "ytmbodncejejceaa", sum := "904a89fddff70ebcbcb5fb2959995653b9ce8be99cf5822651423cb6ecd02f80", func := "linkhouse/linkhouselaw7.CountersEdgesMatchSpec", spec := "countersEdgesMatchSpec", unfollowed := true, recurses := true, apart := false, narrowed := true }
def CountersEdgesMatchSpecUptoSaid : Prop := countersEdgesMatchSpecUptoRow.holds Try.pinned (OpenSpec.upto countersEdgesMatchSpecSpec)

/-- 'linkhouselaw7.CountersRecoverWalks', WHERE WHAT IT READS IS OF BULK AT MOST 1048576: true; the input reads as it did. -/
def countersRecoverWalksUptoRow : OpenClaim := { program := "ytmbodncejejceaa", sum := "904a89fddff70ebcbcb5fb2959995653b9ce8be99cf5822651423cb6ecd02f80", func := "linkhouse/linkhouselaw7.CountersRecoverWalks", spec := "countersRecoverWalks", unfollowed := true, recurses := true, apart := false, narrowed := true }
def CountersRecoverWalksUptoSaid : Prop := countersRecoverWalksUptoRow.holds Try.pinned (OpenSpec.upto countersRecoverWalksSpec)

/-- 'linkhouselaw7.ChainMatchesSpec', WHERE WHAT IT READS IS OF BULK AT MOST 1048576: true; the input reads as it did. -/
def chainMatchesSpecUptoRow : OpenClaim := { program := "ytmbodncejejceaa", sum := "904a89fddff70ebcbcb5fb2959995653b9ce8be99cf5822651423cb6ecd02f80", func := "linkhouse/linkhouselaw7.ChainMatchesSpec", spec := "chainMatchesSpec", unfollowed := true, recurses := true, apart := false, narrowed := true }
def ChainMatchesSpecUptoSaid : Prop := chainMatchesSpecUptoRow.holds Try.pinned (OpenSpec.upto chainMatchesSpecSpec)

/-- 'linkhouselaw7.ChainFallsMatchesSpec', WHERE WHAT IT READS IS OF BULK AT MOST 1048576: true; the input reads as it did. -/
def chainFallsMatchesSpecUptoRow : OpenClaim := { program := "ytmbodncejejceaa", sum := "904a89fddff70ebcbcb5fb2959995653b9ce8be99cf5822651423cb6ecd02f80", func := "linkhouse/linkhouselaw7.ChainFallsMatchesSpec", spec := "chainFallsMatchesSpec", unfollowed := true, recurses := true, apart := false, narrowed := true }
def ChainFallsMatchesSpecUptoSaid : Prop := chainFallsMatchesSpecUptoRow.holds Try.pinned (OpenSpec.upto chainFallsMatchesSpecSpec)

/-- 'linkhouselaw7.ChainOrderIsComplete', WHERE WHAT IT READS IS OF BULK AT MOST 1048576: true; the input reads as it did. -/
def chainOrderIsCompleteUptoRow : OpenClaim := { program := "ytmbodncejejceaa", sum := "904a89fddff70ebcbcb5fb2959995653b9ce8be99cf5822651423cb6ecd02f80", func := "linkhouse/linkhouselaw7.ChainOrderIsComplete", spec := "chainOrderIsComplete", unfollowed := true, recurses := true, apart := false, narrowed := true }
def ChainOrderIsCompleteUptoSaid : Prop := chainOrderIsCompleteUptoRow.holds Try.pinned (OpenSpec.upto chainOrderIsCompleteSpec)

/-- 'linkhouselaw7.ChainLinksAreKept', WHERE WHAT IT READS IS OF BULK AT MOST 1048576: true; the input reads as it did. -/
def chainLinksAreKeptUptoRow : OpenClaim := { program := "ytmbodncejejceaa", sum := "904a89fddff70ebcbcb5fb2959995653b9ce8be99cf5822651423cb6ecd02f80", func := "linkhouse/linkhouselaw7.ChainLinksAreKept", spec := "chainLinksAreKept", unfollowed := true, recurses := true, apart := false, narrowed := true }
def ChainLinksAreKeptUptoSaid : Prop := chainLinksAreKeptUptoRow.holds Try.pinned (OpenSpec.upto chainLinksAreKeptSpec)

/-- 'linkhouselaw7.ChainOrderFalls', WHERE WHAT IT READS IS OF BULK AT MOST 1048576: true; the input reads as it did. -/
def chainOrderFallsUptoRow : OpenClaim := { program := "ytmbodncejejceaa", sum := "904a89fddff70ebcbcb5fb2959995653b9ce8be99cf5822651423cb6ecd02f80", func := "linkhouse/linkhouselaw7.ChainOrderFalls", spec := "chainOrderFalls", unfollowed := true, recurses := true, apart := false, narrowed := true }
def ChainOrderFallsUptoSaid : Prop := chainOrderFallsUptoRow.holds Try.pinned (OpenSpec.upto chainOrderFallsSpec)

end Rows
end Go.Proofs.Ytmbodncejejceaa
