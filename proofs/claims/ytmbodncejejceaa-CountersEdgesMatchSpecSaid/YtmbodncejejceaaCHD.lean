/- The words of the program's head. -/
import Derived.Test.YtmbodncejejceaaRows
import Derived.JoinedOf
import Derived.KernelRfl
import Derived.Below
import Derived.Test.YtmbodncejejceaaCEngA
set_option linter.all false

namespace Go.Eng
open Go Go.Proofs
set_option maxRecDepth 100000
def headCodes : List Nat := [104, 97, 114, 110, 101, 115, 115, 32, 55, 48, 101, 102, 54, 50, 101, 102, 101, 52, 51, 55, 53, 48, 48, 97, 55, 51, 97, 57, 56, 51, 98, 54, 53, 50, 50, 54, 50, 50, 50, 56, 97, 99, 100, 54, 98, 56, 56, 55, 98, 99, 54, 57, 99, 99, 53, 52, 102, 57, 99, 101, 100, 101, 51, 57, 53, 48, 102, 98, 56, 55, 99, 55, 32, 99, 117, 116, 32, 97, 116, 32, 108, 105, 110, 107, 104, 111, 117, 115, 101, 47, 108, 105, 110, 107, 104, 111, 117, 115, 101, 108, 97, 119, 55, 46, 70, 117, 110, 99, 111, 114, 100, 101, 114, 77, 97, 116, 99, 104, 101, 115, 83, 112, 101, 99, 32, 108, 105, 110, 107, 104, 111, 117, 115, 101, 47, 108, 105, 110, 107, 104, 111, 117, 115, 101, 108, 97, 119, 55, 46, 70, 117, 110, 99, 111, 114, 100, 101, 114, 67, 111, 115, 116, 77, 97, 116, 99, 104, 101, 115, 83, 112, 101, 99, 32, 108, 105, 110, 107, 104, 111, 117, 115, 101, 47, 108, 105, 110, 107, 104, 111, 117, 115, 101, 108, 97, 119, 55, 46, 70, 117, 110, 99, 111, 114, 100, 101, 114, 73, 115, 67, 111, 109, 112, 108, 101, 116, 101, 32, 108, 105, 110, 107, 104, 111, 117, 115, 101, 47, 108, 105, 110, 107, 104, 111, 117, 115, 101, 108, 97, 119, 55, 46, 70, 117, 110, 99, 111, 114, 100, 101, 114, 73, 103, 110, 111, 114, 101, 115, 68, 105, 114, 101, 99, 116, 105, 111, 110, 115, 32, 108, 105, 110, 107, 104, 111, 117, 115, 101, 47, 108, 105, 110, 107, 104, 111, 117, 115, 101, 108, 97, 119, 55, 46, 70, 117, 110, 99, 111, 114, 100, 101, 114, 74, 111, 105, 110, 115, 84, 104, 101, 67, 108, 111, 115, 101, 115, 116, 32, 108, 105, 110, 107, 104, 111, 117, 115, 101, 47, 108, 105, 110, 107, 104, 111, 117, 115, 101, 108, 97, 119, 55, 46, 67, 111, 117, 110, 116, 101, 114, 115, 80, 108, 97, 99, 101, 77, 97, 116, 99, 104, 101, 115, 83, 112, 101, 99, 32, 108, 105, 110, 107, 104, 111, 117, 115, 101, 47, 108, 105, 110, 107, 104, 111, 117, 115, 101, 108, 97, 119, 55, 46, 67, 111, 117, 110, 116, 101, 114, 115, 67, 111, 117, 110, 116, 115, 77, 97, 116, 99, 104, 83, 112, 101, 99, 32, 108, 105, 110, 107, 104, 111, 117, 115, 101, 47, 108, 105, 110, 107, 104, 111, 117, 115, 101, 108, 97, 119, 55, 46, 67, 111, 117, 110, 116, 101, 114, 115, 65, 114, 101, 70, 101, 119, 101, 115, 116, 32, 108, 105, 110, 107, 104, 111, 117, 115, 101, 47, 108, 105, 110, 107, 104, 111, 117, 115, 101, 108, 97, 119, 55, 46, 67, 111, 117, 110, 116, 101, 114, 115, 65, 114, 101, 65, 100, 100, 105, 116, 105, 118, 101, 32, 108, 105, 110, 107, 104, 111, 117, 115, 101, 47, 108, 105, 110, 107, 104, 111, 117, 115, 101, 108, 97, 119, 55, 46, 67, 111, 117, 110, 116, 101, 114, 115, 69, 100, 103, 101, 115, 77, 97, 116, 99, 104, 83, 112, 101, 99, 32, 108, 105, 110, 107, 104, 111, 117, 115, 101, 47, 108, 105, 110, 107, 104, 111, 117, 115, 101, 108, 97, 119, 55, 46, 67, 111, 117, 110, 116, 101, 114, 115, 82, 101, 99, 111, 118, 101, 114, 87, 97, 108, 107, 115, 32, 108, 105, 110, 107, 104, 111, 117, 115, 101, 47, 108, 105, 110, 107, 104, 111, 117, 115, 101, 108, 97, 119, 55, 46, 67, 104, 97, 105, 110, 77, 97, 116, 99, 104, 101, 115, 83, 112, 101, 99, 32, 108, 105, 110, 107, 104, 111, 117, 115, 101, 47, 108, 105, 110, 107, 104, 111, 117, 115, 101, 108, 97, 119, 55, 46, 67, 104, 97, 105, 110, 70, 97, 108, 108, 115, 77, 97, 116, 99, 104, 101, 115, 83, 112, 101, 99, 32, 108, 105, 110, 107, 104, 111, 117, 115, 101, 47, 108, 105, 110, 107, 104, 111, 117, 115, 101, 108, 97, 119, 55, 46, 67, 104, 97, 105, 110, 79, 114, 100, 101, 114, 73, 115, 67, 111, 109, 112, 108, 101, 116, 101, 32, 108, 105, 110, 107, 104, 111, 117, 115, 101, 47, 108, 105, 110, 107, 104, 111, 117, 115, 101, 108, 97, 119, 55, 46, 67, 104, 97, 105, 110, 76, 105, 110, 107, 115, 65, 114, 101, 75, 101, 112, 116, 32, 108, 105, 110, 107, 104, 111, 117, 115, 101, 47, 108, 105, 110, 107, 104, 111, 117, 115, 101, 108, 97, 119, 55, 46, 67, 104, 97, 105, 110, 79, 114, 100, 101, 114, 70, 97, 108, 108, 115]
def headL : List Char := headCodes.map Char.ofNat
theorem head_ofList : Try.prog.initOrder = String.ofList headL := by kernel_rfl
theorem head_toList : Try.prog.initOrder.toList = headL := by rw [head_ofList, String.toList_ofList]
def headWs : List (List Char) := behindMainWord (wordsSigns headL)
theorem head_ws : behindMainWord (wordsSigns Try.prog.initOrder.toList) = headWs := by rw [head_toList]; rfl
theorem lifts_of {P : Program} {ws : List (List Char)} (h : behindMainWord (wordsSigns P.initOrder.toList) = ws) : P.headLifts = if (stripLifts liftWords ws).2.head? == some "cut".toList then (stripLifts liftWords ws).1 else [] := by
  subst h; rfl
theorem make_of {P : Program} {ws : List (List Char)} {l : List String} (h : behindMainWord (wordsSigns P.initOrder.toList) = ws) (hl : P.headLifts = l) : P.make = match (generalizing := false) ws with
  | c :: rest => if c == "gc".toList || c == "spec".toList then some .whole else if c == "cut".toList || (c == "finals".toList && rest.head? == some "cut".toList) then some .cut else if c == "carried".toList then some .carried else if l.isEmpty then none else some (.lifted l)
  | [] => none := by
  subst h hl; rfl
theorem final_of {P : Program} {ws : List (List Char)} {l : List String} (h : behindMainWord (wordsSigns P.initOrder.toList) = ws) (hl : P.headLifts = l) : P.liftsFinal = ((ws.head? == some "carried".toList && ws.take 3 != ["carried".toList, "gc".toList, "cut".toList]) || l.contains "finals") := by
  subst h hl; rfl
theorem enter_of {P : Program} {ws : List (List Char)} {ll bl : Bool} {df : List String → Bool} (h : behindMainWord (wordsSigns P.initOrder.toList) = ws) (hl : P.laysLater = ll) (hb : P.bearsReflect = bl) (hd : P.doorFits = df) : P.mayEnter = match (generalizing := false) ws with
  | c :: rest =>
    ((c == "gc".toList || c == "spec".toList) && (rest.isEmpty || rest.head? == some "stop".toList)) ||
    (c == "carried".toList && rest.take 2 == ["gc".toList, "cut".toList] && !ll && !bl) ||
    ((stripLifts liftWords (c :: rest)).2.head? == some "cut".toList &&
      ((stripLifts liftWords (c :: rest)).1.contains "finals" || !ll) && ((stripLifts liftWords (c :: rest)).1.contains "reflectrows" || !bl) &&
      ((stripLifts liftWords (c :: rest)).1.contains "reflectrows" || !(stripLifts liftWords (c :: rest)).1.contains "leanrows") &&
      df (stripLifts liftWords (c :: rest)).1)
  | [] => false := by
  subst h hl hb hd; rfl
theorem head_lifts : Try.prog.headLifts = [] := (lifts_of head_ws).trans (by kernel_rfl)
theorem head_make : Try.prog.make = some .cut := (make_of head_ws head_lifts).trans (by kernel_rfl)
theorem head_final : Try.prog.liftsFinal = false := (final_of head_ws head_lifts).trans (by kernel_rfl)
theorem head_later : Try.prog.laysLater = false := by kernel_rfl
theorem head_reflect : Try.prog.bearsReflect = false := by kernel_rfl
theorem head_enter : Try.prog.mayEnter = true := (enter_of head_ws head_later head_reflect rfl).trans (by kernel_rfl)

theorem joined_of {P : Program} {f : FuncId} {fn : Func} {s : ChangeSpec} {c : OpenClaim}
    (a1 : c.wf (OpenSpec.ofChange s) = true) (a2 : laidOutB P = true) (a3 : mapsRowed P = true) (a4 : fn.params.all (P.readableRec ·) = true) (a5 : namedTie P c.named s.vars = true)
    (a6 : (c.stops == []) = true) (a7 : (P.stops == []) = true) (a8 : (c.knobs == []) = true) (a9 : (P.stopKnobs == []) = true)
    (b1 : (c.inPlace == P.inPlace f) = true) (b2 : (c.unfollowed == P.unfollowed f) = true) (b3 : (c.recurses == P.recurses f) = true) (b4 : (c.named == P.varsNamed f) = true)
    (c1 : ((c.maps == (fn.params.toList ++ s.plain.varTypes P).any (P.mapsRec ·)) && (c.ifaces == (fn.params.toList ++ s.plain.varTypes P).any (P.ifacesRec ·)) && (c.mapsOut == P.mapsAmong fn.resultTypes.toList)) = true)
    (c2 : ((c.loops == (fn.params.toList ++ s.plain.varTypes P).any (P.loopsFrom ·)) && (c.wideKeys == (fn.params.toList ++ s.plain.varTypes P ++ fn.resultTypes.toList).any (P.wideKeysFrom ·))) = true)
    (c3 : (s.vars.all (P.varReadable ·) && fn.resultTypes.all (fun t => P.readableRec t && decide (t < P.types.size)) && (c.ifacesOut == fn.resultTypes.toList.any (P.ifacesRec ·)) && (c.loopsOut == fn.resultTypes.toList.any (P.loopsFrom ·))) = true)
    (c4 : (c.plainKeys == P.plainKeys) = true) (c5 : (c.shortTexts.isNone && P.stopsHeard) = true) (c6 : P.mayEnter = true) (c7 : (c.lifted == P.liftsFinal) = true) (c8 : (P.make == some c.make) = true)
    (c9 : ((c.kinds == (if c.domain.isEmpty then [] else fn.params.toList.map fun t => match P.underlying t with | some (.int k) => some k | _ => none)) && (c.pinned == c.pinnedBy)) = true)
    (d1 : ((c.veiled == (fn.params.toList ++ s.plain.varTypes P ++ fn.resultTypes.toList).any (P.veiledRec ·)) && c.veiledFits P fn.params.toList (fn.params.toList ++ s.plain.varTypes P ++ fn.resultTypes.toList)) = true) : joinedFacts P f fn s c = true := by
  simp only [Bool.and_eq_true] at c1 c2 c3 c5 c9 d1
  unfold joinedFacts
  simp only [Bool.and_eq_true]
  obtain ⟨⟨x1, x2⟩, x3⟩ := c1
  obtain ⟨x4, x5⟩ := c2
  obtain ⟨⟨⟨y1, y2⟩, y3⟩, y4⟩ := c3
  obtain ⟨y5, y6⟩ := c5
  obtain ⟨z1, z2⟩ := c9
  obtain ⟨z3, z4⟩ := d1
  repeat' apply And.intro
  all_goals assumption
theorem lifted_of {c : OpenClaim} (h : c.lifted = false) : (c.lifted == Try.prog.liftsFinal) = true := by rw [h, head_final]; rfl
theorem made_of {c : OpenClaim} (h : c.make = .cut) : (Try.prog.make == some c.make) = true := by rw [h, head_make]; rfl
theorem laidOut : laidOutB Try.prog = true := by kernel_rfl
theorem ownHead : ownKnob Try.prog.godebug = none := by kernel_rfl
theorem below_of_ext {w w' : World} (h : Ext w w' fun b => ∃ G ∈ ([] : List (Nat → Prop)), G b) : RowKit.Below w.heap.size w w' :=
  ⟨h.os, h.tape, h.output, h.size, fun k hk => h.block k hk (by rintro ⟨G, hG, _⟩; cases hG)⟩
end Go.Eng
