/- The line that says how the program was cut, sign by sign: what the rows ask of it is read off the signs. -/
import Derived.Test.YtijoifajbmhgdaaGreatRows
import Derived.WalkKit
import Derived.ProofKit
namespace Go.Proofs.YtijoifajbmhgdaaGreat
open Go
set_option linter.unusedSimpArgs false
set_option linter.unusedVariables false
set_option maxRecDepth 100000
def cutSigns : List Char := List.map Char.ofNat [104, 97, 114, 110, 101, 115, 115, 32, 50, 102, 102, 54, 53, 101, 98, 100, 51, 49, 102, 102, 53, 54, 101, 51, 57, 55, 53, 50, 100, 50, 50, 56, 49, 50, 54, 100, 52, 51, 101, 57,
  51, 49, 54, 53, 54, 100, 53, 98, 100, 100, 55, 102, 51, 51, 52, 55, 55, 102, 102, 99, 100, 48, 102, 52, 102, 53, 51, 52, 52, 57, 51, 48, 32, 99, 117, 116, 32, 97, 116, 32,
  115, 109, 105, 116, 104, 121, 47, 115, 109, 105, 116, 104, 121, 108, 97, 119, 49, 55, 46, 65, 108, 117, 68, 111, 101, 115]
theorem cutLine : Tryz.prog.initOrder = String.ofList cutSigns := by kernel_rfl
def cutWord : List Char := List.map Char.ofNat [99, 117, 116]
def cutRest : List (List Char) := (behindMainWord (wordsSigns cutSigns)).tail
theorem cutWords : behindMainWord (wordsSigns cutSigns) = cutWord :: cutRest := by kernel_rfl
theorem cutStrip (r : List (List Char)) : stripLifts liftWords (cutWord :: r) = ([], cutWord :: r) := by kernel_rfl
theorem cutNo (s : List Char) (h : (cutWord == s) = false) (b : Bool) : (cutWord == s && b) = false := by rw [h]; rfl
theorem cutGc : (cutWord == "gc".toList) = false := by kernel_rfl
theorem cutSpec : (cutWord == "spec".toList) = false := by kernel_rfl
theorem cutCarried : (cutWord == "carried".toList) = false := by kernel_rfl
theorem cutCut : (cutWord == "cut".toList) = true := by kernel_rfl
theorem cutLater : Tryz.prog.laysLater = false := by kernel_rfl
theorem cutReflect : Tryz.prog.bearsReflect = false := by kernel_rfl
theorem cutDoor : Tryz.prog.doorFits [] = true := by kernel_rfl
theorem cutHead (r : List (List Char)) : ((cutWord :: r).head? == some "cut".toList) = true := by kernel_rfl
theorem cutHead2 (r : List (List Char)) : ((cutWord :: r).head? == some "carried".toList) = false := by kernel_rfl
theorem cutNone (s : String) : ([] : List String).contains s = false := rfl
theorem cutAt : behindMainWord (wordsSigns Tryz.prog.initOrder.toList) = cutWord :: cutRest := by rw [cutLine, String.toList_ofList, cutWords]
theorem cutEnterOf {P : Program} {r : List (List Char)} (h : behindMainWord (wordsSigns P.initOrder.toList) = cutWord :: r) (h1 : P.laysLater = false) (h2 : P.bearsReflect = false) (h3 : P.doorFits [] = true) : P.mayEnter = true := by
  unfold Program.mayEnter
  rw [h]
  simp only [cutStrip, cutGc, cutSpec, cutCarried, h1, h2, h3, cutHead, cutNone, Bool.or_false, Bool.false_or, Bool.not_false, Bool.and_true, Bool.or_true, Bool.false_and, Bool.true_and]
theorem cutFinalOf {P : Program} {r : List (List Char)} (h : behindMainWord (wordsSigns P.initOrder.toList) = cutWord :: r) : P.liftsFinal = false := by
  unfold Program.liftsFinal Program.headLifts
  rw [h]
  simp only [cutStrip, cutHead, cutHead2, if_true, cutNone, Bool.false_and, Bool.or_false, Bool.false_or]
theorem cutMakeOf {P : Program} {r : List (List Char)} (h : behindMainWord (wordsSigns P.initOrder.toList) = cutWord :: r) : P.make = some .cut := by
  unfold Program.make
  rw [h]
  simp only [cutGc, cutSpec, cutCut, Bool.or_false, Bool.false_or, Bool.true_or, if_true, Bool.false_eq_true, if_false]
theorem cutEnter : Tryz.prog.mayEnter = true := cutEnterOf cutAt cutLater cutReflect cutDoor
theorem cutFinal : Tryz.prog.liftsFinal = false := cutFinalOf cutAt
theorem cutMake : Tryz.prog.make = some .cut := cutMakeOf cutAt
/-- What the program as a whole forces on every row. -/
theorem cutWhole : laidOutB Tryz.prog = true ∧ mapsRowed Tryz.prog = true ∧ (Tryz.prog.stops == []) = true ∧ (Tryz.prog.stopKnobs == []) = true ∧ Tryz.prog.plainKeys = true ∧ Tryz.prog.stopsHeard = true := ⟨by kernel_rfl, by kernel_rfl, by kernel_rfl, by kernel_rfl, by kernel_rfl, by kernel_rfl⟩
end Go.Proofs.YtijoifajbmhgdaaGreat
