/- The line that says how the program was cut, sign by sign: what the rows ask of it is read off the signs. -/
import Derived.Test.YtijoifajbmhgdaaRows
import Derived.WalkKit
import Derived.ProofKit
namespace Go.Proofs.Ytijoifajbmhgdaa
open Go
set_option linter.unusedSimpArgs false
set_option linter.unusedVariables false
set_option maxRecDepth 100000
def cutSigns : List Char := List.map Char.ofNat [104, 97, 114, 110, 101, 115, 115, 32, 54, 56, 100, 99, 54, 50, 100, 50, 99, 53, 99, 55, 55, 52, 56, 99, 57, 51, 57, 50, 53, 51, 53, 101, 55, 101, 55, 52, 51, 98, 99, 52,
  56, 101, 102, 56, 101, 101, 56, 102, 98, 102, 49, 55, 50, 100, 53, 99, 99, 53, 57, 57, 54, 54, 98, 53, 50, 55, 56, 53, 51, 101, 99, 52, 32, 99, 117, 116, 32, 97, 116, 32,
  115, 109, 105, 116, 104, 121, 47, 115, 109, 105, 116, 104, 121, 108, 97, 119, 48, 49, 46, 87, 111, 114, 100, 80, 114, 111, 100, 117, 99, 116, 115, 32, 115, 109, 105, 116, 104, 121, 47, 115,
  109, 105, 116, 104, 121, 108, 97, 119, 48, 49, 46, 87, 111, 114, 100, 83, 104, 105, 102, 116, 115, 32, 115, 109, 105, 116, 104, 121, 47, 115, 109, 105, 116, 104, 121, 108, 97, 119, 48, 49,
  46, 87, 111, 114, 100, 76, 111, 103, 105, 99, 32, 115, 109, 105, 116, 104, 121, 47, 115, 109, 105, 116, 104, 121, 108, 97, 119, 48, 49, 46, 87, 111, 114, 100, 83, 117, 109, 115, 32, 115,
  109, 105, 116, 104, 121, 47, 115, 109, 105, 116, 104, 121, 108, 97, 119, 48, 49, 46, 87, 111, 114, 100, 82, 105, 110, 103, 32, 115, 109, 105, 116, 104, 121, 47, 115, 109, 105, 116, 104, 121,
  108, 97, 119, 48, 49, 46, 87, 111, 114, 100, 66, 121, 116, 101, 115, 32, 115, 109, 105, 116, 104, 121, 47, 115, 109, 105, 116, 104, 121, 108, 97, 119, 48, 49, 46, 87, 111, 114, 100, 79,
  114, 100, 101, 114, 32, 115, 109, 105, 116, 104, 121, 47, 115, 109, 105, 116, 104, 121, 108, 97, 119, 48, 49, 46, 87, 111, 114, 100, 80, 97, 114, 116, 115, 32, 115, 109, 105, 116, 104, 121,
  47, 115, 109, 105, 116, 104, 121, 108, 97, 119, 49, 55, 46, 65, 108, 117, 70, 101, 119, 32, 115, 109, 105, 116, 104, 121, 47, 115, 109, 105, 116, 104, 121, 108, 97, 119, 50, 49, 46, 70,
  101, 101, 78, 101, 120, 116, 32, 115, 109, 105, 116, 104, 121, 47, 115, 109, 105, 116, 104, 121, 108, 97, 119, 50, 49, 46, 70, 101, 101, 69, 105, 103, 104, 116, 104, 32, 115, 109, 105, 116,
  104, 121, 47, 115, 109, 105, 116, 104, 121, 108, 97, 119, 50, 49, 46, 70, 101, 101, 77, 111, 114, 101, 32, 115, 109, 105, 116, 104, 121, 47, 115, 109, 105, 116, 104, 121, 108, 97, 119, 48,
  51, 46, 83, 105, 103, 110, 68, 105, 118, 105, 100, 101, 115, 32, 115, 109, 105, 116, 104, 121, 47, 115, 109, 105, 116, 104, 121, 108, 97, 119, 48, 51, 46, 83, 105, 103, 110, 84, 111, 103,
  101, 116, 104, 101, 114, 32, 115, 109, 105, 116, 104, 121, 47, 115, 109, 105, 116, 104, 121, 108, 97, 119, 48, 51, 46, 83, 105, 103, 110, 76, 101, 115, 115, 32, 115, 109, 105, 116, 104, 121,
  47, 115, 109, 105, 116, 104, 121, 108, 97, 119, 48, 51, 46, 83, 105, 103, 110, 69, 120, 116, 101, 110, 100, 115, 32, 115, 109, 105, 116, 104, 121, 47, 115, 109, 105, 116, 104, 121, 108, 97,
  119, 48, 51, 46, 83, 105, 103, 110, 83, 104, 105, 102, 116, 115, 32, 115, 109, 105, 116, 104, 121, 47, 115, 109, 105, 116, 104, 121, 108, 97, 119, 48, 50, 46, 87, 105, 100, 101, 68, 105,
  118, 105, 100, 101, 115, 32, 115, 109, 105, 116, 104, 121, 47, 115, 109, 105, 116, 104, 121, 108, 97, 119, 48, 50, 46, 87, 105, 100, 101, 84, 111, 103, 101, 116, 104, 101, 114, 32, 115, 109,
  105, 116, 104, 121, 47, 115, 109, 105, 116, 104, 121, 108, 97, 119, 48, 50, 46, 87, 105, 100, 101, 80, 114, 111, 100, 117, 99, 116, 115, 32, 115, 109, 105, 116, 104, 121, 47, 115, 109, 105,
  116, 104, 121, 108, 97, 119, 48, 50, 46, 87, 105, 100, 101, 82, 101, 115, 116, 115, 32, 115, 109, 105, 116, 104, 121, 47, 115, 109, 105, 116, 104, 121, 108, 97, 119, 48, 50, 46, 87, 105,
  100, 101, 80, 111, 119, 101, 114, 115, 32, 115, 109, 105, 116, 104, 121, 47, 115, 109, 105, 116, 104, 121, 108, 97, 119, 48, 50, 46, 87, 105, 100, 101, 69, 120, 112, 111, 110, 101, 110, 116,
  115, 32, 115, 109, 105, 116, 104, 121, 47, 115, 109, 105, 116, 104, 121, 108, 97, 119, 49, 55, 46, 65, 108, 117, 65, 108, 105, 107, 101]
theorem cutLine : Try.prog.initOrder = String.ofList cutSigns := by kernel_rfl
def cutWord : List Char := List.map Char.ofNat [99, 117, 116]
def cutRest : List (List Char) := (behindMainWord (wordsSigns cutSigns)).tail
theorem cutWords : behindMainWord (wordsSigns cutSigns) = cutWord :: cutRest := by kernel_rfl
theorem cutStrip (r : List (List Char)) : stripLifts liftWords (cutWord :: r) = ([], cutWord :: r) := by kernel_rfl
theorem cutNo (s : List Char) (h : (cutWord == s) = false) (b : Bool) : (cutWord == s && b) = false := by rw [h]; rfl
theorem cutGc : (cutWord == "gc".toList) = false := by kernel_rfl
theorem cutSpec : (cutWord == "spec".toList) = false := by kernel_rfl
theorem cutCarried : (cutWord == "carried".toList) = false := by kernel_rfl
theorem cutCut : (cutWord == "cut".toList) = true := by kernel_rfl
theorem cutLater : Try.prog.laysLater = false := by kernel_rfl
theorem cutReflect : Try.prog.bearsReflect = false := by kernel_rfl
theorem cutDoor : Try.prog.doorFits [] = true := by kernel_rfl
theorem cutHead (r : List (List Char)) : ((cutWord :: r).head? == some "cut".toList) = true := by kernel_rfl
theorem cutHead2 (r : List (List Char)) : ((cutWord :: r).head? == some "carried".toList) = false := by kernel_rfl
theorem cutNone (s : String) : ([] : List String).contains s = false := rfl
theorem cutAt : behindMainWord (wordsSigns Try.prog.initOrder.toList) = cutWord :: cutRest := by rw [cutLine, String.toList_ofList, cutWords]
theorem cutEnterOf {P : Program} {r : List (List Char)} (h : behindMainWord (wordsSigns P.initOrder.toList) = cutWord :: r) (h1 : P.laysLater = false) (h2 : P.bearsReflect = false) (h3 : P.doorFits [] = true) : P.mayEnter = true := by
  unfold Program.mayEnter
  rw [h]
  simp only [cutStrip, cutGc, cutSpec, cutCarried, h1, h2, h3, cutHead, cutNone, Bool.or_false, Bool.false_or, Bool.not_false, Bool.and_true, Bool.or_true, Bool.false_and, Bool.true_and]
theorem cutFinalOf {P : Program} {r : List (List Char)} (h : behindMainWord (wordsSigns P.initOrder.toList) = cutWord :: r) : P.liftsFinal = false := by
  unfold Program.liftsFinal Program.headLifts
  rw [h]
  simp only [cutStrip, cutHead, cutHead2, if_true, cutNone, Bool.false_and, Bool.or_false, Bool.false_or]
theorem cutMakeOf {P : Program} {r : List (List Char)} (h : behindMainWord (wordsSigns P.initOrder.toList) = cutWord :: r) : P.make = some .cut := by
  unfold Program.make
  rw [h]
  simp only [cutGc, cutSpec, cutCut, Bool.or_false, Bool.false_or, Bool.true_or, if_true, Bool.false_eq_true, if_false]
theorem cutEnter : Try.prog.mayEnter = true := cutEnterOf cutAt cutLater cutReflect cutDoor
theorem cutFinal : Try.prog.liftsFinal = false := cutFinalOf cutAt
theorem cutMake : Try.prog.make = some .cut := cutMakeOf cutAt
/-- What the program as a whole forces on every row. -/
theorem cutWhole : laidOutB Try.prog = true ∧ mapsRowed Try.prog = true ∧ (Try.prog.stops == []) = true ∧ (Try.prog.stopKnobs == []) = true ∧ Try.prog.plainKeys = true ∧ Try.prog.stopsHeard = true := ⟨by kernel_rfl, by kernel_rfl, by kernel_rfl, by kernel_rfl, by kernel_rfl, by kernel_rfl⟩
end Go.Proofs.Ytijoifajbmhgdaa
