/-
  No cell of these rows narrows 'for every input' (looked for: loops, veiled, ifaces, maps, wideKeys, modest, calm, conditions, laid).
  DERIVED. THE GIVEN ROWS OF THIS SEAT. 24 by the template 'for every input the law returns true; each argument reads behind the call as it read before'; 0 by the template 'total and deterministic' (their statements: YtijoifajbmhgdaaTotals.lean).
  GIVEN WITH THE SEED: the statements are not yours to turn. If you find one false, say at which input.
  Laid BY PROGRAM, IN A SANDBOX (cutbox-rows.mjs): the forced cells as the released guide's own fill.sh prints them over the translation 3aa0dfade9212304… (all of the seat's roots in one cut). By AI agents, Wed Nov 11 2026. No macro, syntax, notation, axiom, sorry.
-/
import Derived.Test.YtijoifajbmhgdaaChecked
import GoSem.Claim
import GoSem.ClaimJoined
import GoSem.ClaimMapViews
import Derived.JoinedTies
import Derived.KernelRfl
namespace Go.Proofs.Ytijoifajbmhgdaa
/- THE CELL 'sum', in the pinned program and in every row, IS THE sha256 OF THE DUMP (.gsa) THAT YtijoifajbmhgdaaProg.lean LOADS. Nothing in Lean hashes anything: it is a label: what it is worth is what the hold of that sum in a sandbox is worth. -/
noncomputable def Try.pinned : Pinned := { name := "ytijoifajbmhgdaa", sum := "3aa0dfade9212304db3fa753dd129df586c12cc150009cb9f9b29e8af4bb1171", checked := Try.checked }
namespace Rows
def none {H : Type} : Left H := { results := [], args := [] }

/-- 'smithylaw01.WordProducts': WHATEVER THE INPUT: true; the input reads as it did. -/
def wordProductsSpec : ChangeSpec := { name := "wordProducts", fn := fun _ => fun
  | [d1, d2] => { results := [.lit (.bool true)], args := [d1, d2] }
  | _ => none }
def wordProductsRow : OpenClaim := { program := "ytijoifajbmhgdaa", sum := "3aa0dfade9212304db3fa753dd129df586c12cc150009cb9f9b29e8af4bb1171", func := "smithy/smithylaw01.WordProducts", spec := "wordProducts", inPlace := ["math/bits.Sub64", "math/bits.Add64"], apart := false }
def WordProductsSaid : Prop := wordProductsRow.holds Try.pinned (OpenSpec.ofChange wordProductsSpec)

/-- ITS FALSE NEIGHBOUR: 'it returns false'. Refute it at one input. -/
def wordProductsWrong : ChangeSpec := { name := "wordProducts", fn := fun _ => fun
  | [d1, d2] => { results := [.lit (.bool false)], args := [d1, d2] }
  | _ => none }
def WordProductsWrongFalsely : Prop := wordProductsRow.holds Try.pinned (OpenSpec.ofChange wordProductsWrong)

/-- 'smithylaw01.WordShifts': WHATEVER THE INPUT: true; the input reads as it did. -/
def wordShiftsSpec : ChangeSpec := { name := "wordShifts", fn := fun _ => fun
  | [d1, d2] => { results := [.lit (.bool true)], args := [d1, d2] }
  | _ => none }
def wordShiftsRow : OpenClaim := { program := "ytijoifajbmhgdaa", sum := "3aa0dfade9212304db3fa753dd129df586c12cc150009cb9f9b29e8af4bb1171", func := "smithy/smithylaw01.WordShifts", spec := "wordShifts", inPlace := ["math/bits.Sub64", "math/bits.Add64"], apart := false }
def WordShiftsSaid : Prop := wordShiftsRow.holds Try.pinned (OpenSpec.ofChange wordShiftsSpec)

/-- ITS FALSE NEIGHBOUR: 'it returns false'. Refute it at one input. -/
def wordShiftsWrong : ChangeSpec := { name := "wordShifts", fn := fun _ => fun
  | [d1, d2] => { results := [.lit (.bool false)], args := [d1, d2] }
  | _ => none }
def WordShiftsWrongFalsely : Prop := wordShiftsRow.holds Try.pinned (OpenSpec.ofChange wordShiftsWrong)

/-- 'smithylaw01.WordLogic': WHATEVER THE INPUT: true; the input reads as it did. -/
def wordLogicSpec : ChangeSpec := { name := "wordLogic", fn := fun _ => fun
  | [d1, d2] => { results := [.lit (.bool true)], args := [d1, d2] }
  | _ => none }
def wordLogicRow : OpenClaim := { program := "ytijoifajbmhgdaa", sum := "3aa0dfade9212304db3fa753dd129df586c12cc150009cb9f9b29e8af4bb1171", func := "smithy/smithylaw01.WordLogic", spec := "wordLogic", inPlace := ["math/bits.Sub64", "math/bits.Add64"], apart := false }
def WordLogicSaid : Prop := wordLogicRow.holds Try.pinned (OpenSpec.ofChange wordLogicSpec)

/-- ITS FALSE NEIGHBOUR: 'it returns false'. Refute it at one input. -/
def wordLogicWrong : ChangeSpec := { name := "wordLogic", fn := fun _ => fun
  | [d1, d2] => { results := [.lit (.bool false)], args := [d1, d2] }
  | _ => none }
def WordLogicWrongFalsely : Prop := wordLogicRow.holds Try.pinned (OpenSpec.ofChange wordLogicWrong)

/-- 'smithylaw01.WordSums': WHATEVER THE INPUT: true; the input reads as it did. -/
def wordSumsSpec : ChangeSpec := { name := "wordSums", fn := fun _ => fun
  | [d1, d2] => { results := [.lit (.bool true)], args := [d1, d2] }
  | _ => none }
def wordSumsRow : OpenClaim := { program := "ytijoifajbmhgdaa", sum := "3aa0dfade9212304db3fa753dd129df586c12cc150009cb9f9b29e8af4bb1171", func := "smithy/smithylaw01.WordSums", spec := "wordSums", inPlace := ["math/bits.Sub64", "math/bits.Add64"], apart := false }
def WordSumsSaid : Prop := wordSumsRow.holds Try.pinned (OpenSpec.ofChange wordSumsSpec)

/-- ITS FALSE NEIGHBOUR: 'it returns false'. Refute it at one input. -/
def wordSumsWrong : ChangeSpec := { name := "wordSums", fn := fun _ => fun
  | [d1, d2] => { results := [.lit (.bool false)], args := [d1, d2] }
  | _ => none }
def WordSumsWrongFalsely : Prop := wordSumsRow.holds Try.pinned (OpenSpec.ofChange wordSumsWrong)

/-- 'smithylaw01.WordRing': WHATEVER THE INPUT: true; the input reads as it did. -/
def wordRingSpec : ChangeSpec := { name := "wordRing", fn := fun _ => fun
  | [d1, d2, d3] => { results := [.lit (.bool true)], args := [d1, d2, d3] }
  | _ => none }
def wordRingRow : OpenClaim := { program := "ytijoifajbmhgdaa", sum := "3aa0dfade9212304db3fa753dd129df586c12cc150009cb9f9b29e8af4bb1171", func := "smithy/smithylaw01.WordRing", spec := "wordRing", inPlace := ["math/bits.Add64", "math/bits.Sub64"], apart := false }
def WordRingSaid : Prop := wordRingRow.holds Try.pinned (OpenSpec.ofChange wordRingSpec)

/-- ITS FALSE NEIGHBOUR: 'it returns false'. Refute it at one input. -/
def wordRingWrong : ChangeSpec := { name := "wordRing", fn := fun _ => fun
  | [d1, d2, d3] => { results := [.lit (.bool false)], args := [d1, d2, d3] }
  | _ => none }
def WordRingWrongFalsely : Prop := wordRingRow.holds Try.pinned (OpenSpec.ofChange wordRingWrong)

/-- 'smithylaw01.WordBytes': WHATEVER THE INPUT: true; the input reads as it did. -/
def wordBytesSpec : ChangeSpec := { name := "wordBytes", fn := fun _ => fun
  | [d1, d2] => { results := [.lit (.bool true)], args := [d1, d2] }
  | _ => none }
def wordBytesRow : OpenClaim := { program := "ytijoifajbmhgdaa", sum := "3aa0dfade9212304db3fa753dd129df586c12cc150009cb9f9b29e8af4bb1171", func := "smithy/smithylaw01.WordBytes", spec := "wordBytes", inPlace := ["math/bits.Sub64", "math/bits.Add64"], apart := false }
def WordBytesSaid : Prop := wordBytesRow.holds Try.pinned (OpenSpec.ofChange wordBytesSpec)

/-- ITS FALSE NEIGHBOUR: 'it returns false'. Refute it at one input. -/
def wordBytesWrong : ChangeSpec := { name := "wordBytes", fn := fun _ => fun
  | [d1, d2] => { results := [.lit (.bool false)], args := [d1, d2] }
  | _ => none }
def WordBytesWrongFalsely : Prop := wordBytesRow.holds Try.pinned (OpenSpec.ofChange wordBytesWrong)

/-- 'smithylaw01.WordOrder': WHATEVER THE INPUT: true; the input reads as it did. -/
def wordOrderSpec : ChangeSpec := { name := "wordOrder", fn := fun _ => fun
  | [d1, d2, d3] => { results := [.lit (.bool true)], args := [d1, d2, d3] }
  | _ => none }
def wordOrderRow : OpenClaim := { program := "ytijoifajbmhgdaa", sum := "3aa0dfade9212304db3fa753dd129df586c12cc150009cb9f9b29e8af4bb1171", func := "smithy/smithylaw01.WordOrder", spec := "wordOrder", inPlace := ["math/bits.Add64", "math/bits.Sub64"], apart := false }
def WordOrderSaid : Prop := wordOrderRow.holds Try.pinned (OpenSpec.ofChange wordOrderSpec)

/-- ITS FALSE NEIGHBOUR: 'it returns false'. Refute it at one input. -/
def wordOrderWrong : ChangeSpec := { name := "wordOrder", fn := fun _ => fun
  | [d1, d2, d3] => { results := [.lit (.bool false)], args := [d1, d2, d3] }
  | _ => none }
def WordOrderWrongFalsely : Prop := wordOrderRow.holds Try.pinned (OpenSpec.ofChange wordOrderWrong)

/-- 'smithylaw01.WordParts': WHATEVER THE INPUT: true; the input reads as it did. -/
def wordPartsSpec : ChangeSpec := { name := "wordParts", fn := fun _ => fun
  | [d1, d2, d3] => { results := [.lit (.bool true)], args := [d1, d2, d3] }
  | _ => none }
def wordPartsRow : OpenClaim := { program := "ytijoifajbmhgdaa", sum := "3aa0dfade9212304db3fa753dd129df586c12cc150009cb9f9b29e8af4bb1171", func := "smithy/smithylaw01.WordParts", spec := "wordParts", inPlace := ["math/bits.Sub64", "math/bits.Add64"], apart := false }
def WordPartsSaid : Prop := wordPartsRow.holds Try.pinned (OpenSpec.ofChange wordPartsSpec)

/-- ITS FALSE NEIGHBOUR: 'it returns false'. Refute it at one input. -/
def wordPartsWrong : ChangeSpec := { name := "wordParts", fn := fun _ => fun
  | [d1, d2, d3] => { results := [.lit (.bool false)], args := [d1, d2, d3] }
  | _ => none }
def WordPartsWrongFalsely : Prop := wordPartsRow.holds Try.pinned (OpenSpec.ofChange wordPartsWrong)

/-- 'smithylaw17.AluFew': WHATEVER THE INPUT: true; the input reads as it did. -/
def aluFewSpec : ChangeSpec := { name := "aluFew", fn := fun _ => fun
  | [d1, d2, d3, d4, d5] => { results := [.lit (.bool true)], args := [d1, d2, d3, d4, d5] }
  | _ => none }
def aluFewRow : OpenClaim := { program := "ytijoifajbmhgdaa", sum := "3aa0dfade9212304db3fa753dd129df586c12cc150009cb9f9b29e8af4bb1171", func := "smithy/smithylaw17.AluFew", spec := "aluFew", inPlace := ["math/bits.Add64", "math/bits.Sub64"], unfollowed := true, recurses := true, named := ["math/bits.divideError", "math/bits.overflowError"], apart := false }
def AluFewSaid : Prop := aluFewRow.holds Try.pinned (OpenSpec.ofChange aluFewSpec)

/-- ITS FALSE NEIGHBOUR: 'it returns false'. Refute it at one input. -/
def aluFewWrong : ChangeSpec := { name := "aluFew", fn := fun _ => fun
  | [d1, d2, d3, d4, d5] => { results := [.lit (.bool false)], args := [d1, d2, d3, d4, d5] }
  | _ => none }
def AluFewWrongFalsely : Prop := aluFewRow.holds Try.pinned (OpenSpec.ofChange aluFewWrong)

/-- 'smithylaw21.FeeNext': WHATEVER THE INPUT: true; the input reads as it did. -/
def feeNextSpec : ChangeSpec := { name := "feeNext", fn := fun _ => fun
  | [d1, d2, d3] => { results := [.lit (.bool true)], args := [d1, d2, d3] }
  | _ => none }
def feeNextRow : OpenClaim := { program := "ytijoifajbmhgdaa", sum := "3aa0dfade9212304db3fa753dd129df586c12cc150009cb9f9b29e8af4bb1171", func := "smithy/smithylaw21.FeeNext", spec := "feeNext", inPlace := ["math/bits.Add64", "math/bits.Sub64"], apart := false }
def FeeNextSaid : Prop := feeNextRow.holds Try.pinned (OpenSpec.ofChange feeNextSpec)

/-- ITS FALSE NEIGHBOUR: 'it returns false'. Refute it at one input. -/
def feeNextWrong : ChangeSpec := { name := "feeNext", fn := fun _ => fun
  | [d1, d2, d3] => { results := [.lit (.bool false)], args := [d1, d2, d3] }
  | _ => none }
def FeeNextWrongFalsely : Prop := feeNextRow.holds Try.pinned (OpenSpec.ofChange feeNextWrong)

/-- 'smithylaw21.FeeEighth': WHATEVER THE INPUT: true; the input reads as it did. -/
def feeEighthSpec : ChangeSpec := { name := "feeEighth", fn := fun _ => fun
  | [d1, d2, d3] => { results := [.lit (.bool true)], args := [d1, d2, d3] }
  | _ => none }
def feeEighthRow : OpenClaim := { program := "ytijoifajbmhgdaa", sum := "3aa0dfade9212304db3fa753dd129df586c12cc150009cb9f9b29e8af4bb1171", func := "smithy/smithylaw21.FeeEighth", spec := "feeEighth", inPlace := ["math/bits.Add64", "math/bits.Sub64"], apart := false }
def FeeEighthSaid : Prop := feeEighthRow.holds Try.pinned (OpenSpec.ofChange feeEighthSpec)

/-- ITS FALSE NEIGHBOUR: 'it returns false'. Refute it at one input. -/
def feeEighthWrong : ChangeSpec := { name := "feeEighth", fn := fun _ => fun
  | [d1, d2, d3] => { results := [.lit (.bool false)], args := [d1, d2, d3] }
  | _ => none }
def FeeEighthWrongFalsely : Prop := feeEighthRow.holds Try.pinned (OpenSpec.ofChange feeEighthWrong)

/-- 'smithylaw21.FeeMore': WHATEVER THE INPUT: true; the input reads as it did. -/
def feeMoreSpec : ChangeSpec := { name := "feeMore", fn := fun _ => fun
  | [d1, d2, d3, d4] => { results := [.lit (.bool true)], args := [d1, d2, d3, d4] }
  | _ => none }
def feeMoreRow : OpenClaim := { program := "ytijoifajbmhgdaa", sum := "3aa0dfade9212304db3fa753dd129df586c12cc150009cb9f9b29e8af4bb1171", func := "smithy/smithylaw21.FeeMore", spec := "feeMore", inPlace := ["math/bits.Add64", "math/bits.Sub64"], apart := false }
def FeeMoreSaid : Prop := feeMoreRow.holds Try.pinned (OpenSpec.ofChange feeMoreSpec)

/-- ITS FALSE NEIGHBOUR: 'it returns false'. Refute it at one input. -/
def feeMoreWrong : ChangeSpec := { name := "feeMore", fn := fun _ => fun
  | [d1, d2, d3, d4] => { results := [.lit (.bool false)], args := [d1, d2, d3, d4] }
  | _ => none }
def FeeMoreWrongFalsely : Prop := feeMoreRow.holds Try.pinned (OpenSpec.ofChange feeMoreWrong)

/-- 'smithylaw03.SignDivides': WHATEVER THE INPUT: true; the input reads as it did. -/
def signDividesSpec : ChangeSpec := { name := "signDivides", fn := fun _ => fun
  | [d1, d2] => { results := [.lit (.bool true)], args := [d1, d2] }
  | _ => none }
def signDividesRow : OpenClaim := { program := "ytijoifajbmhgdaa", sum := "3aa0dfade9212304db3fa753dd129df586c12cc150009cb9f9b29e8af4bb1171", func := "smithy/smithylaw03.SignDivides", spec := "signDivides", inPlace := ["math/bits.Sub64"], named := ["math/bits.divideError", "math/bits.overflowError"], apart := false }
def SignDividesSaid : Prop := signDividesRow.holds Try.pinned (OpenSpec.ofChange signDividesSpec)

/-- ITS FALSE NEIGHBOUR: 'it returns false'. Refute it at one input. -/
def signDividesWrong : ChangeSpec := { name := "signDivides", fn := fun _ => fun
  | [d1, d2] => { results := [.lit (.bool false)], args := [d1, d2] }
  | _ => none }
def SignDividesWrongFalsely : Prop := signDividesRow.holds Try.pinned (OpenSpec.ofChange signDividesWrong)

/-- 'smithylaw03.SignTogether': WHATEVER THE INPUT: true; the input reads as it did. -/
def signTogetherSpec : ChangeSpec := { name := "signTogether", fn := fun _ => fun
  | [d1, d2] => { results := [.lit (.bool true)], args := [d1, d2] }
  | _ => none }
def signTogetherRow : OpenClaim := { program := "ytijoifajbmhgdaa", sum := "3aa0dfade9212304db3fa753dd129df586c12cc150009cb9f9b29e8af4bb1171", func := "smithy/smithylaw03.SignTogether", spec := "signTogether", inPlace := ["math/bits.Sub64"], named := ["math/bits.divideError", "math/bits.overflowError"], apart := false }
def SignTogetherSaid : Prop := signTogetherRow.holds Try.pinned (OpenSpec.ofChange signTogetherSpec)

/-- ITS FALSE NEIGHBOUR: 'it returns false'. Refute it at one input. -/
def signTogetherWrong : ChangeSpec := { name := "signTogether", fn := fun _ => fun
  | [d1, d2] => { results := [.lit (.bool false)], args := [d1, d2] }
  | _ => none }
def SignTogetherWrongFalsely : Prop := signTogetherRow.holds Try.pinned (OpenSpec.ofChange signTogetherWrong)

/-- 'smithylaw03.SignLess': WHATEVER THE INPUT: true; the input reads as it did. -/
def signLessSpec : ChangeSpec := { name := "signLess", fn := fun _ => fun
  | [d1, d2] => { results := [.lit (.bool true)], args := [d1, d2] }
  | _ => none }
def signLessRow : OpenClaim := { program := "ytijoifajbmhgdaa", sum := "3aa0dfade9212304db3fa753dd129df586c12cc150009cb9f9b29e8af4bb1171", func := "smithy/smithylaw03.SignLess", spec := "signLess", inPlace := ["math/bits.Sub64"], named := ["math/bits.divideError", "math/bits.overflowError"], apart := false }
def SignLessSaid : Prop := signLessRow.holds Try.pinned (OpenSpec.ofChange signLessSpec)

/-- ITS FALSE NEIGHBOUR: 'it returns false'. Refute it at one input. -/
def signLessWrong : ChangeSpec := { name := "signLess", fn := fun _ => fun
  | [d1, d2] => { results := [.lit (.bool false)], args := [d1, d2] }
  | _ => none }
def SignLessWrongFalsely : Prop := signLessRow.holds Try.pinned (OpenSpec.ofChange signLessWrong)

/-- 'smithylaw03.SignExtends': WHATEVER THE INPUT: true; the input reads as it did. -/
def signExtendsSpec : ChangeSpec := { name := "signExtends", fn := fun _ => fun
  | [d1, d2] => { results := [.lit (.bool true)], args := [d1, d2] }
  | _ => none }
def signExtendsRow : OpenClaim := { program := "ytijoifajbmhgdaa", sum := "3aa0dfade9212304db3fa753dd129df586c12cc150009cb9f9b29e8af4bb1171", func := "smithy/smithylaw03.SignExtends", spec := "signExtends", inPlace := ["math/bits.Sub64"], named := ["math/bits.divideError", "math/bits.overflowError"], apart := false }
def SignExtendsSaid : Prop := signExtendsRow.holds Try.pinned (OpenSpec.ofChange signExtendsSpec)

/-- ITS FALSE NEIGHBOUR: 'it returns false'. Refute it at one input. -/
def signExtendsWrong : ChangeSpec := { name := "signExtends", fn := fun _ => fun
  | [d1, d2] => { results := [.lit (.bool false)], args := [d1, d2] }
  | _ => none }
def SignExtendsWrongFalsely : Prop := signExtendsRow.holds Try.pinned (OpenSpec.ofChange signExtendsWrong)

/-- 'smithylaw03.SignShifts': WHATEVER THE INPUT: true; the input reads as it did. -/
def signShiftsSpec : ChangeSpec := { name := "signShifts", fn := fun _ => fun
  | [d1, d2] => { results := [.lit (.bool true)], args := [d1, d2] }
  | _ => none }
def signShiftsRow : OpenClaim := { program := "ytijoifajbmhgdaa", sum := "3aa0dfade9212304db3fa753dd129df586c12cc150009cb9f9b29e8af4bb1171", func := "smithy/smithylaw03.SignShifts", spec := "signShifts", inPlace := ["math/bits.Sub64"], named := ["math/bits.divideError", "math/bits.overflowError"], apart := false }
def SignShiftsSaid : Prop := signShiftsRow.holds Try.pinned (OpenSpec.ofChange signShiftsSpec)

/-- ITS FALSE NEIGHBOUR: 'it returns false'. Refute it at one input. -/
def signShiftsWrong : ChangeSpec := { name := "signShifts", fn := fun _ => fun
  | [d1, d2] => { results := [.lit (.bool false)], args := [d1, d2] }
  | _ => none }
def SignShiftsWrongFalsely : Prop := signShiftsRow.holds Try.pinned (OpenSpec.ofChange signShiftsWrong)

/-- 'smithylaw02.WideDivides': WHATEVER THE INPUT: true; the input reads as it did. -/
def wideDividesSpec : ChangeSpec := { name := "wideDivides", fn := fun _ => fun
  | [d1, d2] => { results := [.lit (.bool true)], args := [d1, d2] }
  | _ => none }
def wideDividesRow : OpenClaim := { program := "ytijoifajbmhgdaa", sum := "3aa0dfade9212304db3fa753dd129df586c12cc150009cb9f9b29e8af4bb1171", func := "smithy/smithylaw02.WideDivides", spec := "wideDivides", inPlace := ["math/bits.Sub64", "math/bits.Add64"], named := ["math/bits.divideError", "math/bits.overflowError"], apart := false }
def WideDividesSaid : Prop := wideDividesRow.holds Try.pinned (OpenSpec.ofChange wideDividesSpec)

/-- ITS FALSE NEIGHBOUR: 'it returns false'. Refute it at one input. -/
def wideDividesWrong : ChangeSpec := { name := "wideDivides", fn := fun _ => fun
  | [d1, d2] => { results := [.lit (.bool false)], args := [d1, d2] }
  | _ => none }
def WideDividesWrongFalsely : Prop := wideDividesRow.holds Try.pinned (OpenSpec.ofChange wideDividesWrong)

/-- 'smithylaw02.WideTogether': WHATEVER THE INPUT: true; the input reads as it did. -/
def wideTogetherSpec : ChangeSpec := { name := "wideTogether", fn := fun _ => fun
  | [d1, d2] => { results := [.lit (.bool true)], args := [d1, d2] }
  | _ => none }
def wideTogetherRow : OpenClaim := { program := "ytijoifajbmhgdaa", sum := "3aa0dfade9212304db3fa753dd129df586c12cc150009cb9f9b29e8af4bb1171", func := "smithy/smithylaw02.WideTogether", spec := "wideTogether", inPlace := ["math/bits.Sub64", "math/bits.Add64"], named := ["math/bits.divideError", "math/bits.overflowError"], apart := false }
def WideTogetherSaid : Prop := wideTogetherRow.holds Try.pinned (OpenSpec.ofChange wideTogetherSpec)

/-- ITS FALSE NEIGHBOUR: 'it returns false'. Refute it at one input. -/
def wideTogetherWrong : ChangeSpec := { name := "wideTogether", fn := fun _ => fun
  | [d1, d2] => { results := [.lit (.bool false)], args := [d1, d2] }
  | _ => none }
def WideTogetherWrongFalsely : Prop := wideTogetherRow.holds Try.pinned (OpenSpec.ofChange wideTogetherWrong)

/-- 'smithylaw02.WideProducts': WHATEVER THE INPUT: true; the input reads as it did. -/
def wideProductsSpec : ChangeSpec := { name := "wideProducts", fn := fun _ => fun
  | [d1, d2] => { results := [.lit (.bool true)], args := [d1, d2] }
  | _ => none }
def wideProductsRow : OpenClaim := { program := "ytijoifajbmhgdaa", sum := "3aa0dfade9212304db3fa753dd129df586c12cc150009cb9f9b29e8af4bb1171", func := "smithy/smithylaw02.WideProducts", spec := "wideProducts", inPlace := ["math/bits.Add64", "math/bits.Sub64"], named := ["math/bits.divideError", "math/bits.overflowError"], apart := false }
def WideProductsSaid : Prop := wideProductsRow.holds Try.pinned (OpenSpec.ofChange wideProductsSpec)

/-- ITS FALSE NEIGHBOUR: 'it returns false'. Refute it at one input. -/
def wideProductsWrong : ChangeSpec := { name := "wideProducts", fn := fun _ => fun
  | [d1, d2] => { results := [.lit (.bool false)], args := [d1, d2] }
  | _ => none }
def WideProductsWrongFalsely : Prop := wideProductsRow.holds Try.pinned (OpenSpec.ofChange wideProductsWrong)

/-- 'smithylaw02.WideRests': WHATEVER THE INPUT: true; the input reads as it did. -/
def wideRestsSpec : ChangeSpec := { name := "wideRests", fn := fun _ => fun
  | [d1, d2, d3] => { results := [.lit (.bool true)], args := [d1, d2, d3] }
  | _ => none }
def wideRestsRow : OpenClaim := { program := "ytijoifajbmhgdaa", sum := "3aa0dfade9212304db3fa753dd129df586c12cc150009cb9f9b29e8af4bb1171", func := "smithy/smithylaw02.WideRests", spec := "wideRests", inPlace := ["math/bits.Sub64", "math/bits.Add64"], named := ["math/bits.divideError", "math/bits.overflowError"], apart := false }
def WideRestsSaid : Prop := wideRestsRow.holds Try.pinned (OpenSpec.ofChange wideRestsSpec)

/-- ITS FALSE NEIGHBOUR: 'it returns false'. Refute it at one input. -/
def wideRestsWrong : ChangeSpec := { name := "wideRests", fn := fun _ => fun
  | [d1, d2, d3] => { results := [.lit (.bool false)], args := [d1, d2, d3] }
  | _ => none }
def WideRestsWrongFalsely : Prop := wideRestsRow.holds Try.pinned (OpenSpec.ofChange wideRestsWrong)

/-- 'smithylaw02.WidePowers': WHATEVER THE INPUT: true; the input reads as it did. -/
def widePowersSpec : ChangeSpec := { name := "widePowers", fn := fun _ => fun
  | [d1, d2] => { results := [.lit (.bool true)], args := [d1, d2] }
  | _ => none }
def widePowersRow : OpenClaim := { program := "ytijoifajbmhgdaa", sum := "3aa0dfade9212304db3fa753dd129df586c12cc150009cb9f9b29e8af4bb1171", func := "smithy/smithylaw02.WidePowers", spec := "widePowers", inPlace := ["math/bits.Sub64", "math/bits.Add64"], named := ["math/bits.divideError", "math/bits.overflowError"], apart := false }
def WidePowersSaid : Prop := widePowersRow.holds Try.pinned (OpenSpec.ofChange widePowersSpec)

/-- ITS FALSE NEIGHBOUR: 'it returns false'. Refute it at one input. -/
def widePowersWrong : ChangeSpec := { name := "widePowers", fn := fun _ => fun
  | [d1, d2] => { results := [.lit (.bool false)], args := [d1, d2] }
  | _ => none }
def WidePowersWrongFalsely : Prop := widePowersRow.holds Try.pinned (OpenSpec.ofChange widePowersWrong)

/-- 'smithylaw02.WideExponents': WHATEVER THE INPUT: true; the input reads as it did. -/
def wideExponentsSpec : ChangeSpec := { name := "wideExponents", fn := fun _ => fun
  | [d1, d2, d3] => { results := [.lit (.bool true)], args := [d1, d2, d3] }
  | _ => none }
def wideExponentsRow : OpenClaim := { program := "ytijoifajbmhgdaa", sum := "3aa0dfade9212304db3fa753dd129df586c12cc150009cb9f9b29e8af4bb1171", func := "smithy/smithylaw02.WideExponents", spec := "wideExponents", inPlace := ["math/bits.Add64", "math/bits.Sub64"], named := ["math/bits.divideError", "math/bits.overflowError"], apart := false }
def WideExponentsSaid : Prop := wideExponentsRow.holds Try.pinned (OpenSpec.ofChange wideExponentsSpec)

/-- ITS FALSE NEIGHBOUR: 'it returns false'. Refute it at one input. -/
def wideExponentsWrong : ChangeSpec := { name := "wideExponents", fn := fun _ => fun
  | [d1, d2, d3] => { results := [.lit (.bool false)], args := [d1, d2, d3] }
  | _ => none }
def WideExponentsWrongFalsely : Prop := wideExponentsRow.holds Try.pinned (OpenSpec.ofChange wideExponentsWrong)

/-- 'smithylaw17.AluAlike': WHATEVER THE INPUT: true; the input reads as it did. -/
def aluAlikeSpec : ChangeSpec := { name := "aluAlike", fn := fun _ => fun
  | [d1, d2, d3] => { results := [.lit (.bool true)], args := [d1, d2, d3] }
  | _ => none }
def aluAlikeRow : OpenClaim := { program := "ytijoifajbmhgdaa", sum := "3aa0dfade9212304db3fa753dd129df586c12cc150009cb9f9b29e8af4bb1171", func := "smithy/smithylaw17.AluAlike", spec := "aluAlike", inPlace := ["math/bits.Add64", "math/bits.Sub64"], unfollowed := true, recurses := true, named := ["math/bits.divideError", "math/bits.overflowError"], apart := false }
def AluAlikeSaid : Prop := aluAlikeRow.holds Try.pinned (OpenSpec.ofChange aluAlikeSpec)

/-- ITS FALSE NEIGHBOUR: 'it returns false'. Refute it at one input. -/
def aluAlikeWrong : ChangeSpec := { name := "aluAlike", fn := fun _ => fun
  | [d1, d2, d3] => { results := [.lit (.bool false)], args := [d1, d2, d3] }
  | _ => none }
def AluAlikeWrongFalsely : Prop := aluAlikeRow.holds Try.pinned (OpenSpec.ofChange aluAlikeWrong)

/- THE SECOND FORM. 'bulk': how many values and letters a reading holds, each counted each time it is reached (what is shared counts as often as it is met; a slice's spare places count too). A statement '..UptoSaid' is the law's where the arguments, and the package variables that the reading takes, are together of bulk at most 1048576: NARROWER than '..Said'. Prove '..Said' where nothing that the law and all that it calls make is longer than what came in: it says more and counts as full. Else prove '..UptoSaid'. A law counts once. -/
mutual
def uptoBulk {H : Type} : DataW H → Nat
  | .lit (.string bytes) => bytes.length + 1
  | .lit _ => 1
  | .nil => 1
  | .ptr d => uptoBulk d + 1
  | .slice elems spare => uptoBulkAll elems + uptoBulkAll spare + 1
  | .agg parts => uptoBulkAll parts + 1
  | .iface _ d => uptoBulk d + 1
  | .map entries => uptoBulkEntries entries + 1
  | .held _ => 1
def uptoBulkAll {H : Type} : List (DataW H) → Nat
  | [] => 0
  | d :: r => uptoBulk d + uptoBulkAll r
def uptoBulkEntries {H : Type} : List (Lit × DataW H) → Nat
  | [] => 0
  | x :: r => uptoBulkEntry x + uptoBulkEntries r
def uptoBulkEntry {H : Type} : Lit × DataW H → Nat
  | (.string bytes, d) => bytes.length + uptoBulk d + 1
  | (_, d) => uptoBulk d + 1
 end
def uptoSmall : (H : Type) → List (DataW H) → Bool := fun _ ds => decide (uptoBulkAll ds ≤ 1048576)
def OpenSpec.upto (s : _root_.Go.ChangeSpec) : _root_.Go.OpenSpec := { _root_.Go.OpenSpec.ofChange s with cond := some uptoSmall }

/-- 'smithylaw01.WordProducts', WHERE WHAT IT READS IS OF BULK AT MOST 1048576: true; the input reads as it did. -/
def wordProductsUptoRow : OpenClaim := { program := "ytijoifajbmhgdaa", sum := "3aa0dfade9212304db3fa753dd129df586c12cc150009cb9f9b29e8af4bb1171", func := "smithy/smithylaw01.WordProducts", spec := "wordProducts", inPlace := ["math/bits.Sub64", "math/bits.Add64"], apart := false, narrowed := true }
def WordProductsUptoSaid : Prop := wordProductsUptoRow.holds Try.pinned (OpenSpec.upto wordProductsSpec)

/-- 'smithylaw01.WordShifts', WHERE WHAT IT READS IS OF BULK AT MOST 1048576: true; the input reads as it did. -/
def wordShiftsUptoRow : OpenClaim := { program := "ytijoifajbmhgdaa", sum := "3aa0dfade9212304db3fa753dd129df586c12cc150009cb9f9b29e8af4bb1171", func := "smithy/smithylaw01.WordShifts", spec := "wordShifts", inPlace := ["math/bits.Sub64", "math/bits.Add64"], apart := false, narrowed := true }
def WordShiftsUptoSaid : Prop := wordShiftsUptoRow.holds Try.pinned (OpenSpec.upto wordShiftsSpec)

/-- 'smithylaw01.WordLogic', WHERE WHAT IT READS IS OF BULK AT MOST 1048576: true; the input reads as it did. -/
def wordLogicUptoRow : OpenClaim := { program := "ytijoifajbmhgdaa", sum := "3aa0dfade9212304db3fa753dd129df586c12cc150009cb9f9b29e8af4bb1171", func := "smithy/smithylaw01.WordLogic", spec := "wordLogic", inPlace := ["math/bits.Sub64", "math/bits.Add64"], apart := false, narrowed := true }
def WordLogicUptoSaid : Prop := wordLogicUptoRow.holds Try.pinned (OpenSpec.upto wordLogicSpec)

/-- 'smithylaw01.WordSums', WHERE WHAT IT READS IS OF BULK AT MOST 1048576: true; the input reads as it did. -/
def wordSumsUptoRow : OpenClaim := { program := "ytijoifajbmhgdaa", sum := "3aa0dfade9212304db3fa753dd129df586c12cc150009cb9f9b29e8af4bb1171", func := "smithy/smithylaw01.WordSums", spec := "wordSums", inPlace := ["math/bits.Sub64", "math/bits.Add64"], apart := false, narrowed := true }
def WordSumsUptoSaid : Prop := wordSumsUptoRow.holds Try.pinned (OpenSpec.upto wordSumsSpec)

/-- 'smithylaw01.WordRing', WHERE WHAT IT READS IS OF BULK AT MOST 1048576: true; the input reads as it did. -/
def wordRingUptoRow : OpenClaim := { program := "ytijoifajbmhgdaa", sum := "3aa0dfade9212304db3fa753dd129df586c12cc150009cb9f9b29e8af4bb1171", func := "smithy/smithylaw01.WordRing", spec := "wordRing", inPlace := ["math/bits.Add64", "math/bits.Sub64"], apart := false, narrowed := true }
def WordRingUptoSaid : Prop := wordRingUptoRow.holds Try.pinned (OpenSpec.upto wordRingSpec)

/-- 'smithylaw01.WordBytes', WHERE WHAT IT READS IS OF BULK AT MOST 1048576: true; the input reads as it did. -/
def wordBytesUptoRow : OpenClaim := { program := "ytijoifajbmhgdaa", sum := "3aa0dfade9212304db3fa753dd129df586c12cc150009cb9f9b29e8af4bb1171", func := "smithy/smithylaw01.WordBytes", spec := "wordBytes", inPlace := ["math/bits.Sub64", "math/bits.Add64"], apart := false, narrowed := true }
def WordBytesUptoSaid : Prop := wordBytesUptoRow.holds Try.pinned (OpenSpec.upto wordBytesSpec)

/-- 'smithylaw01.WordOrder', WHERE WHAT IT READS IS OF BULK AT MOST 1048576: true; the input reads as it did. -/
def wordOrderUptoRow : OpenClaim := { program := "ytijoifajbmhgdaa", sum := "3aa0dfade9212304db3fa753dd129df586c12cc150009cb9f9b29e8af4bb1171", func := "smithy/smithylaw01.WordOrder", spec := "wordOrder", inPlace := ["math/bits.Add64", "math/bits.Sub64"], apart := false, narrowed := true }
def WordOrderUptoSaid : Prop := wordOrderUptoRow.holds Try.pinned (OpenSpec.upto wordOrderSpec)

/-- 'smithylaw01.WordParts', WHERE WHAT IT READS IS OF BULK AT MOST 1048576: true; the input reads as it did. -/
def wordPartsUptoRow : OpenClaim := { program := "ytijoifajbmhgdaa", sum := "3aa0dfade9212304db3fa753dd129df586c12cc150009cb9f9b29e8af4bb1171", func := "smithy/smithylaw01.WordParts", spec := "wordParts", inPlace := ["math/bits.Sub64", "math/bits.Add64"], apart := false, narrowed := true }
def WordPartsUptoSaid : Prop := wordPartsUptoRow.holds Try.pinned (OpenSpec.upto wordPartsSpec)

/-- 'smithylaw17.AluFew', WHERE WHAT IT READS IS OF BULK AT MOST 1048576: true; the input reads as it did. -/
def aluFewUptoRow : OpenClaim := { program := "ytijoifajbmhgdaa", sum := "3aa0dfade9212304db3fa753dd129df586c12cc150009cb9f9b29e8af4bb1171", func := "smithy/smithylaw17.AluFew", spec := "aluFew", inPlace := ["math/bits.Add64", "math/bits.Sub64"], unfollowed := true, recurses := true, named := ["math/bits.divideError", "math/bits.overflowError"], apart := false, narrowed := true }
def AluFewUptoSaid : Prop := aluFewUptoRow.holds Try.pinned (OpenSpec.upto aluFewSpec)

/-- 'smithylaw21.FeeNext', WHERE WHAT IT READS IS OF BULK AT MOST 1048576: true; the input reads as it did. -/
def feeNextUptoRow : OpenClaim := { program := "ytijoifajbmhgdaa", sum := "3aa0dfade9212304db3fa753dd129df586c12cc150009cb9f9b29e8af4bb1171", func := "smithy/smithylaw21.FeeNext", spec := "feeNext", inPlace := ["math/bits.Add64", "math/bits.Sub64"], apart := false, narrowed := true }
def FeeNextUptoSaid : Prop := feeNextUptoRow.holds Try.pinned (OpenSpec.upto feeNextSpec)

/-- 'smithylaw21.FeeEighth', WHERE WHAT IT READS IS OF BULK AT MOST 1048576: true; the input reads as it did. -/
def feeEighthUptoRow : OpenClaim := { program := "ytijoifajbmhgdaa", sum := "3aa0dfade9212304db3fa753dd129df586c12cc150009cb9f9b29e8af4bb1171", func := "smithy/smithylaw21.FeeEighth", spec := "feeEighth", inPlace := ["math/bits.Add64", "math/bits.Sub64"], apart := false, narrowed := true }
def FeeEighthUptoSaid : Prop := feeEighthUptoRow.holds Try.pinned (OpenSpec.upto feeEighthSpec)

/-- 'smithylaw21.FeeMore', WHERE WHAT IT READS IS OF BULK AT MOST 1048576: true; the input reads as it did. -/
def feeMoreUptoRow : OpenClaim := { program := "ytijoifajbmhgdaa", sum := "3aa0dfade9212304db3fa753dd129df586c12cc150009cb9f9b29e8af4bb1171", func := "smithy/smithylaw21.FeeMore", spec := "feeMore", inPlace := ["math/bits.Add64", "math/bits.Sub64"], apart := false, narrowed := true }
def FeeMoreUptoSaid : Prop := feeMoreUptoRow.holds Try.pinned (OpenSpec.upto feeMoreSpec)

/-- 'smithylaw03.SignDivides', WHERE WHAT IT READS IS OF BULK AT MOST 1048576: true; the input reads as it did. -/
def signDividesUptoRow : OpenClaim := { program := "ytijoifajbmhgdaa", sum := "3aa0dfade9212304db3fa753dd129df586c12cc150009cb9f9b29e8af4bb1171", func := "smithy/smithylaw03.SignDivides", spec := "signDivides", inPlace := ["math/bits.Sub64"], named := ["math/bits.divideError", "math/bits.overflowError"], apart := false, narrowed := true }
def SignDividesUptoSaid : Prop := signDividesUptoRow.holds Try.pinned (OpenSpec.upto signDividesSpec)

/-- 'smithylaw03.SignTogether', WHERE WHAT IT READS IS OF BULK AT MOST 1048576: true; the input reads as it did. -/
def signTogetherUptoRow : OpenClaim := { program := "ytijoifajbmhgdaa", sum := "3aa0dfade9212304db3fa753dd129df586c12cc150009cb9f9b29e8af4bb1171", func := "smithy/smithylaw03.SignTogether", spec := "signTogether", inPlace := ["math/bits.Sub64"], named := ["math/bits.divideError", "math/bits.overflowError"], apart := false, narrowed := true }
def SignTogetherUptoSaid : Prop := signTogetherUptoRow.holds Try.pinned (OpenSpec.upto signTogetherSpec)

/-- 'smithylaw03.SignLess', WHERE WHAT IT READS IS OF BULK AT MOST 1048576: true; the input reads as it did. -/
def signLessUptoRow : OpenClaim := { program := "ytijoifajbmhgdaa", sum := "3aa0dfade9212304db3fa753dd129df586c12cc150009cb9f9b29e8af4bb1171", func := "smithy/smithylaw03.SignLess", spec := "signLess", inPlace := ["math/bits.Sub64"], named := ["math/bits.divideError", "math/bits.overflowError"], apart := false, narrowed := true }
def SignLessUptoSaid : Prop := signLessUptoRow.holds Try.pinned (OpenSpec.upto signLessSpec)

/-- 'smithylaw03.SignExtends', WHERE WHAT IT READS IS OF BULK AT MOST 1048576: true; the input reads as it did. -/
def signExtendsUptoRow : OpenClaim := { program := "ytijoifajbmhgdaa", sum := "3aa0dfade9212304db3fa753dd129df586c12cc150009cb9f9b29e8af4bb1171", func := "smithy/smithylaw03.SignExtends", spec := "signExtends", inPlace := ["math/bits.Sub64"], named := ["math/bits.divideError", "math/bits.overflowError"], apart := false, narrowed := true }
def SignExtendsUptoSaid : Prop := signExtendsUptoRow.holds Try.pinned (OpenSpec.upto signExtendsSpec)

/-- 'smithylaw03.SignShifts', WHERE WHAT IT READS IS OF BULK AT MOST 1048576: true; the input reads as it did. -/
def signShiftsUptoRow : OpenClaim := { program := "ytijoifajbmhgdaa", sum := "3aa0dfade9212304db3fa753dd129df586c12cc150009cb9f9b29e8af4bb1171", func := "smithy/smithylaw03.SignShifts", spec := "signShifts", inPlace := ["math/bits.Sub64"], named := ["math/bits.divideError", "math/bits.overflowError"], apart := false, narrowed := true }
def SignShiftsUptoSaid : Prop := signShiftsUptoRow.holds Try.pinned (OpenSpec.upto signShiftsSpec)

/-- 'smithylaw02.WideDivides', WHERE WHAT IT READS IS OF BULK AT MOST 1048576: true; the input reads as it did. -/
def wideDividesUptoRow : OpenClaim := { program := "ytijoifajbmhgdaa", sum := "3aa0dfade9212304db3fa753dd129df586c12cc150009cb9f9b29e8af4bb1171", func := "smithy/smithylaw02.WideDivides", spec := "wideDivides", inPlace := ["math/bits.Sub64", "math/bits.Add64"], named := ["math/bits.divideError", "math/bits.overflowError"], apart := false, narrowed := true }
def WideDividesUptoSaid : Prop := wideDividesUptoRow.holds Try.pinned (OpenSpec.upto wideDividesSpec)

/-- 'smithylaw02.WideTogether', WHERE WHAT IT READS IS OF BULK AT MOST 1048576: true; the input reads as it did. -/
def wideTogetherUptoRow : OpenClaim := { program := "ytijoifajbmhgdaa", sum := "3aa0dfade9212304db3fa753dd129df586c12cc150009cb9f9b29e8af4bb1171", func := "smithy/smithylaw02.WideTogether", spec := "wideTogether", inPlace := ["math/bits.Sub64", "math/bits.Add64"], named := ["math/bits.divideError", "math/bits.overflowError"], apart := false, narrowed := true }
def WideTogetherUptoSaid : Prop := wideTogetherUptoRow.holds Try.pinned (OpenSpec.upto wideTogetherSpec)

/-- 'smithylaw02.WideProducts', WHERE WHAT IT READS IS OF BULK AT MOST 1048576: true; the input reads as it did. -/
def wideProductsUptoRow : OpenClaim := { program := "ytijoifajbmhgdaa", sum := "3aa0dfade9212304db3fa753dd129df586c12cc150009cb9f9b29e8af4bb1171", func := "smithy/smithylaw02.WideProducts", spec := "wideProducts", inPlace := ["math/bits.Add64", "math/bits.Sub64"], named := ["math/bits.divideError", "math/bits.overflowError"], apart := false, narrowed := true }
def WideProductsUptoSaid : Prop := wideProductsUptoRow.holds Try.pinned (OpenSpec.upto wideProductsSpec)

/-- 'smithylaw02.WideRests', WHERE WHAT IT READS IS OF BULK AT MOST 1048576: true; the input reads as it did. -/
def wideRestsUptoRow : OpenClaim := { program := "ytijoifajbmhgdaa", sum := "3aa0dfade9212304db3fa753dd129df586c12cc150009cb9f9b29e8af4bb1171", func := "smithy/smithylaw02.WideRests", spec := "wideRests", inPlace := ["math/bits.Sub64", "math/bits.Add64"], named := ["math/bits.divideError", "math/bits.overflowError"], apart := false, narrowed := true }
def WideRestsUptoSaid : Prop := wideRestsUptoRow.holds Try.pinned (OpenSpec.upto wideRestsSpec)

/-- 'smithylaw02.WidePowers', WHERE WHAT IT READS IS OF BULK AT MOST 1048576: true; the input reads as it did. -/
def widePowersUptoRow : OpenClaim := { program := "ytijoifajbmhgdaa", sum := "3aa0dfade9212304db3fa753dd129df586c12cc150009cb9f9b29e8af4bb1171", func := "smithy/smithylaw02.WidePowers", spec := "widePowers", inPlace := ["math/bits.Sub64", "math/bits.Add64"], named := ["math/bits.divideError", "math/bits.overflowError"], apart := false, narrowed := true }
def WidePowersUptoSaid : Prop := widePowersUptoRow.holds Try.pinned (OpenSpec.upto widePowersSpec)

/-- 'smithylaw02.WideExponents', WHERE WHAT IT READS IS OF BULK AT MOST 1048576: true; the input reads as it did. -/
def wideExponentsUptoRow : OpenClaim := { program := "ytijoifajbmhgdaa", sum := "3aa0dfade9212304db3fa753dd129df586c12cc150009cb9f9b29e8af4bb1171", func := "smithy/smithylaw02.WideExponents", spec := "wideExponents", inPlace := ["math/bits.Add64", "math/bits.Sub64"], named := ["math/bits.divideError", "math/bits.overflowError"], apart := false, narrowed := true }
def WideExponentsUptoSaid : Prop := wideExponentsUptoRow.holds Try.pinned (OpenSpec.upto wideExponentsSpec)

/-- 'smithylaw17.AluAlike', WHERE WHAT IT READS IS OF BULK AT MOST 1048576: true; the input reads as it did. -/
def aluAlikeUptoRow : OpenClaim := { program := "ytijoifajbmhgdaa", sum := "3aa0dfade9212304db3fa753dd129df586c12cc150009cb9f9b29e8af4bb1171", func := "smithy/smithylaw17.AluAlike", spec := "aluAlike", inPlace := ["math/bits.Add64", "math/bits.Sub64"], unfollowed := true, recurses := true, named := ["math/bits.divideError", "math/bits.overflowError"], apart := false, narrowed := true }
def AluAlikeUptoSaid : Prop := aluAlikeUptoRow.holds Try.pinned (OpenSpec.upto aluAlikeSpec)

end Rows
end Go.Proofs.Ytijoifajbmhgdaa
