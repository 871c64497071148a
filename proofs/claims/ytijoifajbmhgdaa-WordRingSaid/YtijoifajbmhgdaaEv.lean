/- Small equations for the evaluation. -/
import Derived.Test.YtijoifajbmhgdaaTab
namespace Go.Proofs.Ytijoifajbmhgdaa.Sym
set_option linter.unusedSimpArgs false
set_option linter.unusedVariables false
open Go Go.RowKit

theorem pickA_bool (t x y : Bool) : pickA t (.bool x) (.bool y) = .bool (if t = true then x else y) := rfl
theorem pickA_true (a b : AV) : pickA true a b = a := by rw [pickA_eq]; rfl
theorem pickA_false (a b : AV) : pickA false a b = b := by rw [pickA_eq]; rfl
theorem InB_lit (n : Nat) (m : Nat) : InB (OfNat.ofNat m : Int) n = (m < n) := by
  unfold InB
  show (0 ≤ (m : Int) ∧ (m : Int) < n) = (m < n)
  apply propext; omega
theorem InB_ok {z : Int} {n : Nat} (h0 : 0 ≤ z) (h1 : z < n) : InB z n = True := by unfold InB; simp [h0, h1]
theorem shF_zero (f : Nat → Int) : shF f 0 = f := by funext j; simp [shF]
theorem updF_same {α : Type} (F : Nat → α) (d : Nat) (v : α) : updF F d v d = v := by simp [updF]
theorem updF_ne {α : Type} (F : Nat → α) {d s : Nat} (v : α) (h : d ≠ s) : updF F d v s = F s := by simp [updF, h]

theorem wrap_u64 (z : Int) : IntKind.u64.wrap z = z % 18446744073709551616 := by
  simp [IntKind.wrap, IntKind.signed, IntKind.bits]
theorem wrap_u8 (z : Int) : IntKind.u8.wrap z = z % 256 := by
  simp [IntKind.wrap, IntKind.signed, IntKind.bits]
theorem wrap_u64' {z : Int} (h0 : 0 ≤ z) (h1 : z < 18446744073709551616) : IntKind.u64.wrap z = z := by rw [wrap_u64]; exact Int.emod_eq_of_lt h0 h1
theorem wrap_u8' {z : Int} (h0 : 0 ≤ z) (h1 : z < 256) : IntKind.u8.wrap z = z := by rw [wrap_u8]; exact Int.emod_eq_of_lt h0 h1
theorem wrap_i64' {z : Int} (h0 : -9223372036854775808 ≤ z) (h1 : z ≤ 9223372036854775807) : IntKind.i64.wrap z = z := wrap_i64 h0 h1

theorem T_go {E : Env} {sz : Nat} {c : Code} {Q : Exit → St → Prop} {σ : St} (σ' : St) (h : Le σ σ') (ht : Tri E sz c Q σ') : Tri E sz c Q σ := T_le h.1 h.2 ht

end Go.Proofs.Ytijoifajbmhgdaa.Sym
