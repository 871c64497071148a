/- Small equations for the evaluation. -/
import Derived.Test.YtijoifajbmhgdaaGreatTab
namespace Go.Proofs.YtijoifajbmhgdaaGreat.Sym
set_option linter.unusedSimpArgs false
set_option linter.unusedVariables false
open Go Go.RowKit

theorem pickA_bool (t x y : Bool) : pickA t (.bool x) (.bool y) = .bool (if t = true then x else y) := rfl
theorem pickA_true (a b : AV) : pickA true a b = a := by rw [pickA_eq]; rfl
theorem pickA_false (a b : AV) : pickA false a b = b := by rw [pickA_eq]; rfl
theorem InB_lit (n : Nat) (m : Nat) : InB (OfNat.ofNat m : Int) n = (m < n) := by
  unfold InB
  show (0 ≤ (m : Int) ∧ (m : Int) < n) = (m < n)
  apply propext; omega
theorem InB_ok {z : Int} {n : Nat} (h0 : 0 ≤ z) (h1 : z < n) : InB z n = True := by unfold InB; simp [h0, h1]
theorem shF_zero (f : Nat → Int) : shF f 0 = f := by funext j; simp [shF]
theorem updF_same {α : Type} (F : Nat → α) (d : Nat) (v : α) : updF F d v d = v := by simp [updF]
theorem updF_ne {α : Type} (F : Nat → α) {d s : Nat} (v : α) (h : d ≠ s) : updF F d v s = F s := by simp [updF, h]

theorem wrap_u64 (z : Int) : IntKind.u64.wrap z = z % 18446744073709551616 := by
  simp [IntKind.wrap, IntKind.signed, IntKind.bits]
theorem wrap_u8 (z : Int) : IntKind.u8.wrap z = z % 256 := by
  simp [IntKind.wrap, IntKind.signed, IntKind.bits]
theorem wrap_u64' {z : Int} (h0 : 0 ≤ z) (h1 : z < 18446744073709551616) : IntKind.u64.wrap z = z := by rw [wrap_u64]; exact Int.emod_eq_of_lt h0 h1
theorem wrap_u8' {z : Int} (h0 : 0 ≤ z) (h1 : z < 256) : IntKind.u8.wrap z = z := by rw [wrap_u8]; exact Int.emod_eq_of_lt h0 h1
theorem wrap_i64' {z : Int} (h0 : -9223372036854775808 ≤ z) (h1 : z ≤ 9223372036854775807) : IntKind.i64.wrap z = z := wrap_i64 h0 h1

theorem T_go {E : Env} {sz : Nat} {c : Code} {Q : Exit → St → Prop} {σ : St} (σ' : St) (h : Le σ σ') (ht : Tri E sz c Q σ') : Tri E sz c Q σ := T_le h.1 h.2 ht

/-- The small equations of the evaluation, in one. -/
theorem eqs : (∀ t x y : Bool, pickA t (.bool x) (.bool y) = .bool (if t = true then x else y)) ∧ (∀ a b, pickA true a b = a) ∧ (∀ a b, pickA false a b = b) ∧ (∀ n m : Nat, InB (OfNat.ofNat m : Int) n = (m < n)) ∧
    (∀ (z : Int) (n : Nat), 0 ≤ z → z < n → InB z n = True) ∧ (∀ f, shF f 0 = f) ∧ (∀ (F : Nat → Int) d v, updF F d v d = v) ∧
    (∀ z : Int, 0 ≤ z → z < 256 → IntKind.u8.wrap z = z) ∧ (∀ z : Int, 0 ≤ z → z < 18446744073709551616 → IntKind.u64.wrap z = z) ∧ (∀ z : Int, -9223372036854775808 ≤ z → z ≤ 9223372036854775807 → IntKind.i64.wrap z = z) ∧
    (∀ a b : Int, 0 ≤ a → a.tdiv b = a / b) ∧ (∀ a b : Int, 0 ≤ a → a.tmod b = a % b) ∧ (∀ a b : Nat, a ≤ b → min a b = a) ∧
    (∀ b, (b && true) = b) ∧ (∀ b, (b && b) = b) ∧ (∀ b, (true == b) = b) ∧ (∀ b, (false == b) = !b) ∧ ((!true) = false) ∧ ((!false) = true) ∧ (∀ b, (¬ b = true) = (b = false)) ∧
    (∀ [h : Decidable True], decide True = true) ∧ (∀ [h : Decidable False], decide False = false) ∧ (∀ (p : Prop) [h : Decidable p], (decide p = true) = p) ∧ ((¬ True) = False) ∧ ((¬ False) = True) ∧
    (∀ p, (True ∧ p) = p) ∧ (∀ p, (p ∧ True) = p) ∧ (∀ p, (p ∨ True) = True) ∧ (∀ p, (True ∨ p) = True) ∧ (∀ p, (p ∨ p) = p) ∧ (∀ p, (p ∨ False) = p) ∧ (∀ p, (False ∨ p) = p) ∧ (∀ p, (p ∧ p) = p) ∧
    (∀ n : Nat, 0 + n = n) ∧ (∀ n : Nat, n + 0 = n) ∧ (Int.toNat 0 = 0) ∧ (Int.toNat 1 = 1) ∧ (∀ n : Nat, Int.toNat n = n) :=
  ⟨pickA_bool, pickA_true, pickA_false, InB_lit, fun _ _ => InB_ok, shF_zero, updF_same, fun _ => wrap_u8', fun _ => wrap_u64', fun _ => wrap_i64',
   fun _ _ => Int.tdiv_eq_ediv_of_nonneg, fun _ _ => Int.tmod_eq_emod_of_nonneg, fun _ _ => Nat.min_eq_left,
   Bool.and_true, Bool.and_self, Bool.true_beq, Bool.false_beq, rfl, rfl, fun b => Bool.not_eq_true b,
   decide_true _, decide_false _, fun p h => decide_eq_true_eq, not_true_eq_false, not_false_eq_true,
   true_and, and_true, or_true, true_or, or_self, or_false, false_or, and_self,
   Nat.zero_add, Nat.add_zero, rfl, rfl, Int.toNat_natCast⟩

/-- What a condition says. -/
theorem cnds : (∀ (p : Prop) [h : Decidable p], (decide p = true) = p) ∧ (∀ (p : Prop) [h : Decidable p], (decide p = false) = ¬ p) ∧ (∀ b, ((!b) = true) = (b = false)) ∧ (∀ b, ((!b) = false) = (b = true)) ∧
    (∀ a b : Int, ((a == b) = true) = (a = b)) ∧ (∀ a b : Int, ((a == b) = false) = ¬ (a = b)) ∧ (∀ a b : Int, ((a != b) = true) = ¬ (a = b)) ∧ (∀ a b : Int, ((a != b) = false) = (a = b)) ∧
    (∀ a b : Bool, ((a == b) = true) = (a = b)) ∧ (∀ a b : Bool, ((a == b) = false) = ¬ (a = b)) ∧ (∀ a b : Bool, ((a != b) = true) = ¬ (a = b)) ∧ (∀ a b : Bool, ((a != b) = false) = (a = b)) ∧
    ((false = true) = False) ∧ ((true = false) = False) :=
  ⟨fun p h => decide_eq_true_eq, fun p h => by simp, fun b => by simp, fun b => by simp, fun a b => by simp, fun a b => by simp, fun a b => by simp, fun a b => by simp,
   fun a b => by simp, fun a b => by simp, fun a b => by simp, fun a b => by simp, by simp, by simp⟩

end Go.Proofs.YtijoifajbmhgdaaGreat.Sym
