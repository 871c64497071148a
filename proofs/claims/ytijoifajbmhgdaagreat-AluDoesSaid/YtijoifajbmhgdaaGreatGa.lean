/- Words that are the same; words of ones. -/
import Derived.Test.YtijoifajbmhgdaaGreatRd
namespace Go.Proofs.YtijoifajbmhgdaaGreat.Sym
set_option linter.unusedVariables false
open Go Go.RowKit Num
set_option maxRecDepth 10000
set_option linter.unusedSimpArgs false

theorem eqW {a b : Int} (h : a % M = b % M) : eqA 4 (wl a) (wl b) = true := by
  rw [wl_congr h]; exact eqA_eq.2 fun _ _ => rfl
theorem eqWf {a : Int} {f : Nat → Int} (hf : W f) (h : a % M = wv f) : eqA 4 (wl a) f = true :=
  eqA_eq.2 fun j hj => by rw [← wl_wv hf j hj, ← wl_mod a, h]
theorem W0 : W (fun _ => 0) := fun j hj => by simp [B64]
theorem wv0 : wv (fun _ => 0) = 0 := wsum_zero fun _ _ => rfl
theorem W01 : W (updF (updF (fun _ => 0) 0 0) 1 1) := fun j hj => by unfold updF B64; split <;> (try split) <;> simp
theorem wv01 : wv (updF (updF (fun _ => 0) 0 0) 1 1) = 18446744073709551616 := by decide
theorem eqW0 {a : Int} (h : a % M = 0) : eqA 4 (wl a) (fun _ => 0) = true := eqWf W0 (by rw [wv0]; exact h)

theorem emod_mul (a b n : Int) : a % n * b % n = a * b % n := by rw [Int.mul_emod, Int.emod_emod, ← Int.mul_emod]
theorem mul_emod' (a b n : Int) : a * (b % n) % n = a * b % n := by rw [Int.mul_emod, Int.emod_emod, ← Int.mul_emod]
theorem eqA_refl (n : Nat) (f : Nat → Int) : eqA n f f = true := eqA_eq.2 fun _ _ => rfl
theorem dvdl {f : Nat → Int} (h : W f) : dv (dl (wv f)) = wv f := by rw [dv_dl, modM (wv_bd h).1 (wv_bd h).2]

theorem xor_ones {a : Int} (h0 : 0 ≤ a) (h1 : a < M) : lgc (· ^^^ ·) a (M - 1) = M - 1 - a := by
  unfold lgc
  have hx : a.toNat < 2 ^ 256 := by
    have : M = ((2 ^ 256 : Nat) : Int) := by decide
    omega
  have e : (M - 1).toNat = 2 ^ 256 - 1 := by decide
  have : a.toNat ^^^ (M - 1).toNat = 2 ^ 256 - (a.toNat + 1) := by
    rw [e]
    refine Nat.eq_of_testBit_eq fun i => ?_
    rw [Nat.testBit_xor, Nat.testBit_two_pow_sub_succ hx, Nat.testBit_two_pow_sub_one]
    by_cases hi : i < 256
    · simp [hi]
    · have : a.toNat.testBit i = false := Nat.testBit_lt_two_pow (Nat.lt_of_lt_of_le hx (Nat.pow_le_pow_right (by decide) (by omega)))
      simp [hi, this]
  show ((a.toNat ^^^ (M - 1).toNat : Nat) : Int) = M - 1 - a
  rw [this]
  have : M = ((2 ^ 256 : Nat) : Int) := by decide
  omega

def ones4 : Nat → Int := updF (updF (updF (updF (fun _ => 0) 0 18446744073709551615) 1 18446744073709551615) 2 18446744073709551615) 3 18446744073709551615
theorem ones4_eq : updF (updF (updF (updF (fun _ => (0 : Int)) 0 18446744073709551615) 1 18446744073709551615) 2 18446744073709551615) 3 18446744073709551615 = ones4 := rfl
theorem W_ones : W ones4 := W4 (by unfold U; decide) (by unfold U; decide) (by unfold U; decide) (by unfold U; decide)
theorem wv_ones : wv ones4 = M - 1 := by decide

def sFixed1 : List AV → SOut
  | [] => ⟨True, .bool true⟩
  | _ => ⟨False, .und⟩
end Go.Proofs.YtijoifajbmhgdaaGreat.Sym
