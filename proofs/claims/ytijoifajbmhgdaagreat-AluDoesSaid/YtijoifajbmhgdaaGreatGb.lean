/- Numbers of any length and words: what they come to. -/
import Derived.Test.YtijoifajbmhgdaaGreatVe
import Derived.Test.YtijoifajbmhgdaaGreatNc
import Derived.Test.YtijoifajbmhgdaaGreatGa
namespace Go.Proofs.YtijoifajbmhgdaaGreat.Sym
set_option linter.unusedVariables false
open Go Go.RowKit Num
set_option maxRecDepth 10000
set_option linter.unusedSimpArgs false

theorem nv32 (a : Int) : nv 32 (dl a) = a % M := dv_dl a
theorem nv_dl {a : Int} (h0 : 0 ≤ a) (h1 : a < M) : nv 32 (dl a) = a := by rw [nv32, modM h0 h1]
theorem nv_nd {R : Int} (h : 0 ≤ R) : nv (nd R) (dig 256 R) = R := by rw [nv_dig, Int.emod_eq_of_lt h (lt_nd h)]
theorem nv_of {a : Int} {n : Nat} (h0 : 0 ≤ a) (h1 : a < 256 ^ n) : nv n (dig 256 a) = a := by rw [nv_dig, Int.emod_eq_of_lt h0 h1]
theorem shF_dig (a : Int) (n : Nat) : shF (dig 256 a) n = dig 256 (a / 256 ^ n) := by
  funext j
  unfold shF dig
  rw [Int.ediv_ediv_of_nonneg (Int.pow_nonneg (by decide)), ← Int.pow_add]
theorem wv_small {x : Int} (h0 : 0 ≤ x) (h1 : x < M) : wv (wl x) = x := by rw [wv_wl, modM h0 h1]
theorem D32 (a : Int) : Dg 256 32 (dl a) := D_dl a
theorem nr_nn {a b : Int} (ha : 0 ≤ a) (hb : 0 ≤ b) : 0 ≤ nr a b := by
  unfold nr
  split
  · omega
  · exact Int.emod_nonneg _ (by omega)
theorem nr_lt {a b : Int} (hb : 0 ≤ b) (hM : b < M) : nr a b < M := by
  unfold nr
  split
  · decide
  · have := Int.emod_lt_of_pos a (show 0 < b by omega); omega

def top4 : Nat → Int := updF (updF (updF (updF (fun _ => 0) 0 0) 1 0) 2 0) 3 9223372036854775808
theorem top4_eq : updF (updF (updF (updF (fun _ => (0 : Int)) 0 0) 1 0) 2 0) 3 9223372036854775808 = top4 := rfl
theorem W_top : W top4 := W4 (by unfold U; decide) (by unfold U; decide) (by unfold U; decide) (by unfold U; decide)
theorem wv_top : wv top4 = 57896044618658097711785492504343953926634992332820282019728792003956564819968 := by decide

theorem eqA_val {f g : Nat → Int} (hf : W f) (hg : W g) : eqA 4 f g = decide (wv f = wv g) := by
  by_cases h : wv f = wv g
  · rw [decide_eq_true h]
    exact eqA_eq.2 (wsum_inj B64_pos hf hg h)
  · rw [decide_eq_false h]
    rcases Bool.eq_false_or_eq_true (eqA 4 f g) with k | k
    · exact absurd (wv_congr (eqA_eq.1 k)) h
    · exact k
end Go.Proofs.YtijoifajbmhgdaaGreat.Sym
