/- Plain numbers: a number's digits to a base, and what digits come to. Nothing of Go. -/
import Derived.WalkKit
namespace Go.Proofs.YtijoifajbmhgdaaGreat.Num
set_option linter.unusedSimpArgs false
set_option linter.unusedVariables false

def wsum (B : Int) (f : Nat → Int) : Nat → Int
  | 0 => 0
  | n + 1 => wsum B f n + f n * B ^ n

def dig (B a : Int) (j : Nat) : Int := a / B ^ j % B
def Dg (B : Int) (n : Nat) (f : Nat → Int) : Prop := ∀ j, j < n → 0 ≤ f j ∧ f j < B

theorem wsum_succ (B : Int) (f : Nat → Int) (n : Nat) : wsum B f (n + 1) = wsum B f n + f n * B ^ n := rfl

theorem wsum_congr {B : Int} {f g : Nat → Int} : ∀ {n : Nat}, (∀ j, j < n → f j = g j) → wsum B f n = wsum B g n
  | 0, _ => rfl
  | n + 1, h => by rw [wsum_succ, wsum_succ, wsum_congr fun j hj => h j (by omega), h n (by omega)]

theorem wsum_bd {B : Int} (hB : 0 < B) {f : Nat → Int} : ∀ {n : Nat}, Dg B n f → 0 ≤ wsum B f n ∧ wsum B f n < B ^ n
  | 0, _ => by simp [wsum]
  | n + 1, h => by
    obtain ⟨h1, h2⟩ := wsum_bd hB (n := n) fun j hj => h j (by omega)
    obtain ⟨h3, h4⟩ := h n (by omega)
    have hp : 0 < B ^ n := Int.pow_pos hB
    rw [wsum_succ, Int.pow_succ]
    have a1 : 0 ≤ f n * B ^ n := Int.mul_nonneg h3 (by omega)
    have a2 : f n * B ^ n ≤ (B - 1) * B ^ n := Int.mul_le_mul_of_nonneg_right (by omega) (by omega)
    have a3 : (B - 1) * B ^ n = B ^ n * B - B ^ n := by grind
    omega

theorem dig_bd {B : Int} (hB : 0 < B) (a : Int) (j : Nat) : 0 ≤ dig B a j ∧ dig B a j < B :=
  ⟨Int.emod_nonneg _ (by omega), Int.emod_lt_of_pos _ hB⟩

theorem dig_Dg {B : Int} (hB : 0 < B) (a : Int) (n : Nat) : Dg B n (dig B a) := fun j _ => dig_bd hB a j

theorem wsum_dig {B : Int} (hB : 0 < B) (a : Int) : ∀ n, wsum B (dig B a) n = a % B ^ n
  | 0 => by simp [wsum, Int.emod_one]
  | n + 1 => by
    have hp : 0 < B ^ n := Int.pow_pos hB
    rw [wsum_succ, wsum_dig hB a n]
    have e1 := Int.mul_ediv_add_emod a (B ^ n)
    have e2 := Int.mul_ediv_add_emod (a / B ^ n) B
    have r1 := Int.emod_nonneg a (show B ^ n ≠ 0 by omega)
    have r2 := Int.emod_lt_of_pos a hp
    have r3 := Int.emod_nonneg (a / B ^ n) (show B ≠ 0 by omega)
    have r4 := Int.emod_lt_of_pos (a / B ^ n) hB
    have hu := (Int.ediv_emod_unique (a := a) (b := B ^ (n + 1)) (r := a % B ^ n + a / B ^ n % B * B ^ n) (q := a / B ^ n / B) (Int.pow_pos hB)).2 ⟨by
      rw [Int.pow_succ]
      generalize a / B ^ n / B = q at *
      generalize a / B ^ n % B = r at *
      generalize a % B ^ n = s at *
      rw [← e2] at e1
      rw [← e1]
      grind, by
      have := Int.mul_nonneg r3 (show 0 ≤ B ^ n by omega)
      omega, by
      rw [Int.pow_succ]
      have a2 : a / B ^ n % B * B ^ n ≤ (B - 1) * B ^ n := Int.mul_le_mul_of_nonneg_right (by omega) (by omega)
      have a3 : (B - 1) * B ^ n = B ^ n * B - B ^ n := by grind
      omega⟩
    exact hu.2.symm

theorem wsum_split (B : Int) (f : Nat → Int) (n : Nat) : ∀ m, wsum B f (n + m) = wsum B f n + B ^ n * wsum B (fun j => f (n + j)) m
  | 0 => by simp [wsum]
  | m + 1 => by
    rw [← Nat.add_assoc, wsum_succ, wsum_succ, wsum_split B f n m, Int.pow_add]
    grind

theorem dig_wsum {B : Int} (hB : 0 < B) {f : Nat → Int} {n : Nat} (h : Dg B n f) {j : Nat} (hj : j < n) : dig B (wsum B f n) j = f j := by
  have hp : 0 < B ^ j := Int.pow_pos hB
  have h1 := wsum_bd hB (n := j) fun i hi => h i (by omega)
  have h2 := h j hj
  have e : wsum B f n = wsum B f j + B ^ j * (f j + B * wsum B (fun i => f (j + 1 + i)) (n - (j + 1))) := by
    have := wsum_split B f (j + 1) (n - (j + 1))
    rw [show j + 1 + (n - (j + 1)) = n from by omega, wsum_succ, Int.pow_succ] at this
    rw [this]
    grind
  unfold dig
  rw [e, Int.add_mul_ediv_left _ _ (by omega), Int.ediv_eq_zero_of_lt h1.1 h1.2, Int.zero_add, Int.add_mul_emod_self_left]
  exact Int.emod_eq_of_lt h2.1 h2.2

theorem wsum_inj {B : Int} (hB : 0 < B) {f g : Nat → Int} {n : Nat} (hf : Dg B n f) (hg : Dg B n g) (h : wsum B f n = wsum B g n) : ∀ j, j < n → f j = g j := fun j hj => by
  rw [← dig_wsum hB hf hj, ← dig_wsum hB hg hj, h]

theorem dig_mod {B : Int} (hB : 0 < B) (a : Int) {j n : Nat} (hj : j < n) : dig B (a % B ^ n) j = dig B a j := by
  rw [← wsum_dig hB a n]
  exact dig_wsum hB (dig_Dg hB a n) hj

theorem dig_zero {B : Int} (hB : 0 < B) {a : Int} {j : Nat} (h0 : 0 ≤ a) (h : a < B ^ j) : dig B a j = 0 := by
  unfold dig
  rw [Int.ediv_eq_zero_of_lt h0 h]
  exact Int.zero_emod _

/-- Digits of a digit to a power of the base. -/
theorem dig_dig {B : Int} (hB : 0 < B) (a : Int) (m i k : Nat) (hk : k < m) : dig B (dig (B ^ m) a i) k = dig B a (m * i + k) := by
  show dig B (a / (B ^ m) ^ i % B ^ m) k = _
  rw [dig_mod hB _ hk]
  unfold dig
  rw [Int.ediv_ediv_of_nonneg (Int.pow_nonneg (Int.pow_nonneg (by omega))), ← Int.pow_mul, ← Int.pow_add]

theorem Dg.mono {B : Int} {n m : Nat} {f : Nat → Int} (h : Dg B n f) (hm : m ≤ n) : Dg B m f := fun j hj => h j (by omega)

/-- Digits to a power of the base out of digits to the base. -/
theorem wsum_pow (B : Int) (m : Nat) (f : Nat → Int) : ∀ n, wsum B f (m * n) = wsum (B ^ m) (fun i => wsum B (fun k => f (m * i + k)) m) n
  | 0 => by simp [wsum]
  | n + 1 => by
    rw [show m * (n + 1) = m * n + m from by rw [Nat.mul_add, Nat.mul_one], wsum_split, wsum_pow B m f n, wsum_succ, ← Int.pow_mul, Int.mul_comm]

/-! ### Words of 256 bits -/
def B64 : Int := 18446744073709551616
def M : Int := 115792089237316195423570985008687907853269984665640564039457584007913129639936

theorem B64_pos : 0 < B64 := by decide
theorem B64_pow4 : B64 ^ 4 = M := by decide
theorem B64_pow8 : B64 = 256 ^ 8 := by decide
theorem M_256 : (256 : Int) ^ 32 = M := by decide
theorem M_2 : (2 : Int) ^ 256 = M := by decide
theorem M_pos : 0 < M := by decide
theorem B64_2 : B64 = 2 ^ 64 := by decide

def W (f : Nat → Int) : Prop := Dg B64 4 f
def wv (f : Nat → Int) : Int := wsum B64 f 4
def wl (a : Int) : Nat → Int := dig B64 (a % M)
def D (f : Nat → Int) : Prop := Dg 256 32 f
def dv (f : Nat → Int) : Int := wsum 256 f 32
def dl (a : Int) : Nat → Int := dig 256 (a % M)

theorem wv_bd {f : Nat → Int} (h : W f) : 0 ≤ wv f ∧ wv f < M := by rw [← B64_pow4]; exact wsum_bd B64_pos h
theorem dv_bd {f : Nat → Int} (h : D f) : 0 ≤ dv f ∧ dv f < M := by rw [← M_256]; exact wsum_bd (by decide) h
theorem W_wl (a : Int) : W (wl a) := dig_Dg B64_pos _ 4
theorem D_dl (a : Int) : D (dl a) := dig_Dg (by decide) _ 32
theorem wv_wl (a : Int) : wv (wl a) = a % M := by
  unfold wv wl; rw [wsum_dig B64_pos, B64_pow4, Int.emod_emod]
theorem dv_dl (a : Int) : dv (dl a) = a % M := by
  unfold dv dl; rw [wsum_dig (by decide), M_256, Int.emod_emod]
theorem wl_mod (a : Int) : wl (a % M) = wl a := by unfold wl; rw [Int.emod_emod]
theorem dl_mod (a : Int) : dl (a % M) = dl a := by unfold dl; rw [Int.emod_emod]
theorem wl_congr {a b : Int} (h : a % M = b % M) : wl a = wl b := by unfold wl; rw [h]
theorem dl_congr {a b : Int} (h : a % M = b % M) : dl a = dl b := by unfold dl; rw [h]
theorem wl_wv {f : Nat → Int} (h : W f) : ∀ j, j < 4 → wl (wv f) j = f j := fun j hj => by
  unfold wl
  rw [Int.emod_eq_of_lt (wv_bd h).1 (wv_bd h).2]
  exact dig_wsum B64_pos h hj
theorem dl_dv {f : Nat → Int} (h : D f) : ∀ j, j < 32 → dl (dv f) j = f j := fun j hj => by
  unfold dl
  rw [Int.emod_eq_of_lt (dv_bd h).1 (dv_bd h).2]
  exact dig_wsum (by decide) h hj
theorem wl_of {f : Nat → Int} (h : W f) {a : Int} (e : wv f = a % M) : ∀ j, j < 4 → f j = wl a j := fun j hj => by
  rw [← wl_wv h j hj, e, wl_mod]
theorem dl_of {f : Nat → Int} (h : D f) {a : Int} (e : dv f = a % M) : ∀ j, j < 32 → f j = dl a j := fun j hj => by
  rw [← dl_dv h j hj, e, dl_mod]
theorem wl_inj {a b : Int} (h : ∀ j, j < 4 → wl a j = wl b j) : a % M = b % M := by
  rw [← wv_wl a, ← wv_wl b]; exact wsum_congr h
theorem wv_of (f : Nat → Int) : wv f = f 0 + f 1 * 18446744073709551616 + f 2 * 340282366920938463463374607431768211456 + f 3 * 6277101735386680763835789423207666416102355444464034512896 := by
  simp only [wv, wsum, B64, Int.zero_add]
  rw [show (18446744073709551616 : Int) ^ 0 = 1 from rfl, show (18446744073709551616 : Int) ^ 1 = 18446744073709551616 from rfl, show (18446744073709551616 : Int) ^ 2 = 340282366920938463463374607431768211456 from by decide, show (18446744073709551616 : Int) ^ 3 = 6277101735386680763835789423207666416102355444464034512896 from by decide, Int.mul_one]
theorem wv_congr {f g : Nat → Int} (h : ∀ j, j < 4 → f j = g j) : wv f = wv g := wsum_congr h
theorem dv_congr {f g : Nat → Int} (h : ∀ j, j < 32 → f j = g j) : dv f = dv g := wsum_congr h

/-- A word's bytes. -/
theorem dl_wl (a : Int) (i k : Nat) (hi : i < 4) (hk : k < 8) : dig 256 (wl a i) k = dl a (8 * i + k) := by
  unfold wl dl
  rw [B64_pow8, dig_dig (by decide) _ 8 i k hk]

/-- A word out of its bytes. -/
theorem wv_bytes {f g : Nat → Int} (h : ∀ i, i < 4 → g i = wsum 256 (fun k => f (8 * i + k)) 8) : wv g = dv f := by
  unfold wv dv
  rw [show (32 : Nat) = 8 * 4 from rfl, wsum_pow 256 8 f 4, B64_pow8]
  exact wsum_congr h

theorem mod_of {a b c : Int} (h : a + c * M = b) (h0 : 0 ≤ a) (h1 : a < M) : a = b % M := by
  rw [← h, Int.add_mul_emod_self_right, Int.emod_eq_of_lt h0 h1]

end Go.Proofs.YtijoifajbmhgdaaGreat.Num
