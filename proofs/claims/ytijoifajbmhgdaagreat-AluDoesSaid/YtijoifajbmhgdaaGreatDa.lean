/- Go's quotient of a number of 128 bits: Div64. -/
import Derived.Test.YtijoifajbmhgdaaGreatWd
namespace Go.Proofs.YtijoifajbmhgdaaGreat.Sym
set_option linter.unusedVariables false
open Go Go.RowKit Num
set_option maxRecDepth 10000
set_option linter.unusedSimpArgs false

def sLZ : List AV → SOut
  | [.int .u64 x] => ⟨0 ≤ x ∧ x < 18446744073709551616, .int .i64 (64 - bl x)⟩
  | _ => ⟨False, .und⟩
theorem c_LZ : Contract Tryz.prog 105 sLZ := by
  refine fun_ok [(104, sLen64)] ⟨c_Len64, trivial⟩ Tryz.func105 rfl (by kernel_rfl) Tryz.ntmps105 Tryz.results105 (fun E hE hty hfs xs hp => ?_)
  unfold sLZ at hp
  split at hp
  case h_2 => exact hp.elim
  rename_i x
  obtain ⟨x0, x1⟩ := hp
  have b0 := bl_nn x
  have b1 := bl_le (n := 64) x0 (by omega)
  refine ⟨by simp, fun Q hQ => ?_⟩
  simp only [params, Nat.reduceAdd]
  repeat' first
    | refine T_seq' ?_
    | refine T_block ?_
    | refine n_then ?_
    | refine x_then ?_
    | refine r_then ?_
    | refine n_block ?_
    | refine r_block ?_
    | refine x_block ?_
    | refine x_block' (by rfl) ?_
    | refine T_exit ?_
    | refine T_skip ?_
    | refine T_ret ?_
    | ((first | refine T_region hE (by rfl) (fun K hK => ?_) | refine T_draw hE (by rfl) (by kernel_rfl) (fun K hK => ?_)); simp (disch := omega) only [eqs, evs, stp, stepW, wantA, opStep, kindOf, headStep, skipStep, stStep, wrStep, cpStep, stA, appA, readSl, isSl, copyA, kill, AV.refs, hd, hdLoad, hdBin, intBin, hdUn, hdConv, hdIdxAddr, hdIdx, hdSlice, bnd, hdCall, hdCallF, hdLen, hdMin, argsA, mapA, partsOk, partsF, lk, look, addR, evA, constA, HOut.ok, hty, hfs, tyAll, List.map, List.all, List.getElem?_cons_zero, List.getElem?_cons_succ, Option.bind_some, Option.map_some, Option.map_none, Option.getD_some, AV.pureA, Nat.reduceEqDiff, ↓reduceIte, reduceCtorEq, Nat.reduceLT, Nat.reduceLeDiff, Nat.reduceAdd, Nat.reduceMul, Int.reduceToNat, IntKind.bits, BEq.rfl, beq_self_eq_true, bne_self_eq_false, Int.reduceBEq, Int.reduceBNe, Int.reduceEq, Int.reduceNe, ne_eq, Int.reduceLT, Int.reduceLE, sLen64]; (repeat refine And.intro (by first | omega | assumption | (and_intros <;> first | omega | assumption) | fail) ?_); refine hK _ ?_; clear hK K)
    | (refine T_cond rfl (fun hc => ?_) (fun hc => ?_) <;> (try simp only [cnds, reduceCtorEq] at hc) <;> (try (first | (exact hc.elim) | (exfalso; omega))))
  refine hQ _ ?_
  simp (disch := omega) only [resOk, res1, retOk, eqs, lk, look, AV.pureA, kill, AV.refs, hty, tyAll, Nat.reduceEqDiff, ↓reduceIte, reduceCtorEq, Nat.reduceLT, Nat.reduceLeDiff, Nat.reduceAdd, Nat.reduceMul, Int.reduceToNat, ne_eq, sLZ]

/-! ### One digit of the base 2^32 -/
theorem kn_le {Y a b u d q r : Int} (hY : Y = a * 4294967296 + b) (hY0 : 0 < Y) (hq : q * a + r = u) (hle : q * b ≤ 4294967296 * r + d) : q ≤ (u * 4294967296 + d) / Y :=
  (Int.le_ediv_iff_mul_le hY0).2 (by
    have : q * Y = u * 4294967296 - 4294967296 * r + q * b := by rw [hY, ← hq]; grind
    omega)
theorem kn_lt {Y u d : Int} (hu : 0 ≤ u) (huY : u < Y) (hd0 : 0 ≤ d) (hd : d < 4294967296) : 0 ≤ (u * 4294967296 + d) / Y ∧ (u * 4294967296 + d) / Y < 4294967296 :=
  ⟨Int.ediv_nonneg (by omega) (by omega), Int.ediv_lt_of_lt_mul (by omega) (by omega)⟩
theorem kn_gt {Y a b u d q r : Int} (hY : Y = a * 4294967296 + b) (hY0 : 0 < Y) (hq : q * a + r = u) (hgt : 4294967296 * r + d < q * b) : (u * 4294967296 + d) / Y < q :=
  Int.ediv_lt_of_lt_mul hY0 (by
    have : q * Y = u * 4294967296 - 4294967296 * r + q * b := by rw [hY, ← hq]; grind
    omega)
theorem kn_mul {q b B : Int} (hq : 0 ≤ q) (hq1 : q ≤ 4294967296) (hb : 0 ≤ b) (hb1 : b < 4294967296) : 0 ≤ q * b ∧ q * b ≤ 4294967296 * 4294967295 :=
  ⟨Int.mul_nonneg hq hb, Int.mul_le_mul hq1 (by omega) hb (by decide)⟩
theorem kn_first {Y a b u : Int} (hY : Y = a * 4294967296 + b) (ha : 2147483648 ≤ a) (hb1 : b < 4294967296) (hu0 : 0 ≤ u) (hu : u < Y) : 0 ≤ u / a ∧ u / a ≤ 4294967297 := by
  refine ⟨Int.ediv_nonneg hu0 (by omega), ?_⟩
  have : u / a < 4294967298 := Int.ediv_lt_of_lt_mul (by omega) (by omega)
  omega
/-- What is known at the head of a round. -/
def KnI (Y a u d : Int) (q r : Int) : Prop := q * a + r = u ∧ 0 ≤ r ∧ r < 4294967296 ∧ (u * 4294967296 + d) / Y ≤ q ∧ 0 ≤ q ∧ q ≤ 4294967297

theorem kn_start {Y a b u d : Int} (hY : Y = a * 4294967296 + b) (ha : 2147483648 ≤ a) (ha1 : a < 4294967296) (hb0 : 0 ≤ b) (hb1 : b < 4294967296) (hu0 : 0 ≤ u) (hu : u < Y) (hd0 : 0 ≤ d) (hd : d < 4294967296) : KnI Y a u d (u / a) (u - u / a * a) := by
  have h1 := Int.mul_ediv_add_emod u a
  have h2 := Int.emod_nonneg u (show a ≠ 0 by omega)
  have h3 := Int.emod_lt_of_pos u (show 0 < a by omega)
  have h4 := kn_first hY ha hb1 hu0 hu
  have h5 : u / a * a = a * (u / a) := Int.mul_comm _ _
  refine ⟨by omega, by omega, by omega, ?_, h4.1, h4.2⟩
  rcases Int.lt_or_le (u / a) ((u * 4294967296 + d) / Y) with k | k
  · exfalso
    have k1 : (u / a + 1) * Y ≤ u * 4294967296 + d := (Int.le_ediv_iff_mul_le (by omega)).1 (by omega)
    have e1 : (u / a + 1) * Y = (u / a * a + a) * 4294967296 + (u / a + 1) * b := by rw [hY]; grind
    have e2 : 0 ≤ (u / a + 1) * b := Int.mul_nonneg (by omega) hb0
    omega
  · exact k

/-! ### The arithmetic of the whole -/
theorem div64_arith {h l y s2 t2 : Int} (hs : 0 < s2) (ht : s2 * t2 = 18446744073709551616) (h0 : 0 ≤ h) (hy : h < y) (l0 : 0 ≤ l) (l1 : l < 18446744073709551616)
    {Y u e d1 d0 : Int} (hY : Y = y * s2) (hu : u = h * s2 + l / t2) (he : e = l * s2 % 18446744073709551616) (h1 : d1 = e / 4294967296) (h2 : d0 = e % 4294967296)
    {q1 r1 q0 r0 : Int} (hq1 : q1 = (u * 4294967296 + d1) / Y) (hr1 : r1 = (u * 4294967296 + d1) % Y) (hq0 : q0 = (r1 * 4294967296 + d0) / Y) (hr0 : r0 = (r1 * 4294967296 + d0) % Y) :
    (h * 18446744073709551616 + l) / y = q1 * 4294967296 + q0 ∧ (h * 18446744073709551616 + l) % y = r0 / s2 := by
  have y0 : 0 < y := by omega
  have Y0 : 0 < Y := by rw [hY]; exact Int.mul_pos y0 hs
  have t0 : 0 < t2 := by
    rcases Int.lt_or_le 0 t2 with k | k
    · exact k
    · have := Int.mul_nonneg (show 0 ≤ s2 by omega) (show 0 ≤ -t2 by omega)
      rw [Int.mul_neg] at this
      omega
  have a1 := Int.mul_ediv_add_emod (u * 4294967296 + d1) Y
  have a2 := Int.mul_ediv_add_emod (r1 * 4294967296 + d0) Y
  have a3 : l * s2 = l / t2 * 18446744073709551616 + e := by
    have b1 := Int.mul_ediv_add_emod l t2
    have b2 := Int.emod_nonneg l (show t2 ≠ 0 by omega)
    have b3 := Int.emod_lt_of_pos l t0
    have b4 : l * s2 = l / t2 * 18446744073709551616 + l % t2 * s2 := by rw [← ht]; generalize l / t2 = x at *; generalize l % t2 = z at *; rw [← b1]; grind
    have b5 : 0 ≤ l % t2 * s2 := Int.mul_nonneg b2 (by omega)
    have b6 : l % t2 * s2 < 18446744073709551616 := by rw [← ht, Int.mul_comm s2]; exact Int.mul_lt_mul_of_pos_right b3 hs
    rw [he, b4, Int.add_comm, Int.add_mul_emod_self_right, Int.emod_eq_of_lt b5 b6]
    omega
  have a4 : e = d1 * 4294967296 + d0 := by omega
  have r0b : 0 ≤ r0 ∧ r0 < Y := by rw [hr0]; exact ⟨Int.emod_nonneg _ (by omega), Int.emod_lt_of_pos _ Y0⟩
  rw [← hq1, ← hr1] at a1
  rw [← hq0, ← hr0] at a2
  have key : r0 = s2 * (h * 18446744073709551616 + l - (q1 * 4294967296 + q0) * y) := by
    have : (h * 18446744073709551616 + l) * s2 = u * 18446744073709551616 + e := by rw [hu]; grind
    rw [hY] at a1 a2
    grind
  have k0 : r0 / s2 = h * 18446744073709551616 + l - (q1 * 4294967296 + q0) * y := by rw [key, Int.mul_ediv_cancel_left _ (by omega)]
  have k1 : 0 ≤ r0 / s2 := Int.ediv_nonneg r0b.1 (by omega)
  have k2 : r0 / s2 < y := Int.ediv_lt_of_lt_mul hs (by rw [← hY]; exact r0b.2)
  exact (Int.ediv_emod_unique y0).2 ⟨by rw [k0]; grind, k1, k2⟩

theorem kn_rest {Y u d : Int} (hY0 : 0 < Y) (hY1 : Y < 18446744073709551616) :
    ((u * 4294967296 % 18446744073709551616 + d) % 18446744073709551616 - (u * 4294967296 + d) / Y * Y % 18446744073709551616) % 18446744073709551616 = (u * 4294967296 + d) % Y := by
  have a1 := Int.mul_ediv_add_emod (u * 4294967296 + d) Y
  have a2 := Int.emod_nonneg (u * 4294967296 + d) (show Y ≠ 0 by omega)
  have a3 := Int.emod_lt_of_pos (u * 4294967296 + d) hY0
  rw [Int.mul_comm Y] at a1
  generalize (u * 4294967296 + d) / Y * Y = z at *
  generalize (u * 4294967296 + d) % Y = r at *
  omega

end Go.Proofs.YtijoifajbmhgdaaGreat.Sym
