/- Single words: products of two limbs, lengths, parts, bits. -/
import Derived.Test.YtijoifajbmhgdaaGreatWa
import Derived.Laws.MathBits
namespace Go.Proofs.YtijoifajbmhgdaaGreat.Sym
set_option linter.unusedVariables false
open Go Go.RowKit Num
set_option maxRecDepth 10000
set_option linter.unusedSimpArgs false

theorem bitsA_and {x y : Int} (x0 : 0 ≤ x) (x1 : x < 18446744073709551616) (y0 : 0 ≤ y) (y1 : y < 18446744073709551616) : bitsA .and .u64 x y = ((x.toNat &&& y.toNat : Nat) : Int) := by
  unfold bitsA
  simp only [IntKind.bits, wrap_u64]
  rw [show (2 : Int) ^ 64 = 18446744073709551616 from by decide, Int.emod_eq_of_lt x0 x1, Int.emod_eq_of_lt y0 y1]
  have := Nat.and_le_left (n := x.toNat) (m := y.toNat)
  exact Int.emod_eq_of_lt (by omega) (by omega)
theorem bitsA_or {x y : Int} (x0 : 0 ≤ x) (x1 : x < 18446744073709551616) (y0 : 0 ≤ y) (y1 : y < 18446744073709551616) : bitsA .or .u64 x y = ((x.toNat ||| y.toNat : Nat) : Int) := by
  unfold bitsA
  simp only [IntKind.bits, wrap_u64]
  rw [show (2 : Int) ^ 64 = 18446744073709551616 from by decide, Int.emod_eq_of_lt x0 x1, Int.emod_eq_of_lt y0 y1]
  have := Nat.or_lt_two_pow (x := x.toNat) (y := y.toNat) (n := 64) (by omega) (by omega)
  exact Int.emod_eq_of_lt (by omega) (by omega)
theorem bitsA_xor {x y : Int} (x0 : 0 ≤ x) (x1 : x < 18446744073709551616) (y0 : 0 ≤ y) (y1 : y < 18446744073709551616) : bitsA .xor .u64 x y = ((x.toNat ^^^ y.toNat : Nat) : Int) := by
  unfold bitsA
  simp only [IntKind.bits, wrap_u64]
  rw [show (2 : Int) ^ 64 = 18446744073709551616 from by decide, Int.emod_eq_of_lt x0 x1, Int.emod_eq_of_lt y0 y1]
  have := Nat.xor_lt_two_pow (x := x.toNat) (y := y.toNat) (n := 64) (by omega) (by omega)
  exact Int.emod_eq_of_lt (by omega) (by omega)
theorem and_mask {x : Int} (n : Nat) (hn : n ≤ 64) (x0 : 0 ≤ x) (x1 : x < 18446744073709551616) : bitsA .and .u64 x (2 ^ n - 1) = x % 2 ^ n := by
  have hp : (2 : Int) ^ n ≤ 18446744073709551616 := by
    have := Nat.pow_le_pow_right (n := 2) (by decide) hn
    have h : (((2 : Nat) ^ n : Nat) : Int) ≤ ((2 ^ 64 : Nat) : Int) := Int.ofNat_le.2 this
    simpa using h
  have hq : (0 : Int) < 2 ^ n := Int.pow_pos (by decide)
  rw [bitsA_and x0 x1 (by omega) (by omega)]
  have e : ((2 : Int) ^ n - 1).toNat = 2 ^ n - 1 := by
    have : ((2 : Int) ^ n) = ((2 ^ n : Nat) : Int) := by simp
    rw [this]; omega
  rw [e, Nat.and_two_pow_sub_one_eq_mod]
  have : (x.toNat : Int) = x := Int.toNat_of_nonneg x0
  rw [Int.natCast_emod, this]; simp
theorem and_mask32 {x : Int} (x0 : 0 ≤ x) (x1 : x < 18446744073709551616) : bitsA .and .u64 x 4294967295 = x % 4294967296 := and_mask 32 (by decide) x0 x1
theorem and_mask1 {x : Int} (x0 : 0 ≤ x) (x1 : x < 18446744073709551616) : bitsA .and .u64 x 1 = x % 2 := and_mask 1 (by decide) x0 x1

/-! ### Products of two limbs -/
def U (x : Int) : Prop := 0 ≤ x ∧ x < 18446744073709551616
def sMul64 : List AV → SOut
  | [.int .u64 x, .int .u64 y] => ⟨(0 ≤ x ∧ x < 18446744073709551616) ∧ (0 ≤ y ∧ y < 18446744073709551616), .pair (.int .u64 (x * y / 18446744073709551616)) (.int .u64 (x * y % 18446744073709551616))⟩
  | _ => ⟨False, .und⟩

theorem c_Mul64 : Contract Tryz.prog 69 sMul64 := by
  refine fun_ok [] trivial Tryz.func69 rfl (by kernel_rfl) Tryz.ntmps69 Tryz.results69 (fun E hE hty hfs xs hp => ?_)
  unfold sMul64 at hp
  split at hp
  case h_2 => exact hp.elim
  rename_i x y
  obtain ⟨⟨x0, x1⟩, ⟨y0, y1⟩⟩ := hp
  refine ⟨by simp, fun Q hQ => ?_⟩
  simp only [params, Nat.reduceAdd]
  repeat' first
    | refine T_seq' ?_
    | refine T_block ?_
    | refine n_then ?_
    | refine x_then ?_
    | refine r_then ?_
    | refine n_block ?_
    | refine r_block ?_
    | refine x_block ?_
    | refine x_block' (by rfl) ?_
    | refine T_exit ?_
    | refine T_skip ?_
    | refine T_ret ?_
    | ((first | refine T_region hE (by rfl) (fun K hK => ?_) | refine T_draw hE (by rfl) (by kernel_rfl) (fun K hK => ?_)); simp (disch := omega) only [eqs, evs, stp, stepW, wantA, opStep, kindOf, headStep, skipStep, stStep, wrStep, cpStep, stA, appA, readSl, isSl, copyA, kill, AV.refs, hd, hdLoad, hdBin, intBin, hdUn, hdConv, hdIdxAddr, hdIdx, hdSlice, bnd, hdCall, hdCallF, hdLen, hdMin, argsA, mapA, partsOk, partsF, lk, look, addR, evA, constA, HOut.ok, hty, hfs, tyAll, List.map, List.all, List.getElem?_cons_zero, List.getElem?_cons_succ, Option.bind_some, Option.map_some, Option.map_none, Option.getD_some, AV.pureA, Nat.reduceEqDiff, ↓reduceIte, reduceCtorEq, Nat.reduceLT, Nat.reduceLeDiff, Nat.reduceAdd, Nat.reduceMul, Int.reduceToNat, IntKind.bits, BEq.rfl, beq_self_eq_true, bne_self_eq_false, Int.reduceBEq, Int.reduceBNe, Int.reduceEq, Int.reduceNe, ne_eq, Int.reduceLT, Int.reduceLE, and_mask32, wrap_u64, Int.reducePow]; (repeat refine And.intro (by first | omega | assumption | (and_intros <;> first | omega | assumption) | fail) ?_); refine hK _ ?_; clear hK K)
    | (refine T_cond rfl (fun hc => ?_) (fun hc => ?_) <;> (try simp only [cnds, reduceCtorEq] at hc) <;> (try (first | (exact hc.elim) | (exfalso; omega))))
  refine hQ _ ?_
  simp (disch := omega) only [resOk, res1, retOk, eqs, lk, look, AV.pureA, kill, AV.refs, hty, tyAll, Nat.reduceEqDiff, ↓reduceIte, reduceCtorEq, Nat.reduceLT, Nat.reduceLeDiff, Nat.reduceAdd, Nat.reduceMul, Int.reduceToNat, ne_eq, sMul64]
  have h := mul64_arith x y x0 x1 y0 y1
  exact h

/-! ### Lengths -/
def bl (a : Int) : Int := (bitLen a.toNat : Int)
theorem bl_shift {a : Int} (b : Nat) (h0 : 0 ≤ a) (h : 1 ≤ a / 2 ^ b) : bl a = b + bl (a / 2 ^ b) := by
  unfold bl
  obtain ⟨n, rfl⟩ := Int.eq_ofNat_of_zero_le h0
  have e : ((n : Int) / 2 ^ b).toNat = n / 2 ^ b := by
    have : (n : Int) / 2 ^ b = ((n / 2 ^ b : Nat) : Int) := by simp
    rw [this]; rfl
  rw [e, Int.toNat_natCast, bitLen_shift n b (by
    intro hz
    have : (n : Int) / 2 ^ b = ((n / 2 ^ b : Nat) : Int) := by simp
    omega)]
  simp
theorem bl_zero : bl 0 = 0 := rfl
theorem bl_le {a : Int} {n : Nat} (h0 : 0 ≤ a) (h : a < 2 ^ n) : bl a ≤ n := by
  unfold bl bitLen
  split
  · omega
  · rename_i hz
    obtain ⟨m, rfl⟩ := Int.eq_ofNat_of_zero_le h0
    have h' : ((m : Nat) : Int) < ((2 ^ n : Nat) : Int) := by simpa using h
    have := (Nat.log2_lt (n := m) (k := n) (by simpa using hz)).2 (Int.ofNat_lt.1 h')
    simp only [Int.toNat_natCast]
    omega
theorem bl_nn (a : Int) : 0 ≤ bl a := by unfold bl; omega
theorem bl_pos {a : Int} (h : 1 ≤ a) : 1 ≤ bl a := by
  unfold bl bitLen
  rw [if_neg (by omega)]
  omega

theorem strAt_of (s : ByteArray) (z : Int) (h : z.toNat < s.size) : strAt s z = (s[z.toNat].toNat : Int) := by
  unfold strAt
  rw [getElem?_pos s z.toNat h]; rfl
theorem tab8_eq : (⟨((([0, 1, 2, 2, 3, 3, 3, 3, 4, 4, 4, 4, 4, 4, 4, 4, 5, 5, 5, 5, 5, 5, 5, 5, 5, 5, 5, 5, 5, 5, 5, 5, 6, 6, 6, 6, 6, 6, 6, 6, 6, 6, 6, 6, 6, 6, 6, 6, 6, 6, 6, 6, 6, 6, 6, 6, 6, 6, 6, 6, 6, 6, 6, 6] : List UInt8).append [7, 7, 7, 7, 7, 7, 7, 7, 7, 7, 7, 7, 7, 7, 7, 7, 7, 7, 7, 7, 7, 7, 7, 7, 7, 7, 7, 7, 7, 7, 7, 7, 7, 7, 7, 7, 7, 7, 7, 7, 7, 7, 7, 7, 7, 7, 7, 7, 7, 7, 7, 7, 7, 7, 7, 7, 7, 7, 7, 7, 7, 7, 7, 7]).append (([8, 8, 8, 8, 8, 8, 8, 8, 8, 8, 8, 8, 8, 8, 8, 8, 8, 8, 8, 8, 8, 8, 8, 8, 8, 8, 8, 8, 8, 8, 8, 8, 8, 8, 8, 8, 8, 8, 8, 8, 8, 8, 8, 8, 8, 8, 8, 8, 8, 8, 8, 8, 8, 8, 8, 8, 8, 8, 8, 8, 8, 8, 8, 8] : List UInt8).append [8, 8, 8, 8, 8, 8, 8, 8, 8, 8, 8, 8, 8, 8, 8, 8, 8, 8, 8, 8, 8, 8, 8, 8, 8, 8, 8, 8, 8, 8, 8, 8, 8, 8, 8, 8, 8, 8, 8, 8, 8, 8, 8, 8, 8, 8, 8, 8, 8, 8, 8, 8, 8, 8, 8, 8, 8, 8, 8, 8, 8, 8, 8, 8])).toArray⟩ : ByteArray) = ⟨#[0, 1, 2, 2, 3, 3, 3, 3, 4, 4, 4, 4, 4, 4, 4, 4, 5, 5, 5, 5, 5, 5, 5, 5, 5, 5, 5, 5, 5, 5, 5, 5, 6, 6, 6, 6, 6, 6, 6, 6, 6, 6, 6, 6, 6, 6, 6, 6, 6, 6, 6, 6, 6, 6, 6, 6, 6, 6, 6, 6, 6, 6, 6, 6, 7, 7, 7, 7, 7, 7, 7, 7, 7, 7, 7, 7, 7, 7, 7, 7, 7, 7, 7, 7, 7, 7, 7, 7, 7, 7, 7, 7, 7, 7, 7, 7, 7, 7, 7, 7, 7, 7, 7, 7, 7, 7, 7, 7, 7, 7, 7, 7, 7, 7, 7, 7, 7, 7, 7, 7, 7, 7, 7, 7, 7, 7, 7, 7, 8, 8, 8, 8, 8, 8, 8, 8, 8, 8, 8, 8, 8, 8, 8, 8, 8, 8, 8, 8, 8, 8, 8, 8, 8, 8, 8, 8, 8, 8, 8, 8, 8, 8, 8, 8, 8, 8, 8, 8, 8, 8, 8, 8, 8, 8, 8, 8, 8, 8, 8, 8, 8, 8, 8, 8, 8, 8, 8, 8, 8, 8, 8, 8, 8, 8, 8, 8, 8, 8, 8, 8, 8, 8, 8, 8, 8, 8, 8, 8, 8, 8, 8, 8, 8, 8, 8, 8, 8, 8, 8, 8, 8, 8, 8, 8, 8, 8, 8, 8, 8, 8, 8, 8, 8, 8, 8, 8, 8, 8, 8, 8, 8, 8, 8, 8, 8, 8, 8, 8, 8, 8, 8, 8, 8, 8, 8, 8]⟩ := rfl
theorem tab8_size : (⟨((([0, 1, 2, 2, 3, 3, 3, 3, 4, 4, 4, 4, 4, 4, 4, 4, 5, 5, 5, 5, 5, 5, 5, 5, 5, 5, 5, 5, 5, 5, 5, 5, 6, 6, 6, 6, 6, 6, 6, 6, 6, 6, 6, 6, 6, 6, 6, 6, 6, 6, 6, 6, 6, 6, 6, 6, 6, 6, 6, 6, 6, 6, 6, 6] : List UInt8).append [7, 7, 7, 7, 7, 7, 7, 7, 7, 7, 7, 7, 7, 7, 7, 7, 7, 7, 7, 7, 7, 7, 7, 7, 7, 7, 7, 7, 7, 7, 7, 7, 7, 7, 7, 7, 7, 7, 7, 7, 7, 7, 7, 7, 7, 7, 7, 7, 7, 7, 7, 7, 7, 7, 7, 7, 7, 7, 7, 7, 7, 7, 7, 7]).append (([8, 8, 8, 8, 8, 8, 8, 8, 8, 8, 8, 8, 8, 8, 8, 8, 8, 8, 8, 8, 8, 8, 8, 8, 8, 8, 8, 8, 8, 8, 8, 8, 8, 8, 8, 8, 8, 8, 8, 8, 8, 8, 8, 8, 8, 8, 8, 8, 8, 8, 8, 8, 8, 8, 8, 8, 8, 8, 8, 8, 8, 8, 8, 8] : List UInt8).append [8, 8, 8, 8, 8, 8, 8, 8, 8, 8, 8, 8, 8, 8, 8, 8, 8, 8, 8, 8, 8, 8, 8, 8, 8, 8, 8, 8, 8, 8, 8, 8, 8, 8, 8, 8, 8, 8, 8, 8, 8, 8, 8, 8, 8, 8, 8, 8, 8, 8, 8, 8, 8, 8, 8, 8, 8, 8, 8, 8, 8, 8, 8, 8])).toArray⟩ : ByteArray).size = 256 := rfl
theorem tab8_at {z : Int} (h0 : 0 ≤ z) (h1 : z < 256) : strAt (⟨((([0, 1, 2, 2, 3, 3, 3, 3, 4, 4, 4, 4, 4, 4, 4, 4, 5, 5, 5, 5, 5, 5, 5, 5, 5, 5, 5, 5, 5, 5, 5, 5, 6, 6, 6, 6, 6, 6, 6, 6, 6, 6, 6, 6, 6, 6, 6, 6, 6, 6, 6, 6, 6, 6, 6, 6, 6, 6, 6, 6, 6, 6, 6, 6] : List UInt8).append [7, 7, 7, 7, 7, 7, 7, 7, 7, 7, 7, 7, 7, 7, 7, 7, 7, 7, 7, 7, 7, 7, 7, 7, 7, 7, 7, 7, 7, 7, 7, 7, 7, 7, 7, 7, 7, 7, 7, 7, 7, 7, 7, 7, 7, 7, 7, 7, 7, 7, 7, 7, 7, 7, 7, 7, 7, 7, 7, 7, 7, 7, 7, 7]).append (([8, 8, 8, 8, 8, 8, 8, 8, 8, 8, 8, 8, 8, 8, 8, 8, 8, 8, 8, 8, 8, 8, 8, 8, 8, 8, 8, 8, 8, 8, 8, 8, 8, 8, 8, 8, 8, 8, 8, 8, 8, 8, 8, 8, 8, 8, 8, 8, 8, 8, 8, 8, 8, 8, 8, 8, 8, 8, 8, 8, 8, 8, 8, 8] : List UInt8).append [8, 8, 8, 8, 8, 8, 8, 8, 8, 8, 8, 8, 8, 8, 8, 8, 8, 8, 8, 8, 8, 8, 8, 8, 8, 8, 8, 8, 8, 8, 8, 8, 8, 8, 8, 8, 8, 8, 8, 8, 8, 8, 8, 8, 8, 8, 8, 8, 8, 8, 8, 8, 8, 8, 8, 8, 8, 8, 8, 8, 8, 8, 8, 8])).toArray⟩ : ByteArray) z = bl z := by
  rw [tab8_eq, strAt_of _ _ (show z.toNat < 256 by omega)]
  unfold bl
  rw [← len8tab_get z.toNat (show z.toNat < 256 by omega)]

theorem bl_hi {z : Int} (h0 : 0 ≤ z) (h1 : z < 256) : 0 ≤ bl z ∧ bl z ≤ 8 := ⟨bl_nn z, bl_le (n := 8) h0 (by simpa using h1)⟩
theorem wrap2 {c z : Int} (h0 : 0 ≤ z) (h1 : z < 256) (c0 : 0 ≤ c) (c1 : c ≤ 100) : IntKind.i64.wrap (c + IntKind.i64.wrap (bl z)) = c + bl z := by
  have := bl_hi h0 h1
  rw [wrap_i64' (z := bl z) (by omega) (by omega), wrap_i64' (by omega) (by omega)]
theorem blA {x : Int} (h : 4294967296 ≤ x) : bl x = 32 + bl (x / 4294967296) := bl_shift 32 (by omega) (by omega)
theorem blB {x : Int} (h : 65536 ≤ x) : bl x = 16 + bl (x / 65536) := bl_shift 16 (by omega) (by omega)
theorem blC {x : Int} (h : 256 ≤ x) : bl x = 8 + bl (x / 256) := bl_shift 8 (by omega) (by omega)

def sLen64 : List AV → SOut
  | [.int .u64 x] => ⟨0 ≤ x ∧ x < 18446744073709551616, .int .i64 (bl x)⟩
  | _ => ⟨False, .und⟩

theorem c_Len64 : Contract Tryz.prog 104 sLen64 := by
  refine fun_ok [] trivial Tryz.func104 rfl (by kernel_rfl) Tryz.ntmps104 Tryz.results104 (fun E hE hty hfs xs hp => ?_)
  unfold sLen64 at hp
  split at hp
  case h_2 => exact hp.elim
  rename_i x
  obtain ⟨x0, x1⟩ := hp
  refine ⟨by simp, fun Q hQ => ?_⟩
  simp only [params, Nat.reduceAdd]
  repeat' first
    | refine T_seq' ?_
    | refine T_block ?_
    | refine n_then ?_
    | refine x_then ?_
    | refine r_then ?_
    | refine n_block ?_
    | refine r_block ?_
    | refine x_block ?_
    | refine x_block' (by rfl) ?_
    | refine T_exit ?_
    | refine T_skip ?_
    | refine T_ret ?_
    | ((first | refine T_region hE (by rfl) (fun K hK => ?_) | refine T_draw hE (by rfl) (by kernel_rfl) (fun K hK => ?_)); simp (disch := omega) only [eqs, evs, stp, stepW, wantA, opStep, kindOf, headStep, skipStep, stStep, wrStep, cpStep, stA, appA, readSl, isSl, copyA, kill, AV.refs, hd, hdLoad, hdBin, intBin, hdUn, hdConv, hdIdxAddr, hdIdx, hdSlice, bnd, hdCall, hdCallF, hdLen, hdMin, argsA, mapA, partsOk, partsF, lk, look, addR, evA, constA, HOut.ok, hty, hfs, tyAll, List.map, List.all, List.getElem?_cons_zero, List.getElem?_cons_succ, Option.bind_some, Option.map_some, Option.map_none, Option.getD_some, AV.pureA, Nat.reduceEqDiff, ↓reduceIte, reduceCtorEq, Nat.reduceLT, Nat.reduceLeDiff, Nat.reduceAdd, Nat.reduceMul, Int.reduceToNat, IntKind.bits, BEq.rfl, beq_self_eq_true, bne_self_eq_false, Int.reduceBEq, Int.reduceBNe, Int.reduceEq, Int.reduceNe, ne_eq, Int.reduceLT, Int.reduceLE, Int.reducePow, tab8_size, tab8_at]; (repeat refine And.intro (by first | omega | assumption | (and_intros <;> first | omega | assumption) | fail) ?_); refine hK _ ?_; clear hK K)
    | (refine T_cond rfl (fun hc => ?_) (fun hc => ?_) <;> (try simp only [cnds, reduceCtorEq] at hc) <;> (try (first | (exact hc.elim) | (exfalso; omega))))
  all_goals
    (refine hQ _ ?_
     simp only [resOk, res1, retOk, sLen64, eqs, evs, stp, stepW, wantA, opStep, kindOf, headStep, skipStep, stStep, wrStep, cpStep, stA, appA, readSl, isSl, copyA, kill, AV.refs, hd, hdLoad, hdBin, intBin, hdUn, hdConv, hdIdxAddr, hdIdx, hdSlice, bnd, hdCall, hdCallF, hdLen, hdMin, argsA, mapA, partsOk, partsF, lk, look, addR, evA, constA, HOut.ok, hty, hfs, tyAll, List.map, List.all, List.getElem?_cons_zero, List.getElem?_cons_succ, Option.bind_some, Option.map_some, Option.map_none, Option.getD_some, AV.pureA, Nat.reduceEqDiff, ↓reduceIte, reduceCtorEq, Nat.reduceLT, Nat.reduceLeDiff, Nat.reduceAdd, Nat.reduceMul, Int.reduceToNat, IntKind.bits, BEq.rfl, beq_self_eq_true, bne_self_eq_false, Int.reduceBEq, Int.reduceBNe, Int.reduceEq, Int.reduceNe, ne_eq, Int.reduceLT, Int.reduceLE]
     simp (disch := omega) only [wrap2, blA, blB, blC]
     try omega)

end Go.Proofs.YtijoifajbmhgdaaGreat.Sym
