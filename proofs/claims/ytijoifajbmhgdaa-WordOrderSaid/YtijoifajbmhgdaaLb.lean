/- The laws of words: the rest. -/
import Derived.Test.YtijoifajbmhgdaaLa
namespace Go.Proofs.Ytijoifajbmhgdaa.Sym
set_option linter.unusedVariables false
open Go Go.RowKit Num
set_option maxRecDepth 10000
set_option linter.unusedSimpArgs false

theorem emod_mul (a b n : Int) : a % n * b % n = a * b % n := by rw [Int.mul_emod, Int.emod_emod, ← Int.mul_emod]
theorem mul_emod' (a b n : Int) : a * (b % n) % n = a * b % n := by rw [Int.mul_emod, Int.emod_emod, ← Int.mul_emod]
theorem eqA_refl (n : Nat) (f : Nat → Int) : eqA n f f = true := eqA_eq.2 fun _ _ => rfl
theorem dvdl {f : Nat → Int} (h : W f) : dv (dl (wv f)) = wv f := by rw [dv_dl, modM (wv_bd h).1 (wv_bd h).2]

theorem c_WordProducts : Contract Try.prog 3 sLaw2 := by
  refine fun_ok [(30, sROf), (27, sFixed1), (28, sMul), (29, sRMul), (31, sRWord)] ⟨c_ROf, c_fixed1, c_WMul, c_RMul, c_RWord, trivial⟩ Try.func3 rfl (by kernel_rfl) Try.ntmps3 Try.results3 (fun E hE hty hfs xs hp => ?_)
  unfold sLaw2 at hp
  split at hp
  case h_2 => exact hp.elim
  rename_i f g
  obtain ⟨hf, hg⟩ := hp
  have e1 : eqA 4 (wl (wv f * wv g)) (wl (dv (dl (wv f * wv g)))) = true := eqW (by simp only [dv_dl, Int.emod_emod])
  refine ⟨by simp, fun Q hQ => ?_⟩
  simp only [params, Nat.reduceAdd]
  have d1 := dvdl hf
  have d2 := dvdl hg
  repeat' first
    | refine T_seq' ?_
    | refine T_block ?_
    | refine n_then ?_
    | refine x_then ?_
    | refine r_then ?_
    | refine n_block ?_
    | refine r_block ?_
    | refine x_block ?_
    | refine x_block' (by rfl) ?_
    | refine T_exit ?_
    | refine T_skip ?_
    | refine T_ret ?_
    | ((first | refine T_region hE (by rfl) (fun K hK => ?_) | refine T_draw hE (by rfl) (by kernel_rfl) (fun K hK => ?_)); simp (disch := omega) only [eqs, evs, stp, stepW, wantA, opStep, kindOf, headStep, skipStep, stStep, wrStep, cpStep, stA, appA, readSl, isSl, copyA, kill, AV.refs, hd, hdLoad, hdBin, intBin, hdUn, hdConv, hdIdxAddr, hdIdx, hdSlice, bnd, hdCall, hdCallF, hdLen, hdMin, argsA, mapA, partsOk, partsF, lk, look, addR, evA, constA, HOut.ok, hty, hfs, tyAll, List.map, List.all, List.getElem?_cons_zero, List.getElem?_cons_succ, Option.bind_some, Option.map_some, Option.map_none, Option.getD_some, AV.pureA, Nat.reduceEqDiff, ↓reduceIte, reduceCtorEq, Nat.reduceLT, Nat.reduceLeDiff, Nat.reduceAdd, Nat.reduceMul, Int.reduceToNat, IntKind.bits, BEq.rfl, beq_self_eq_true, bne_self_eq_false, Int.reduceBEq, Int.reduceBNe, Int.reduceEq, Int.reduceNe, ne_eq, Int.reduceLT, Int.reduceLE, sFixed1, sROf, sMul, sRMul, sRWord, W_wl, D_dl, d1, d2, e1]; (repeat refine And.intro (by first | omega | assumption | (and_intros <;> first | omega | assumption) | fail) ?_); refine hK _ ?_; clear hK K)
    | (refine T_cond rfl (fun hc => ?_) (fun hc => ?_) <;> (try simp only [cnds, reduceCtorEq] at hc) <;> (try (first | (exact hc.elim) | (exfalso; omega))))
  refine hQ _ ?_
  simp (disch := omega) only [resOk, res1, retOk, eqs, lk, look, AV.pureA, kill, AV.refs, hty, tyAll, Nat.reduceEqDiff, ↓reduceIte, reduceCtorEq, Nat.reduceLT, Nat.reduceLeDiff, Nat.reduceAdd, Nat.reduceMul, Int.reduceToNat, ne_eq, sLaw2]

theorem c_WordRing : Contract Try.prog 7 sLaw3 := by
  refine fun_ok [(27, sFixed1), (28, sMul), (40, sWAdd)] ⟨c_fixed1, c_WMul, c_WAdd, trivial⟩ Try.func7 rfl (by kernel_rfl) Try.ntmps7 Try.results7 (fun E hE hty hfs xs hp => ?_)
  unfold sLaw3 at hp
  split at hp
  case h_2 => exact hp.elim
  rename_i f g h
  obtain ⟨hf, hg, hh⟩ := hp
  have e1 : eqA 4 (wl (wv f + wv g)) (wl (wv g + wv f)) = true := eqW (by rw [Int.add_comm])
  have e2 : eqA 4 (wl (wv f * wv g)) (wl (wv g * wv f)) = true := eqW (by rw [Int.mul_comm])
  have e3 : eqA 4 (wl (wv (wl (wv f + wv g)) + wv h)) (wl (wv f + wv (wl (wv g + wv h)))) = true := eqW (by rw [wv_wl, wv_wl, Int.emod_add_emod, Int.add_emod_emod, Int.add_assoc])
  have e4 : eqA 4 (wl (wv (wl (wv f * wv g)) * wv h)) (wl (wv f * wv (wl (wv g * wv h)))) = true := eqW (by rw [wv_wl, wv_wl, emod_mul, mul_emod', Int.mul_assoc])
  have e5 : eqA 4 (wl (wv f * wv (wl (wv g + wv h)))) (wl (wv (wl (wv f * wv g)) + wv (wl (wv f * wv h)))) = true := eqW (by rw [wv_wl, wv_wl, wv_wl, mul_emod', Int.emod_add_emod, Int.add_emod_emod, Int.mul_add])
  refine ⟨by simp, fun Q hQ => ?_⟩
  simp only [params, Nat.reduceAdd]
  repeat' first
    | refine T_seq' ?_
    | refine T_block ?_
    | refine n_then ?_
    | refine x_then ?_
    | refine r_then ?_
    | refine n_block ?_
    | refine r_block ?_
    | refine x_block ?_
    | refine x_block' (by rfl) ?_
    | refine T_exit ?_
    | refine T_skip ?_
    | refine T_ret ?_
    | ((first | refine T_region hE (by rfl) (fun K hK => ?_) | refine T_draw hE (by rfl) (by kernel_rfl) (fun K hK => ?_)); simp (disch := omega) only [eqs, evs, stp, stepW, wantA, opStep, kindOf, headStep, skipStep, stStep, wrStep, cpStep, stA, appA, readSl, isSl, copyA, kill, AV.refs, hd, hdLoad, hdBin, intBin, hdUn, hdConv, hdIdxAddr, hdIdx, hdSlice, bnd, hdCall, hdCallF, hdLen, hdMin, argsA, mapA, partsOk, partsF, lk, look, addR, evA, constA, HOut.ok, hty, hfs, tyAll, List.map, List.all, List.getElem?_cons_zero, List.getElem?_cons_succ, Option.bind_some, Option.map_some, Option.map_none, Option.getD_some, AV.pureA, Nat.reduceEqDiff, ↓reduceIte, reduceCtorEq, Nat.reduceLT, Nat.reduceLeDiff, Nat.reduceAdd, Nat.reduceMul, Int.reduceToNat, IntKind.bits, BEq.rfl, beq_self_eq_true, bne_self_eq_false, Int.reduceBEq, Int.reduceBNe, Int.reduceEq, Int.reduceNe, ne_eq, Int.reduceLT, Int.reduceLE, sFixed1, sMul, sWAdd, W_wl, e1, e2, e3, e4, e5]; (repeat refine And.intro (by first | omega | assumption | (and_intros <;> first | omega | assumption) | fail) ?_); refine hK _ ?_; clear hK K)
    | (refine T_cond rfl (fun hc => ?_) (fun hc => ?_) <;> (try simp only [cnds, reduceCtorEq] at hc) <;> (try (first | (exact hc.elim) | (exfalso; omega))))
  refine hQ _ ?_
  simp (disch := omega) only [resOk, res1, retOk, eqs, lk, look, AV.pureA, kill, AV.refs, hty, tyAll, Nat.reduceEqDiff, ↓reduceIte, reduceCtorEq, Nat.reduceLT, Nat.reduceLeDiff, Nat.reduceAdd, Nat.reduceMul, Int.reduceToNat, ne_eq, sLaw3]

theorem xor_ones {a : Int} (h0 : 0 ≤ a) (h1 : a < M) : lgc (· ^^^ ·) a (M - 1) = M - 1 - a := by
  unfold lgc
  have hx : a.toNat < 2 ^ 256 := by
    have : M = ((2 ^ 256 : Nat) : Int) := by decide
    omega
  have e : (M - 1).toNat = 2 ^ 256 - 1 := by decide
  have : a.toNat ^^^ (M - 1).toNat = 2 ^ 256 - (a.toNat + 1) := by
    rw [e]
    refine Nat.eq_of_testBit_eq fun i => ?_
    rw [Nat.testBit_xor, Nat.testBit_two_pow_sub_succ hx, Nat.testBit_two_pow_sub_one]
    by_cases hi : i < 256
    · simp [hi]
    · have : a.toNat.testBit i = false := Nat.testBit_lt_two_pow (Nat.lt_of_lt_of_le hx (Nat.pow_le_pow_right (by decide) (by omega)))
      simp [hi, this]
  show ((a.toNat ^^^ (M - 1).toNat : Nat) : Int) = M - 1 - a
  rw [this]
  have : M = ((2 ^ 256 : Nat) : Int) := by decide
  omega

def ones4 : Nat → Int := updF (updF (updF (updF (fun _ => 0) 0 18446744073709551615) 1 18446744073709551615) 2 18446744073709551615) 3 18446744073709551615
theorem ones4_eq : updF (updF (updF (updF (fun _ => (0 : Int)) 0 18446744073709551615) 1 18446744073709551615) 2 18446744073709551615) 3 18446744073709551615 = ones4 := rfl
theorem W_ones : W ones4 := W4 (by unfold U; decide) (by unfold U; decide) (by unfold U; decide) (by unfold U; decide)
theorem wv_ones : wv ones4 = M - 1 := by decide

theorem c_WordLogic : Contract Try.prog 5 sLaw2 := by
  refine fun_ok [(30, sROf), (27, sFixed1), (35, sAnd), (37, sOr), (38, sXor), (39, sNot), (36, sRLogic), (31, sRWord)] ⟨c_ROf, c_fixed1, c_And, c_Or, c_Xor, c_Not, c_RLogic, c_RWord, trivial⟩ Try.func5 rfl (by kernel_rfl) Try.ntmps5 Try.results5 (fun E hE hty hfs xs hp => ?_)
  unfold sLaw2 at hp
  split at hp
  case h_2 => exact hp.elim
  rename_i f g
  obtain ⟨hf, hg⟩ := hp
  have d1 := dvdl hf
  have d2 := dvdl hg
  have d3 : dv (dl (wv ones4)) = M - 1 := by rw [dvdl W_ones, wv_ones]
  have ho := W_ones
  have e1 : eqA 4 (wl (lgc (· &&& ·) (wv f) (wv g))) (wl (dv (dl (lgc (opN 0) (wv f) (wv g))))) = true := eqW (by rw [dv_dl, Int.emod_emod]; rfl)
  have e2 : eqA 4 (wl (lgc (· ||| ·) (wv f) (wv g))) (wl (dv (dl (lgc (opN 1) (wv f) (wv g))))) = true := eqW (by rw [dv_dl, Int.emod_emod]; rfl)
  have e3 : eqA 4 (wl (lgc (· ^^^ ·) (wv f) (wv g))) (wl (dv (dl (lgc (opN 2) (wv f) (wv g))))) = true := eqW (by rw [dv_dl, Int.emod_emod]; rfl)
  have e4 : eqA 4 (wl (-1 - wv f)) (wl (dv (dl (lgc (opN 2) (wv f) (M - 1))))) = true := eqW (by
    rw [dv_dl, Int.emod_emod, show opN 2 = (· ^^^ ·) from rfl, xor_ones (wv_bd hf).1 (wv_bd hf).2, show M - 1 - wv f = (-1 - wv f) + M from by omega, Int.add_emod_right])
  refine ⟨by simp, fun Q hQ => ?_⟩
  simp only [params, Nat.reduceAdd]
  repeat' first
    | refine T_seq' ?_
    | refine T_block ?_
    | refine n_then ?_
    | refine x_then ?_
    | refine r_then ?_
    | refine n_block ?_
    | refine r_block ?_
    | refine x_block ?_
    | refine x_block' (by rfl) ?_
    | refine T_exit ?_
    | refine T_skip ?_
    | refine T_ret ?_
    | ((first | refine T_region hE (by rfl) (fun K hK => ?_) | refine T_draw hE (by rfl) (by kernel_rfl) (fun K hK => ?_)); simp (disch := omega) only [eqs, evs, stp, stepW, wantA, opStep, kindOf, headStep, skipStep, stStep, wrStep, cpStep, stA, appA, readSl, isSl, copyA, kill, AV.refs, hd, hdLoad, hdBin, intBin, hdUn, hdConv, hdIdxAddr, hdIdx, hdSlice, bnd, hdCall, hdCallF, hdLen, hdMin, argsA, mapA, partsOk, partsF, lk, look, addR, evA, constA, HOut.ok, hty, hfs, tyAll, List.map, List.all, List.getElem?_cons_zero, List.getElem?_cons_succ, Option.bind_some, Option.map_some, Option.map_none, Option.getD_some, AV.pureA, Nat.reduceEqDiff, ↓reduceIte, reduceCtorEq, Nat.reduceLT, Nat.reduceLeDiff, Nat.reduceAdd, Nat.reduceMul, Int.reduceToNat, IntKind.bits, BEq.rfl, beq_self_eq_true, bne_self_eq_false, Int.reduceBEq, Int.reduceBNe, Int.reduceEq, Int.reduceNe, ne_eq, Int.reduceLT, Int.reduceLE, sFixed1, sROf, sAnd, sOr, sXor, sNot, sRLogic, sRWord, W_wl, D_dl, ones4_eq, d1, d2, d3, e1, e2, e3, e4]; (repeat refine And.intro (by first | omega | assumption | (and_intros <;> first | omega | assumption) | fail) ?_); refine hK _ ?_; clear hK K)
    | (refine T_cond rfl (fun hc => ?_) (fun hc => ?_) <;> (try simp only [cnds, reduceCtorEq] at hc) <;> (try (first | (exact hc.elim) | (exfalso; omega))))
  refine hQ _ ?_
  simp (disch := omega) only [resOk, res1, retOk, eqs, lk, look, AV.pureA, kill, AV.refs, hty, tyAll, Nat.reduceEqDiff, ↓reduceIte, reduceCtorEq, Nat.reduceLT, Nat.reduceLeDiff, Nat.reduceAdd, Nat.reduceMul, Int.reduceToNat, ne_eq, sLaw2]

end Go.Proofs.Ytijoifajbmhgdaa.Sym
