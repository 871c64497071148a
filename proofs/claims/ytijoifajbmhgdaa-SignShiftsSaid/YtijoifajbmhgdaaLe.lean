/- The laws of words with signs: quotients, order. -/
import Derived.Test.YtijoifajbmhgdaaSd
namespace Go.Proofs.Ytijoifajbmhgdaa.Sym
set_option linter.unusedVariables false
open Go Go.RowKit Num
set_option maxRecDepth 10000
set_option linter.unusedSimpArgs false

def sMinus : List AV → SOut
  | [.int .u64 n] => ⟨0 < n ∧ n < 18446744073709551616, .arr .u64 4 (wl (-n))⟩
  | _ => ⟨False, .und⟩
theorem c_minus : Contract Try.prog 111 sMinus := by
  refine fun_ok [] trivial Try.func111 rfl (by kernel_rfl) Try.ntmps111 Try.results111 (fun E hE hty hfs xs hp => ?_)
  unfold sMinus at hp
  split at hp
  case h_2 => exact hp.elim
  rename_i n
  obtain ⟨n0, n1⟩ := hp
  have e : IntKind.u64.wrap (0 - n) = 18446744073709551616 - n := by rw [wrap_u64]; omega
  refine ⟨by simp, fun Q hQ => ?_⟩
  simp only [params, Nat.reduceAdd]
  repeat' first
    | refine T_seq' ?_
    | refine T_block ?_
    | refine n_then ?_
    | refine x_then ?_
    | refine r_then ?_
    | refine n_block ?_
    | refine r_block ?_
    | refine x_block ?_
    | refine x_block' (by rfl) ?_
    | refine T_exit ?_
    | refine T_skip ?_
    | refine T_ret ?_
    | ((first | refine T_region hE (by rfl) (fun K hK => ?_) | refine T_draw hE (by rfl) (by kernel_rfl) (fun K hK => ?_)); simp (disch := omega) only [eqs, evs, stp, stepW, wantA, opStep, kindOf, headStep, skipStep, stStep, wrStep, cpStep, stA, appA, readSl, isSl, copyA, kill, AV.refs, hd, hdLoad, hdBin, intBin, hdUn, hdConv, hdIdxAddr, hdIdx, hdSlice, bnd, hdCall, hdCallF, hdLen, hdMin, argsA, mapA, partsOk, partsF, lk, look, addR, evA, constA, HOut.ok, hty, hfs, tyAll, List.map, List.all, List.getElem?_cons_zero, List.getElem?_cons_succ, Option.bind_some, Option.map_some, Option.map_none, Option.getD_some, AV.pureA, Nat.reduceEqDiff, ↓reduceIte, reduceCtorEq, Nat.reduceLT, Nat.reduceLeDiff, Nat.reduceAdd, Nat.reduceMul, Int.reduceToNat, IntKind.bits, BEq.rfl, beq_self_eq_true, bne_self_eq_false, Int.reduceBEq, Int.reduceBNe, Int.reduceEq, Int.reduceNe, ne_eq, Int.reduceLT, Int.reduceLE, e]; (repeat refine And.intro (by first | omega | assumption | (and_intros <;> first | omega | assumption) | fail) ?_); refine hK _ ?_; clear hK K)
    | (refine T_cond rfl (fun hc => ?_) (fun hc => ?_) <;> (try simp only [cnds, reduceCtorEq] at hc) <;> (try (first | (exact hc.elim) | (exfalso; omega))))
  refine hQ _ ?_
  simp (disch := omega) only [resOk, res1, retOk, eqs, lk, look, AV.pureA, kill, AV.refs, hty, tyAll, Nat.reduceEqDiff, ↓reduceIte, reduceCtorEq, Nat.reduceLT, Nat.reduceLeDiff, Nat.reduceAdd, Nat.reduceMul, Int.reduceToNat, ne_eq, sMinus]
  refine wl_of (W4 ⟨by simp [updF]; omega, by simp [updF]; omega⟩ ⟨by simp [updF], by simp [updF]⟩ ⟨by simp [updF], by simp [updF]⟩ ⟨by simp [updF], by simp [updF]⟩) ?_
  rw [wv_of]
  show 18446744073709551616 - n + 18446744073709551615 * 18446744073709551616 + 18446744073709551615 * 340282366920938463463374607431768211456 + 18446744073709551615 * 6277101735386680763835789423207666416102355444464034512896 = -n % M
  unfold M
  omega

theorem c_fixed3 : Contract Try.prog 72 sFixed1 := by
  refine fun_ok [(111, sMinus), (70, sSDiv), (78, sSLess), (80, sExt), (82, sSar)] ⟨c_minus, c_SDiv, c_SLess, c_Ext, c_Sar, trivial⟩ Try.func72 rfl (by kernel_rfl) Try.ntmps72 Try.results72 (fun E hE hty hfs xs hp => ?_)
  unfold sFixed1 at hp
  split at hp
  case h_2 => exact hp.elim
  have h0 := W0
  have w2 := one_wl (x := 2) (by decide) (by decide)
  have w255 := one_wl (x := 255) (by decide) (by decide)
  have v2 := wv_small (x := 2) (by decide) (by decide)
  have v255 := wv_small (x := 255) (by decide) (by decide)
  have m1 : wv (wl (-1)) = M - 1 := by rw [wv_wl]; decide
  have m7 : wv (wl (-7)) = M - 7 := by rw [wv_wl]; decide
  have m8 : wv (wl (-8)) = M - 8 := by rw [wv_wl]; decide
  have e1 : eqA 4 (wl (sdQ (M - 7) 2)) (wl (-3)) = true := eqW (by decide)
  have e2 : eqA 4 (wl (sdR (M - 7) 2)) (wl (-1)) = true := eqW (by decide)
  have e3 : sv (M - 1) < sv 0 := by decide
  have e4 : eqA 4 (wl (extV 0 255)) (wl (-1)) = true := eqW (by decide)
  have e5 : eqA 4 (wl (sarV (M - 8) 1)) (wl (-4)) = true := eqW (by decide)
  have e6 : eqA 4 (wl (sarV (M - 1) 300)) (wl (-1)) = true := by rw [sar_all (by decide) (by decide) (by decide) (by decide)]; exact eqA_refl _ _
  refine ⟨by simp, fun Q hQ => ?_⟩
  simp only [params, Nat.reduceAdd]
  repeat' first
    | refine T_seq' ?_
    | refine T_block ?_
    | refine n_then ?_
    | refine x_then ?_
    | refine r_then ?_
    | refine n_block ?_
    | refine r_block ?_
    | refine x_block ?_
    | refine x_block' (by rfl) ?_
    | refine T_exit ?_
    | refine T_skip ?_
    | refine T_ret ?_
    | ((first | refine T_region hE (by rfl) (fun K hK => ?_) | refine T_draw hE (by rfl) (by kernel_rfl) (fun K hK => ?_)); simp (disch := omega) only [eqs, evs, stp, stepW, wantA, opStep, kindOf, headStep, skipStep, stStep, wrStep, cpStep, stA, appA, readSl, isSl, copyA, kill, AV.refs, hd, hdLoad, hdBin, intBin, hdUn, hdConv, hdIdxAddr, hdIdx, hdSlice, bnd, hdCall, hdCallF, hdLen, hdMin, argsA, mapA, partsOk, partsF, lk, look, addR, evA, constA, HOut.ok, hty, hfs, tyAll, List.map, List.all, List.getElem?_cons_zero, List.getElem?_cons_succ, Option.bind_some, Option.map_some, Option.map_none, Option.getD_some, AV.pureA, Nat.reduceEqDiff, ↓reduceIte, reduceCtorEq, Nat.reduceLT, Nat.reduceLeDiff, Nat.reduceAdd, Nat.reduceMul, Int.reduceToNat, IntKind.bits, BEq.rfl, beq_self_eq_true, bne_self_eq_false, Int.reduceBEq, Int.reduceBNe, Int.reduceEq, Int.reduceNe, ne_eq, Int.reduceLT, Int.reduceLE, sMinus, sSDiv, sSLess, sExt, sSar, w2, w255, v2, v255, m1, m7, m8, W_wl, wv0, e1, e2, e3, e4, e5, e6]; (repeat refine And.intro (by first | omega | assumption | (and_intros <;> first | omega | assumption) | fail) ?_); refine hK _ ?_; clear hK K)
    | (refine T_cond rfl (fun hc => ?_) (fun hc => ?_) <;> (try simp only [cnds, reduceCtorEq] at hc) <;> (try (first | (exact hc.elim) | (exfalso; omega))))
  refine hQ _ ?_
  simp (disch := omega) only [resOk, res1, retOk, eqs, lk, look, AV.pureA, kill, AV.refs, hty, tyAll, Nat.reduceEqDiff, ↓reduceIte, reduceCtorEq, Nat.reduceLT, Nat.reduceLeDiff, Nat.reduceAdd, Nat.reduceMul, Int.reduceToNat, ne_eq, sFixed1]

theorem c_SignDivides : Contract Try.prog 15 sLaw2 := by
  refine fun_ok [(72, sFixed1), (70, sSDiv), (71, sSDiv), (73, sBelow), (74, sBelow), (75, sNeg), (30, sROf), (76, sRNeg), (31, sRWord)] ⟨c_fixed3, c_SDiv, c_RSDiv, c_Below, c_RBelow, c_SNeg, c_ROf, c_RNeg, c_RWord, trivial⟩ Try.func15 rfl (by kernel_rfl) Try.ntmps15 Try.results15 (fun E hE hty hfs xs hp => ?_)
  unfold sLaw2 at hp
  split at hp
  case h_2 => exact hp.elim
  rename_i f g
  obtain ⟨hf, hg⟩ := hp
  refine ⟨by simp, fun Q hQ => ?_⟩
  simp only [params, Nat.reduceAdd]
  repeat' first
    | refine T_seq' ?_
    | refine T_block ?_
    | refine n_then ?_
    | refine x_then ?_
    | refine r_then ?_
    | refine n_block ?_
    | refine r_block ?_
    | refine x_block ?_
    | refine x_block' (by rfl) ?_
    | refine T_exit ?_
    | refine T_skip ?_
    | refine T_ret ?_
    | ((first | refine T_region hE (by rfl) (fun K hK => ?_) | refine T_draw hE (by rfl) (by kernel_rfl) (fun K hK => ?_)); simp (disch := omega) only [eqs, evs, stp, stepW, wantA, opStep, kindOf, headStep, skipStep, stStep, wrStep, cpStep, stA, appA, readSl, isSl, copyA, kill, AV.refs, hd, hdLoad, hdBin, intBin, hdUn, hdConv, hdIdxAddr, hdIdx, hdSlice, bnd, hdCall, hdCallF, hdLen, hdMin, argsA, mapA, partsOk, partsF, lk, look, addR, evA, constA, HOut.ok, hty, hfs, tyAll, List.map, List.all, List.getElem?_cons_zero, List.getElem?_cons_succ, Option.bind_some, Option.map_some, Option.map_none, Option.getD_some, AV.pureA, Nat.reduceEqDiff, ↓reduceIte, reduceCtorEq, Nat.reduceLT, Nat.reduceLeDiff, Nat.reduceAdd, Nat.reduceMul, Int.reduceToNat, IntKind.bits, BEq.rfl, beq_self_eq_true, bne_self_eq_false, Int.reduceBEq, Int.reduceBNe, Int.reduceEq, Int.reduceNe, ne_eq, Int.reduceLT, Int.reduceLE, sFixed1, sSDiv, sBelow, sNeg, sROf, sRNeg, sRWord, D_dl, neg_back, eqA_refl]; (repeat refine And.intro (by first | omega | assumption | (and_intros <;> first | omega | assumption) | fail) ?_); refine hK _ ?_; clear hK K)
    | (refine T_cond rfl (fun hc => ?_) (fun hc => ?_) <;> (try simp only [cnds, reduceCtorEq] at hc) <;> (try (first | (exact hc.elim) | (exfalso; omega))))
  refine hQ _ ?_
  simp (disch := omega) only [resOk, res1, retOk, eqs, lk, look, AV.pureA, kill, AV.refs, hty, tyAll, Nat.reduceEqDiff, ↓reduceIte, reduceCtorEq, Nat.reduceLT, Nat.reduceLeDiff, Nat.reduceAdd, Nat.reduceMul, Int.reduceToNat, ne_eq, sLaw2]

theorem eqA_val {f g : Nat → Int} (hf : W f) (hg : W g) : eqA 4 f g = decide (wv f = wv g) := by
  by_cases h : wv f = wv g
  · rw [decide_eq_true h]
    exact eqA_eq.2 (wsum_inj B64_pos hf hg h)
  · rw [decide_eq_false h]
    rcases Bool.eq_false_or_eq_true (eqA 4 f g) with k | k
    · exact absurd (wv_congr (eqA_eq.1 k)) h
    · exact k
theorem sv_inj {a b : Int} (a0 : 0 ≤ a) (a1 : a < M) (b0 : 0 ≤ b) (b1 : b < M) (h : sv a = sv b) : a = b := by
  unfold sv at h
  split at h <;> split at h <;> omega

theorem c_SignLess : Contract Try.prog 17 sLaw2 := by
  refine fun_ok [(72, sFixed1), (78, sSLess), (79, sSLess)] ⟨c_fixed3, c_SLess, c_RSLess, trivial⟩ Try.func17 rfl (by kernel_rfl) Try.ntmps17 Try.results17 (fun E hE hty hfs xs hp => ?_)
  unfold sLaw2 at hp
  split at hp
  case h_2 => exact hp.elim
  rename_i f g
  obtain ⟨hf, hg⟩ := hp
  have fb := wv_bd hf
  have gb := wv_bd hg
  have hEq := eqA_val hf hg
  refine ⟨by simp, fun Q hQ => ?_⟩
  simp only [params, Nat.reduceAdd]
  by_cases h1 : sv (wv f) < sv (wv g)
  · have h2 : ¬ sv (wv g) < sv (wv f) := by omega
    have h3 : ¬ wv f = wv g := fun h => by rw [h] at h1; omega
    repeat' first
      | refine T_seq' ?_
      | refine T_block ?_
      | refine n_then ?_
      | refine x_then ?_
      | refine r_then ?_
      | refine n_block ?_
      | refine r_block ?_
      | refine x_block ?_
      | refine x_block' (by rfl) ?_
      | refine T_exit ?_
      | refine T_skip ?_
      | refine T_ret ?_
      | ((first | refine T_region hE (by rfl) (fun K hK => ?_) | refine T_draw hE (by rfl) (by kernel_rfl) (fun K hK => ?_)); simp (disch := omega) only [eqs, evs, stp, stepW, wantA, opStep, kindOf, headStep, skipStep, stStep, wrStep, cpStep, stA, appA, readSl, isSl, copyA, kill, AV.refs, hd, hdLoad, hdBin, intBin, hdUn, hdConv, hdIdxAddr, hdIdx, hdSlice, bnd, hdCall, hdCallF, hdLen, hdMin, argsA, mapA, partsOk, partsF, lk, look, addR, evA, constA, HOut.ok, hty, hfs, tyAll, List.map, List.all, List.getElem?_cons_zero, List.getElem?_cons_succ, Option.bind_some, Option.map_some, Option.map_none, Option.getD_some, AV.pureA, Nat.reduceEqDiff, ↓reduceIte, reduceCtorEq, Nat.reduceLT, Nat.reduceLeDiff, Nat.reduceAdd, Nat.reduceMul, Int.reduceToNat, IntKind.bits, BEq.rfl, beq_self_eq_true, bne_self_eq_false, Int.reduceBEq, Int.reduceBNe, Int.reduceEq, Int.reduceNe, ne_eq, Int.reduceLT, Int.reduceLE, sFixed1, sSLess, h1, h2, hEq, h3]; (repeat refine And.intro (by first | omega | assumption | (and_intros <;> first | omega | assumption) | fail) ?_); refine hK _ ?_; clear hK K)
      | (refine T_cond rfl (fun hc => ?_) (fun hc => ?_) <;> (try simp only [cnds, reduceCtorEq] at hc) <;> (try (first | (exact hc.elim) | (exfalso; omega))))
    refine hQ _ ?_
    simp (disch := omega) only [resOk, res1, retOk, eqs, lk, look, AV.pureA, kill, AV.refs, hty, tyAll, Nat.reduceEqDiff, ↓reduceIte, reduceCtorEq, Nat.reduceLT, Nat.reduceLeDiff, Nat.reduceAdd, Nat.reduceMul, Int.reduceToNat, ne_eq, sLaw2]
  · by_cases h2 : sv (wv g) < sv (wv f)
    · have h3 : ¬ wv f = wv g := fun h => by rw [h] at h2; omega
      repeat' first
        | refine T_seq' ?_
        | refine T_block ?_
        | refine n_then ?_
        | refine x_then ?_
        | refine r_then ?_
        | refine n_block ?_
        | refine r_block ?_
        | refine x_block ?_
        | refine x_block' (by rfl) ?_
        | refine T_exit ?_
        | refine T_skip ?_
        | refine T_ret ?_
        | ((first | refine T_region hE (by rfl) (fun K hK => ?_) | refine T_draw hE (by rfl) (by kernel_rfl) (fun K hK => ?_)); simp (disch := omega) only [eqs, evs, stp, stepW, wantA, opStep, kindOf, headStep, skipStep, stStep, wrStep, cpStep, stA, appA, readSl, isSl, copyA, kill, AV.refs, hd, hdLoad, hdBin, intBin, hdUn, hdConv, hdIdxAddr, hdIdx, hdSlice, bnd, hdCall, hdCallF, hdLen, hdMin, argsA, mapA, partsOk, partsF, lk, look, addR, evA, constA, HOut.ok, hty, hfs, tyAll, List.map, List.all, List.getElem?_cons_zero, List.getElem?_cons_succ, Option.bind_some, Option.map_some, Option.map_none, Option.getD_some, AV.pureA, Nat.reduceEqDiff, ↓reduceIte, reduceCtorEq, Nat.reduceLT, Nat.reduceLeDiff, Nat.reduceAdd, Nat.reduceMul, Int.reduceToNat, IntKind.bits, BEq.rfl, beq_self_eq_true, bne_self_eq_false, Int.reduceBEq, Int.reduceBNe, Int.reduceEq, Int.reduceNe, ne_eq, Int.reduceLT, Int.reduceLE, sFixed1, sSLess, h1, h2, hEq, h3]; (repeat refine And.intro (by first | omega | assumption | (and_intros <;> first | omega | assumption) | fail) ?_); refine hK _ ?_; clear hK K)
        | (refine T_cond rfl (fun hc => ?_) (fun hc => ?_) <;> (try simp only [cnds, reduceCtorEq] at hc) <;> (try (first | (exact hc.elim) | (exfalso; omega))))
      refine hQ _ ?_
      simp (disch := omega) only [resOk, res1, retOk, eqs, lk, look, AV.pureA, kill, AV.refs, hty, tyAll, Nat.reduceEqDiff, ↓reduceIte, reduceCtorEq, Nat.reduceLT, Nat.reduceLeDiff, Nat.reduceAdd, Nat.reduceMul, Int.reduceToNat, ne_eq, sLaw2]
    · have h3 : wv f = wv g := sv_inj fb.1 fb.2 gb.1 gb.2 (by omega)
      have h4 : ¬ sv (wv g) < sv (wv g) := by omega
      repeat' first
        | refine T_seq' ?_
        | refine T_block ?_
        | refine n_then ?_
        | refine x_then ?_
        | refine r_then ?_
        | refine n_block ?_
        | refine r_block ?_
        | refine x_block ?_
        | refine x_block' (by rfl) ?_
        | refine T_exit ?_
        | refine T_skip ?_
        | refine T_ret ?_
        | ((first | refine T_region hE (by rfl) (fun K hK => ?_) | refine T_draw hE (by rfl) (by kernel_rfl) (fun K hK => ?_)); simp (disch := omega) only [eqs, evs, stp, stepW, wantA, opStep, kindOf, headStep, skipStep, stStep, wrStep, cpStep, stA, appA, readSl, isSl, copyA, kill, AV.refs, hd, hdLoad, hdBin, intBin, hdUn, hdConv, hdIdxAddr, hdIdx, hdSlice, bnd, hdCall, hdCallF, hdLen, hdMin, argsA, mapA, partsOk, partsF, lk, look, addR, evA, constA, HOut.ok, hty, hfs, tyAll, List.map, List.all, List.getElem?_cons_zero, List.getElem?_cons_succ, Option.bind_some, Option.map_some, Option.map_none, Option.getD_some, AV.pureA, Nat.reduceEqDiff, ↓reduceIte, reduceCtorEq, Nat.reduceLT, Nat.reduceLeDiff, Nat.reduceAdd, Nat.reduceMul, Int.reduceToNat, IntKind.bits, BEq.rfl, beq_self_eq_true, bne_self_eq_false, Int.reduceBEq, Int.reduceBNe, Int.reduceEq, Int.reduceNe, ne_eq, Int.reduceLT, Int.reduceLE, sFixed1, sSLess, h3, h4, hEq]; (repeat refine And.intro (by first | omega | assumption | (and_intros <;> first | omega | assumption) | fail) ?_); refine hK _ ?_; clear hK K)
        | (refine T_cond rfl (fun hc => ?_) (fun hc => ?_) <;> (try simp only [cnds, reduceCtorEq] at hc) <;> (try (first | (exact hc.elim) | (exfalso; omega))))
      refine hQ _ ?_
      simp (disch := omega) only [resOk, res1, retOk, eqs, lk, look, AV.pureA, kill, AV.refs, hty, tyAll, Nat.reduceEqDiff, ↓reduceIte, reduceCtorEq, Nat.reduceLT, Nat.reduceLeDiff, Nat.reduceAdd, Nat.reduceMul, Int.reduceToNat, ne_eq, sLaw2]

/-! ### What belongs together -/
theorem sdR_back {a b : Int} (a0 : 0 ≤ a) (a1 : a < M) (b0 : 0 ≤ b) (b1 : b < M) (hb : b ≠ 0) : (sdQ a b * b + sdR a b) % M = a := by
  have hz : sz b ≠ 0 := by unfold sz; split <;> omega
  have hr : sz a / sz b * sz b + nr (sz a) (sz b) = sz a := by
    unfold nr
    rw [if_neg hz, Int.mul_comm]
    exact Int.mul_ediv_add_emod _ _
  unfold sdQ sdR
  generalize sz a / sz b = q at *
  generalize nr (sz a) (sz b) = r at *
  unfold sz at hr
  cases hA : ng a <;> cases hB : ng b <;> simp only [hA, hB, Bool.false_eq_true, Bool.true_eq_false, if_true, if_false] at hr ⊢
  · rw [hr]; exact modM a0 a1
  · rw [show -q * b + r = a + M * (-q) from by rw [← hr, Int.mul_sub]; grind, Int.add_mul_emod_self_left]; exact modM a0 a1
  · rw [show -q * b + -r = a + M * (-1) from by rw [show a = M - (M - a) from by omega, ← hr]; grind, Int.add_mul_emod_self_left]; exact modM a0 a1
  · rw [show q * b + -r = a + M * (q - 1) from by rw [show a = M - (M - a) from by omega, ← hr]; grind, Int.add_mul_emod_self_left]; exact modM a0 a1
theorem sdR_size {a b : Int} (a0 : 0 ≤ a) (a1 : a < M) (b0 : 0 ≤ b) (b1 : b < M) (hb : b ≠ 0) : sz (sdR a b % M) < sz b ∧ (sdR a b % M = 0 ∨ ng (sdR a b % M) = ng a) := by
  have hB := @ng_true b
  have hz : 0 < sz b ∧ 2 * sz b ≤ M := by
    unfold sz
    split
    · rename_i h; rw [hB] at h; omega
    · rename_i h; rw [hB] at h; omega
  have hr := nr_bd (a := sz a) hz.1
  unfold sdR
  generalize nr (sz a) (sz b) = r at *
  generalize sz b = s at *
  cases hA : ng a
  · rw [if_neg (by decide)]
    have e : r % M = r := modM (by omega) (by omega)
    have e2 : ng r = false := ng_false.2 (by omega)
    rw [e]
    refine ⟨?_, .inr e2⟩
    unfold sz
    rw [e2, if_neg (by decide)]
    exact hr.2
  · rw [if_pos rfl]
    by_cases h0 : r = 0
    · subst h0
      refine ⟨?_, .inl rfl⟩
      show sz 0 < s
      exact hz.1
    · have e : -r % M = M - r := by rw [show -r = (M - r) + M * (-1) from by omega, Int.add_mul_emod_self_left]; exact modM (by omega) (by omega)
      have e2 : ng (M - r) = true := ng_true.2 (by omega)
      rw [e]
      refine ⟨?_, .inr e2⟩
      unfold sz
      rw [if_pos e2]
      omega

theorem c_SignTogether : Contract Try.prog 16 sLaw2 := by
  refine fun_ok [(72, sFixed1), (70, sSDiv), (30, sROf), (29, sRMul), (41, sRAdd), (77, sSz), (51, sRCompare), (31, sRWord), (74, sBelow)] ⟨c_fixed3, c_SDiv, c_ROf, c_RMul, c_RAdd, c_RSize, c_RCompare, c_RWord, c_RBelow, trivial⟩ Try.func16 rfl (by kernel_rfl) Try.ntmps16 Try.results16 (fun E hE hty hfs xs hp => ?_)
  unfold sLaw2 at hp
  split at hp
  case h_2 => exact hp.elim
  rename_i f g
  obtain ⟨hf, hg⟩ := hp
  have fb := wv_bd hf
  have gb := wv_bd hg
  have e0 := eqA_zero hg
  refine ⟨by simp, fun Q hQ => ?_⟩
  simp only [params, Nat.reduceAdd]
  by_cases hG : wv g = 0
  · rw [decide_eq_true hG] at e0
    have s0 : sz (wv g) = 0 := by rw [hG]; decide
    have e1 : eqA 4 (wl (sdQ (wv f) (wv g))) g = true := eqWf hg (by unfold sdQ; rw [s0, hG, Int.ediv_zero]; split <;> rfl)
    have e2 : eqA 4 (wl (sdR (wv f) (wv g))) g = true := eqWf hg (by unfold sdR; rw [s0, hG]; split <;> rfl)
    repeat' first
      | refine T_seq' ?_
      | refine T_block ?_
      | refine n_then ?_
      | refine x_then ?_
      | refine r_then ?_
      | refine n_block ?_
      | refine r_block ?_
      | refine x_block ?_
      | refine x_block' (by rfl) ?_
      | refine T_exit ?_
      | refine T_skip ?_
      | refine T_ret ?_
      | ((first | refine T_region hE (by rfl) (fun K hK => ?_) | refine T_draw hE (by rfl) (by kernel_rfl) (fun K hK => ?_)); simp (disch := omega) only [eqs, evs, stp, stepW, wantA, opStep, kindOf, headStep, skipStep, stStep, wrStep, cpStep, stA, appA, readSl, isSl, copyA, kill, AV.refs, hd, hdLoad, hdBin, intBin, hdUn, hdConv, hdIdxAddr, hdIdx, hdSlice, bnd, hdCall, hdCallF, hdLen, hdMin, argsA, mapA, partsOk, partsF, lk, look, addR, evA, constA, HOut.ok, hty, hfs, tyAll, List.map, List.all, List.getElem?_cons_zero, List.getElem?_cons_succ, Option.bind_some, Option.map_some, Option.map_none, Option.getD_some, AV.pureA, Nat.reduceEqDiff, ↓reduceIte, reduceCtorEq, Nat.reduceLT, Nat.reduceLeDiff, Nat.reduceAdd, Nat.reduceMul, Int.reduceToNat, IntKind.bits, BEq.rfl, beq_self_eq_true, bne_self_eq_false, Int.reduceBEq, Int.reduceBNe, Int.reduceEq, Int.reduceNe, ne_eq, Int.reduceLT, Int.reduceLE, sFixed1, sSDiv, e0, e1, e2]; (repeat refine And.intro (by first | omega | assumption | (and_intros <;> first | omega | assumption) | fail) ?_); refine hK _ ?_; clear hK K)
      | (refine T_cond rfl (fun hc => ?_) (fun hc => ?_) <;> (try simp only [cnds, reduceCtorEq] at hc) <;> (try (first | (exact hc.elim) | (exfalso; omega))))
    refine hQ _ ?_
    simp (disch := omega) only [resOk, res1, retOk, eqs, lk, look, AV.pureA, kill, AV.refs, hty, tyAll, Nat.reduceEqDiff, ↓reduceIte, reduceCtorEq, Nat.reduceLT, Nat.reduceLeDiff, Nat.reduceAdd, Nat.reduceMul, Int.reduceToNat, ne_eq, sLaw2]
  · rw [decide_eq_false hG] at e0
    have hb := sdR_back fb.1 fb.2 gb.1 gb.2 hG
    obtain ⟨hs1, hs2⟩ := sdR_size fb.1 fb.2 gb.1 gb.2 hG
    have sb := sz_bd gb.1 gb.2
    have vz := wv_small sb.1 sb.2
    generalize hq : sdQ (wv f) (wv g) = q at *
    generalize hr : sdR (wv f) (wv g) = r at *
    have rb : 0 ≤ r % M ∧ r % M < M := ⟨Int.emod_nonneg _ (by decide), Int.emod_lt_of_pos _ M_pos⟩
    have rz := sz_bd rb.1 rb.2
    have wr := wv_wl r
    have d1 : dv (dl (wv (wl q))) = q % M := by rw [wv_wl, dv_dl, Int.emod_emod]
    have d2 := dvdl hg
    have d3 : dv (dl (r % M)) = r % M := by rw [dv_dl, Int.emod_emod]
    have d4 : dv (dl (sz (r % M))) = sz (r % M) := by rw [dv_dl]; exact modM rz.1 rz.2
    have d5 : dv (dl (sz (wv g))) = sz (wv g) := by rw [dv_dl]; exact modM sb.1 sb.2
    have vr := wv_small rz.1 rz.2
    have back : wl (dv (dl (dv (dl (q % M * wv g)) + r % M))) = wl (wv f) := wl_congr (by
      rw [dv_dl, dv_dl, Int.emod_emod, Int.emod_add_emod, Int.add_emod_emod, ← hb, Int.emod_emod]
      rw [Int.add_emod, emod_mul, ← Int.add_emod])
    have ew : eqA 4 (wl (wv f)) f = true := eqWf hf (modM fb.1 fb.2)
    have ez : eqA 4 (wl r) (fun _ => 0) = decide (r % M = 0) := by rw [eqA_zero (W_wl r), wv_wl]
    by_cases h0 : r % M = 0
    · rw [decide_eq_true h0] at ez
      repeat' first
        | refine T_seq' ?_
        | refine T_block ?_
        | refine n_then ?_
        | refine x_then ?_
        | refine r_then ?_
        | refine n_block ?_
        | refine r_block ?_
        | refine x_block ?_
        | refine x_block' (by rfl) ?_
        | refine T_exit ?_
        | refine T_skip ?_
        | refine T_ret ?_
        | ((first | refine T_region hE (by rfl) (fun K hK => ?_) | refine T_draw hE (by rfl) (by kernel_rfl) (fun K hK => ?_)); simp (disch := omega) only [eqs, evs, stp, stepW, wantA, opStep, kindOf, headStep, skipStep, stStep, wrStep, cpStep, stA, appA, readSl, isSl, copyA, kill, AV.refs, hd, hdLoad, hdBin, intBin, hdUn, hdConv, hdIdxAddr, hdIdx, hdSlice, bnd, hdCall, hdCallF, hdLen, hdMin, argsA, mapA, partsOk, partsF, lk, look, addR, evA, constA, HOut.ok, hty, hfs, tyAll, List.map, List.all, List.getElem?_cons_zero, List.getElem?_cons_succ, Option.bind_some, Option.map_some, Option.map_none, Option.getD_some, AV.pureA, Nat.reduceEqDiff, ↓reduceIte, reduceCtorEq, Nat.reduceLT, Nat.reduceLeDiff, Nat.reduceAdd, Nat.reduceMul, Int.reduceToNat, IntKind.bits, BEq.rfl, beq_self_eq_true, bne_self_eq_false, Int.reduceBEq, Int.reduceBNe, Int.reduceEq, Int.reduceNe, ne_eq, Int.reduceLT, Int.reduceLE, sFixed1, sSDiv, e0, hq, hr, sROf, W_wl, sRMul, D_dl, d1, d2, d3, sRAdd, sSz, wr, vr, vz, d4, d5, sRCompare, cmp_lt, hs1, sRWord, back, ew, ez]; (repeat refine And.intro (by first | omega | assumption | (and_intros <;> first | omega | assumption) | fail) ?_); refine hK _ ?_; clear hK K)
        | (refine T_cond rfl (fun hc => ?_) (fun hc => ?_) <;> (try simp only [cnds, reduceCtorEq] at hc) <;> (try (first | (exact hc.elim) | (exfalso; omega))))
      refine hQ _ ?_
      simp (disch := omega) only [resOk, res1, retOk, eqs, lk, look, AV.pureA, kill, AV.refs, hty, tyAll, Nat.reduceEqDiff, ↓reduceIte, reduceCtorEq, Nat.reduceLT, Nat.reduceLeDiff, Nat.reduceAdd, Nat.reduceMul, Int.reduceToNat, ne_eq, sLaw2]
    · have hn := hs2.resolve_left h0
      rw [decide_eq_false h0] at ez
      repeat' first
        | refine T_seq' ?_
        | refine T_block ?_
        | refine n_then ?_
        | refine x_then ?_
        | refine r_then ?_
        | refine n_block ?_
        | refine r_block ?_
        | refine x_block ?_
        | refine x_block' (by rfl) ?_
        | refine T_exit ?_
        | refine T_skip ?_
        | refine T_ret ?_
        | ((first | refine T_region hE (by rfl) (fun K hK => ?_) | refine T_draw hE (by rfl) (by kernel_rfl) (fun K hK => ?_)); simp (disch := omega) only [eqs, evs, stp, stepW, wantA, opStep, kindOf, headStep, skipStep, stStep, wrStep, cpStep, stA, appA, readSl, isSl, copyA, kill, AV.refs, hd, hdLoad, hdBin, intBin, hdUn, hdConv, hdIdxAddr, hdIdx, hdSlice, bnd, hdCall, hdCallF, hdLen, hdMin, argsA, mapA, partsOk, partsF, lk, look, addR, evA, constA, HOut.ok, hty, hfs, tyAll, List.map, List.all, List.getElem?_cons_zero, List.getElem?_cons_succ, Option.bind_some, Option.map_some, Option.map_none, Option.getD_some, AV.pureA, Nat.reduceEqDiff, ↓reduceIte, reduceCtorEq, Nat.reduceLT, Nat.reduceLeDiff, Nat.reduceAdd, Nat.reduceMul, Int.reduceToNat, IntKind.bits, BEq.rfl, beq_self_eq_true, bne_self_eq_false, Int.reduceBEq, Int.reduceBNe, Int.reduceEq, Int.reduceNe, ne_eq, Int.reduceLT, Int.reduceLE, sFixed1, sSDiv, e0, hq, hr, sROf, W_wl, sRMul, D_dl, d1, d2, d3, sRAdd, sSz, wr, vr, vz, d4, d5, sRCompare, cmp_lt, hs1, sRWord, back, ew, ez, sBelow, hn]; (repeat refine And.intro (by first | omega | assumption | (and_intros <;> first | omega | assumption) | fail) ?_); refine hK _ ?_; clear hK K)
        | (refine T_cond rfl (fun hc => ?_) (fun hc => ?_) <;> (try simp only [cnds, reduceCtorEq] at hc) <;> (try (first | (exact hc.elim) | (exfalso; omega))))
      refine hQ _ ?_
      simp (disch := omega) only [resOk, res1, retOk, eqs, lk, look, AV.pureA, kill, AV.refs, hty, tyAll, Nat.reduceEqDiff, ↓reduceIte, reduceCtorEq, Nat.reduceLT, Nat.reduceLeDiff, Nat.reduceAdd, Nat.reduceMul, Int.reduceToNat, ne_eq, sLaw2]

end Go.Proofs.Ytijoifajbmhgdaa.Sym
