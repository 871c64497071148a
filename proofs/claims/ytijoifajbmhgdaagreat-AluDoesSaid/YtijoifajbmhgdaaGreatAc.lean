/- The chapter's examples of instructions. -/
import Derived.Test.YtijoifajbmhgdaaGreatAba
namespace Go.Proofs.YtijoifajbmhgdaaGreat.Sym
set_option linter.unusedVariables false
open Go Go.RowKit Num
set_option maxRecDepth 10000
set_option linter.unusedSimpArgs false

theorem small_dl {x : Int} (h0 : 0 ≤ x) (h1 : x < 256) : updF (fun _ => 0) 0 x = dl x := by
  have hM : x % M = x := Int.emod_eq_of_lt h0 (by unfold M; omega)
  funext j
  cases j with
  | zero =>
    rw [updF_same]
    unfold dl dig
    rw [hM, Int.pow_zero, Int.ediv_one, Int.emod_eq_of_lt h0 h1]
  | succ j =>
    rw [updF_ne _ _ (by omega)]
    unfold dl
    rw [hM]
    exact (dig_zero (by decide) h0 (Int.lt_of_lt_of_le h1 (ipowB_le (b := 256) (m := 1) (by decide) (by omega)))).symm
theorem c_fixed17 : Contract Tryz.prog 6 sFixed1 := by
  refine fun_ok [(4, sDo), (15, sRNeg), (21, sRWord)] ⟨c_Do, c_RNeg, c_RWord, trivial⟩ Tryz.func6 rfl (by kernel_rfl) Tryz.ntmps6 Tryz.results6 (fun E hE hty hfs xs hp => ?_)
  unfold sFixed1 at hp
  split at hp
  case h_2 => exact hp.elim
  have h0 := W0
  have w5 := one_wl (x := 5) (by decide) (by decide)
  have w7 := one_wl (x := 7) (by decide) (by decide)
  have w8 := one_wl (x := 8) (by decide) (by decide)
  have w1 := one_wl (x := 1) (by decide) (by decide)
  have w2 := one_wl (x := 2) (by decide) (by decide)
  have w256 := one_wl (x := 256) (by decide) (by decide)
  have d2 := small_dl (x := 2) (by decide) (by decide)
  have v5 := wv_small (x := 5) (by decide) (by decide)
  have v7 := wv_small (x := 7) (by decide) (by decide)
  have v8 := wv_small (x := 8) (by decide) (by decide)
  have v1 := wv_small (x := 1) (by decide) (by decide)
  have v2 := wv_small (x := 2) (by decide) (by decide)
  have e1 : eqA 4 (wl (doV 3 5 7 0)) (wl (-2)) = true := eqW (by decide)
  have e2 : eqA 4 (wl (doV 27 8 1 0)) (wl 256) = true := eqW (by decide)
  have e3 : eqA 4 (wl (doV 16 1 2 0)) (wl 1) = true := eqW (by decide)
  have o1 : doOk 3 = true := rfl
  have o2 : doOk 27 = true := rfl
  have o3 : doOk 16 = true := rfl
  refine ⟨by simp, fun Q hQ => ?_⟩
  simp only [params, Nat.reduceAdd]
  repeat' first
    | refine T_seq' ?_
    | refine T_block ?_
    | refine n_then ?_
    | refine x_then ?_
    | refine r_then ?_
    | refine n_block ?_
    | refine r_block ?_
    | refine x_block ?_
    | refine x_block' (by rfl) ?_
    | refine T_exit ?_
    | refine T_skip ?_
    | refine T_ret ?_
    | (refine T_region hE (by rfl) (fun K hK => ?_); simp (disch := omega) only [eqs, evs, stp, stepW, wantA, opStep, kindOf, headStep, skipStep, stStep, wrStep, cpStep, stA, appA, readSl, isSl, copyA, kill, AV.refs, hd, hdLoad, hdBin, intBin, hdUn, hdConv, hdIdxAddr, hdIdx, hdSlice, bnd, hdCall, hdCallF, hdLen, hdMin, argsA, mapA, partsOk, partsF, lk, look, addR, evA, constA, HOut.ok, hty, hfs, tyAll, List.map, List.all, List.getElem?_cons_zero, List.getElem?_cons_succ, Option.bind_some, Option.map_some, Option.map_none, Option.getD_some, AV.pureA, Nat.reduceEqDiff, ↓reduceIte, reduceCtorEq, Nat.reduceLT, Nat.reduceLeDiff, Nat.reduceAdd, Nat.reduceMul, Int.reduceToNat, IntKind.bits, BEq.rfl, beq_self_eq_true, bne_self_eq_false, Int.reduceBEq, Int.reduceBNe, Int.reduceEq, Int.reduceNe, ne_eq, Int.reduceLT, Int.reduceLE, sDo, w5, w7, W_wl, v5, v7, wv0, w8, w1, v8, v1, w2, v2]; (repeat refine And.intro (by first | omega | assumption | (and_intros <;> first | omega | assumption) | fail) ?_); refine hK _ ?_; clear hK K)
    | (refine T_cond rfl (fun hc => ?_) (fun hc => ?_) <;> (try simp only [cnds, reduceCtorEq] at hc) <;> (try (first | (exact hc.elim) | (exfalso; omega))))
  refine T_draw hE (by rfl) (by kernel_rfl) (fun K hK => ?_)
  simp (disch := omega) only [eqs, evs, stp, stepW, wantA, opStep, kindOf, headStep, skipStep, stStep, wrStep, cpStep, stA, appA, readSl, isSl, copyA, kill, AV.refs, hd, hdLoad, hdBin, intBin, hdUn, hdConv, hdIdxAddr, hdIdx, hdSlice, bnd, hdCall, hdCallF, hdLen, hdMin, argsA, mapA, partsOk, partsF, lk, look, addR, evA, constA, HOut.ok, hty, hfs, tyAll, List.map, List.all, List.getElem?_cons_zero, List.getElem?_cons_succ, Option.bind_some, Option.map_some, Option.map_none, Option.getD_some, AV.pureA, Nat.reduceEqDiff, ↓reduceIte, reduceCtorEq, Nat.reduceLT, Nat.reduceLeDiff, Nat.reduceAdd, Nat.reduceMul, Int.reduceToNat, IntKind.bits, BEq.rfl, beq_self_eq_true, bne_self_eq_false, Int.reduceBEq, Int.reduceBNe, Int.reduceEq, Int.reduceNe, ne_eq, Int.reduceLT, Int.reduceLE, d2, sRNeg, sRWord, D_dl, neg_back, w256, w1, e1, e2, e3, o1, o2, o3]
  (repeat refine And.intro (by first | omega | assumption | (and_intros <;> first | omega | assumption) | fail) ?_); refine hK _ ?_
  clear hK K
  repeat' first
    | refine T_seq' ?_
    | refine T_block ?_
    | refine n_then ?_
    | refine x_then ?_
    | refine r_then ?_
    | refine n_block ?_
    | refine r_block ?_
    | refine x_block ?_
    | refine x_block' (by rfl) ?_
    | refine T_exit ?_
    | refine T_skip ?_
    | refine T_ret ?_
    | (refine T_region hE (by rfl) (fun K hK => ?_); simp (disch := omega) only [eqs, evs, stp, stepW, wantA, opStep, kindOf, headStep, skipStep, stStep, wrStep, cpStep, stA, appA, readSl, isSl, copyA, kill, AV.refs, hd, hdLoad, hdBin, intBin, hdUn, hdConv, hdIdxAddr, hdIdx, hdSlice, bnd, hdCall, hdCallF, hdLen, hdMin, argsA, mapA, partsOk, partsF, lk, look, addR, evA, constA, HOut.ok, hty, hfs, tyAll, List.map, List.all, List.getElem?_cons_zero, List.getElem?_cons_succ, Option.bind_some, Option.map_some, Option.map_none, Option.getD_some, AV.pureA, Nat.reduceEqDiff, ↓reduceIte, reduceCtorEq, Nat.reduceLT, Nat.reduceLeDiff, Nat.reduceAdd, Nat.reduceMul, Int.reduceToNat, IntKind.bits, BEq.rfl, beq_self_eq_true, bne_self_eq_false, Int.reduceBEq, Int.reduceBNe, Int.reduceEq, Int.reduceNe, ne_eq, Int.reduceLT, Int.reduceLE]; (repeat refine And.intro (by first | omega | assumption | (and_intros <;> first | omega | assumption) | fail) ?_); refine hK _ ?_; clear hK K)
    | (refine T_cond rfl (fun hc => ?_) (fun hc => ?_) <;> (try simp only [cnds, reduceCtorEq] at hc) <;> (try (first | (exact hc.elim) | (exfalso; omega))))
  refine hQ _ ?_
  simp (disch := omega) only [resOk, res1, retOk, eqs, lk, look, AV.pureA, kill, AV.refs, hty, tyAll, Nat.reduceEqDiff, ↓reduceIte, reduceCtorEq, Nat.reduceLT, Nat.reduceLeDiff, Nat.reduceAdd, Nat.reduceMul, Int.reduceToNat, ne_eq, sFixed1]

end Go.Proofs.YtijoifajbmhgdaaGreat.Sym
