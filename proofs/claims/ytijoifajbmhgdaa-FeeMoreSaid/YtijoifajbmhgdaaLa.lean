/- The laws of words: sums, products, ring, logic. -/
import Derived.Test.YtijoifajbmhgdaaGa
namespace Go.Proofs.Ytijoifajbmhgdaa.Sym
set_option linter.unusedVariables false
open Go Go.RowKit Num
set_option maxRecDepth 10000
set_option linter.unusedSimpArgs false

theorem c_fixed1 : Contract Try.prog 27 sFixed1 := by
  refine fun_ok [(49, sOf), (42, sWSub), (32, sShl), (28, sMul), (34, sShr), (39, sNot), (54, sLen)] ⟨c_Of, c_WSub, c_Shl, c_WMul, c_Shr, c_Not, c_Len, trivial⟩ Try.func27 rfl (by kernel_rfl) Try.ntmps27 Try.results27 (fun E hE hty hfs xs hp => ?_)
  unfold sFixed1 at hp
  split at hp
  case h_2 => exact hp.elim
  have h0 := W0
  have h1 := W01
  have e1 : eqA 4 (wl (wv (fun _ => 0) - wv (wl 1))) (wl (-1 - wv (fun _ => 0))) = true := eqW (by rw [wv0, wv_wl]; decide)
  have e2 : eqA 4 (wl (wv (wl (wv (wl 1) * 2 ^ 255)) * wv (wl 2))) (fun _ => 0) = true := eqW0 (by rw [wv_wl, wv_wl, wv_wl]; decide)
  have e3 : eqA 4 (wl (wv (updF (updF (fun _ => 0) 0 0) 1 1) / 2 ^ 1)) (wl 9223372036854775808) = true := eqW (by rw [wv01]; decide)
  have e4 : bl (wv (wl 256)) = 9 := by rw [wv_wl]; decide
  refine ⟨by simp, fun Q hQ => ?_⟩
  simp only [params, Nat.reduceAdd]
  repeat' first
    | refine T_seq' ?_
    | refine T_block ?_
    | refine n_then ?_
    | refine x_then ?_
    | refine r_then ?_
    | refine n_block ?_
    | refine r_block ?_
    | refine x_block ?_
    | refine x_block' (by rfl) ?_
    | refine T_exit ?_
    | refine T_skip ?_
    | refine T_ret ?_
    | ((first | refine T_region hE (by rfl) (fun K hK => ?_) | refine T_draw hE (by rfl) (by kernel_rfl) (fun K hK => ?_)); simp (disch := omega) only [eqs, evs, stp, stepW, wantA, opStep, kindOf, headStep, skipStep, stStep, wrStep, cpStep, stA, appA, readSl, isSl, copyA, kill, AV.refs, hd, hdLoad, hdBin, intBin, hdUn, hdConv, hdIdxAddr, hdIdx, hdSlice, bnd, hdCall, hdCallF, hdLen, hdMin, argsA, mapA, partsOk, partsF, lk, look, addR, evA, constA, HOut.ok, hty, hfs, tyAll, List.map, List.all, List.getElem?_cons_zero, List.getElem?_cons_succ, Option.bind_some, Option.map_some, Option.map_none, Option.getD_some, AV.pureA, Nat.reduceEqDiff, ↓reduceIte, reduceCtorEq, Nat.reduceLT, Nat.reduceLeDiff, Nat.reduceAdd, Nat.reduceMul, Int.reduceToNat, IntKind.bits, BEq.rfl, beq_self_eq_true, bne_self_eq_false, Int.reduceBEq, Int.reduceBNe, Int.reduceEq, Int.reduceNe, ne_eq, Int.reduceLT, Int.reduceLE, sOf, sWSub, sShl, sMul, sShr, sNot, sLen, W_wl, e1, e2, e3, e4]; (repeat refine And.intro (by first | omega | assumption | (and_intros <;> first | omega | assumption) | fail) ?_); refine hK _ ?_; clear hK K)
    | (refine T_cond rfl (fun hc => ?_) (fun hc => ?_) <;> (try simp only [cnds, reduceCtorEq] at hc) <;> (try (first | (exact hc.elim) | (exfalso; omega))))
  refine hQ _ ?_
  simp (disch := omega) only [resOk, res1, retOk, eqs, lk, look, AV.pureA, kill, AV.refs, hty, tyAll, Nat.reduceEqDiff, ↓reduceIte, reduceCtorEq, Nat.reduceLT, Nat.reduceLeDiff, Nat.reduceAdd, Nat.reduceMul, Int.reduceToNat, ne_eq, sFixed1]

def sLaw2 : List AV → SOut
  | [.arr .u64 4 f, .arr .u64 4 g] => ⟨W f ∧ W g, .bool true⟩
  | _ => ⟨False, .und⟩
def sLaw3 : List AV → SOut
  | [.arr .u64 4 f, .arr .u64 4 g, .arr .u64 4 h] => ⟨W f ∧ W g ∧ W h, .bool true⟩
  | _ => ⟨False, .und⟩

theorem c_WordSums : Contract Try.prog 6 sLaw2 := by
  refine fun_ok [(30, sROf), (27, sFixed1), (40, sWAdd), (41, sRAdd), (31, sRWord), (42, sWSub), (43, sRSub)] ⟨c_ROf, c_fixed1, c_WAdd, c_RAdd, c_RWord, c_WSub, c_RSub, trivial⟩ Try.func6 rfl (by kernel_rfl) Try.ntmps6 Try.results6 (fun E hE hty hfs xs hp => ?_)
  unfold sLaw2 at hp
  split at hp
  case h_2 => exact hp.elim
  rename_i f g
  obtain ⟨hf, hg⟩ := hp
  have e1 : eqA 4 (wl (wv f + wv g)) (wl (dv (dl (dv (dl (wv f)) + dv (dl (wv g)))))) = true := eqW (by simp only [dv_dl, Int.emod_emod, Int.emod_add_emod, Int.add_emod_emod])
  have e2 : eqA 4 (wl (wv f - wv g)) (wl (dv (dl (dv (dl (wv f)) - dv (dl (wv g)))))) = true := eqW (by simp only [dv_dl, Int.emod_emod, Int.emod_sub_emod, Int.sub_emod_emod])
  have e3 : eqA 4 (wl (wv (wl (wv f + wv g)) - wv g)) f = true := eqWf hf (by rw [wv_wl, Int.emod_sub_emod, Int.add_sub_cancel, modM (wv_bd hf).1 (wv_bd hf).2])
  refine ⟨by simp, fun Q hQ => ?_⟩
  simp only [params, Nat.reduceAdd]
  repeat' first
    | refine T_seq' ?_
    | refine T_block ?_
    | refine n_then ?_
    | refine x_then ?_
    | refine r_then ?_
    | refine n_block ?_
    | refine r_block ?_
    | refine x_block ?_
    | refine x_block' (by rfl) ?_
    | refine T_exit ?_
    | refine T_skip ?_
    | refine T_ret ?_
    | ((first | refine T_region hE (by rfl) (fun K hK => ?_) | refine T_draw hE (by rfl) (by kernel_rfl) (fun K hK => ?_)); simp (disch := omega) only [eqs, evs, stp, stepW, wantA, opStep, kindOf, headStep, skipStep, stStep, wrStep, cpStep, stA, appA, readSl, isSl, copyA, kill, AV.refs, hd, hdLoad, hdBin, intBin, hdUn, hdConv, hdIdxAddr, hdIdx, hdSlice, bnd, hdCall, hdCallF, hdLen, hdMin, argsA, mapA, partsOk, partsF, lk, look, addR, evA, constA, HOut.ok, hty, hfs, tyAll, List.map, List.all, List.getElem?_cons_zero, List.getElem?_cons_succ, Option.bind_some, Option.map_some, Option.map_none, Option.getD_some, AV.pureA, Nat.reduceEqDiff, ↓reduceIte, reduceCtorEq, Nat.reduceLT, Nat.reduceLeDiff, Nat.reduceAdd, Nat.reduceMul, Int.reduceToNat, IntKind.bits, BEq.rfl, beq_self_eq_true, bne_self_eq_false, Int.reduceBEq, Int.reduceBNe, Int.reduceEq, Int.reduceNe, ne_eq, Int.reduceLT, Int.reduceLE, sFixed1, sROf, sWAdd, sRAdd, sRWord, sWSub, sRSub, W_wl, D_dl, e1, e2, e3]; (repeat refine And.intro (by first | omega | assumption | (and_intros <;> first | omega | assumption) | fail) ?_); refine hK _ ?_; clear hK K)
    | (refine T_cond rfl (fun hc => ?_) (fun hc => ?_) <;> (try simp only [cnds, reduceCtorEq] at hc) <;> (try (first | (exact hc.elim) | (exfalso; omega))))
  refine hQ _ ?_
  simp (disch := omega) only [resOk, res1, retOk, eqs, lk, look, AV.pureA, kill, AV.refs, hty, tyAll, Nat.reduceEqDiff, ↓reduceIte, reduceCtorEq, Nat.reduceLT, Nat.reduceLeDiff, Nat.reduceAdd, Nat.reduceMul, Int.reduceToNat, ne_eq, sLaw2]

end Go.Proofs.Ytijoifajbmhgdaa.Sym
