/- The laws of wide words: what is left, powers. -/
import Derived.Test.YtijoifajbmhgdaaLc
namespace Go.Proofs.Ytijoifajbmhgdaa.Sym
set_option linter.unusedVariables false
open Go Go.RowKit Num
set_option maxRecDepth 10000
set_option linter.unusedSimpArgs false

theorem c_WideRests : Contract Try.prog 23 sLaw3 := by
  refine fun_ok [(85, sFixed1), (91, sMod3 (· + ·)), (92, sMod3 (· * ·)), (67, sNOf), (68, sNPlus), (87, sNTimes), (66, sNDiv), (86, sNWord)] ⟨c_fixed2, c_AddMod, c_MulMod, c_NOf, c_NPlus, c_NTimes, c_NDiv, c_NWord, trivial⟩ Try.func23 rfl (by kernel_rfl) Try.ntmps23 Try.results23 (fun E hE hty hfs xs hp => ?_)
  unfold sLaw3 at hp
  split at hp
  case h_2 => exact hp.elim
  rename_i f g h
  obtain ⟨hf, hg, hh⟩ := hp
  have fb := wv_bd hf
  have gb := wv_bd hg
  have hb := wv_bd hh
  have a1 := D32 (wv f)
  have a2 := D32 (wv g)
  have a3 := D32 (wv h)
  have b1 := nv_dl fb.1 fb.2
  have b2 := nv_dl gb.1 gb.2
  have b3 := nv_dl hb.1 hb.2
  have hP : 0 ≤ wv f * wv g ∧ wv f * wv g < M * M := ⟨Int.mul_nonneg fb.1 gb.1, by
    have := Int.mul_le_mul (show wv f ≤ M - 1 by omega) (show wv g ≤ M - 1 by omega) gb.1 (by decide)
    have h2 : (M - 1) * (M - 1) < M * M := by decide
    omega⟩
  have hM65 : M * M < 256 ^ 65 := by decide
  have hM33 : M + M < 256 ^ 33 := by decide
  have m1 : max 32 32 + 1 = 33 := rfl
  have a4 := Dg_dig (wv f + wv g) 33
  have b4 := nv_of (a := wv f + wv g) (n := 33) (by omega) (by omega)
  have a5 := Dg_dig (wv f * wv g) 65
  have b5 := nv_of (a := wv f * wv g) (n := 65) hP.1 (by omega)
  have r1 := nr_nn (a := wv f + wv g) (by omega) hb.1
  have r2 := nr_nn hP.1 hb.1
  have a6 := Dg_dig (nr (wv f + wv g) (wv h)) (nd (nr (wv f + wv g) (wv h)))
  have a7 := Dg_dig (nr (wv f * wv g) (wv h)) (nd (nr (wv f * wv g) (wv h)))
  have l6 : nd (nr (wv f + wv g) (wv h)) ≤ 32 := nd_le r1 (by rw [M_256]; exact nr_lt hb.1 hb.2)
  have l7 : nd (nr (wv f * wv g) (wv h)) ≤ 32 := nd_le r2 (by rw [M_256]; exact nr_lt hb.1 hb.2)
  have b6 := nv_nd r1
  have b7 := nv_nd r2
  refine ⟨by simp, fun Q hQ => ?_⟩
  simp only [params, Nat.reduceAdd]
  repeat' first
    | refine T_seq' ?_
    | refine T_block ?_
    | refine n_then ?_
    | refine x_then ?_
    | refine r_then ?_
    | refine n_block ?_
    | refine r_block ?_
    | refine x_block ?_
    | refine x_block' (by rfl) ?_
    | refine T_exit ?_
    | refine T_skip ?_
    | refine T_ret ?_
    | ((first | refine T_region hE (by rfl) (fun K hK => ?_) | refine T_draw hE (by rfl) (by kernel_rfl) (fun K hK => ?_)); simp (disch := omega) only [eqs, evs, stp, stepW, wantA, opStep, kindOf, headStep, skipStep, stStep, wrStep, cpStep, stA, appA, readSl, isSl, copyA, kill, AV.refs, hd, hdLoad, hdBin, intBin, hdUn, hdConv, hdIdxAddr, hdIdx, hdSlice, bnd, hdCall, hdCallF, hdLen, hdMin, argsA, mapA, partsOk, partsF, lk, look, addR, evA, constA, HOut.ok, hty, hfs, tyAll, List.map, List.all, List.getElem?_cons_zero, List.getElem?_cons_succ, Option.bind_some, Option.map_some, Option.map_none, Option.getD_some, AV.pureA, Nat.reduceEqDiff, ↓reduceIte, reduceCtorEq, Nat.reduceLT, Nat.reduceLeDiff, Nat.reduceAdd, Nat.reduceMul, Int.reduceToNat, IntKind.bits, BEq.rfl, beq_self_eq_true, bne_self_eq_false, Int.reduceBEq, Int.reduceBNe, Int.reduceEq, Int.reduceNe, ne_eq, Int.reduceLT, Int.reduceLE, sFixed1, sMod3, sNOf, sNPlus, sNTimes, sNDiv, sNWord, m1, b1, b2, b3, b4, b5, b6, b7, eqA_refl]; (repeat refine And.intro (by first | omega | assumption | (and_intros <;> first | omega | assumption) | fail) ?_); refine hK _ ?_; clear hK K)
    | (refine T_cond rfl (fun hc => ?_) (fun hc => ?_) <;> (try simp only [cnds, reduceCtorEq] at hc) <;> (try (first | (exact hc.elim) | (exfalso; omega))))
  refine hQ _ ?_
  simp (disch := omega) only [resOk, res1, retOk, eqs, lk, look, AV.pureA, kill, AV.refs, hty, tyAll, Nat.reduceEqDiff, ↓reduceIte, reduceCtorEq, Nat.reduceLT, Nat.reduceLeDiff, Nat.reduceAdd, Nat.reduceMul, Int.reduceToNat, ne_eq, sLaw3]

theorem c_WidePowers : Contract Try.prog 24 sLaw2 := by
  refine fun_ok [(85, sFixed1), (93, sWExp), (94, sNExp)] ⟨c_fixed2, c_WExp, c_NExp, trivial⟩ Try.func24 rfl (by kernel_rfl) Try.ntmps24 Try.results24 (fun E hE hty hfs xs hp => ?_)
  unfold sLaw2 at hp
  split at hp
  case h_2 => exact hp.elim
  rename_i f g
  obtain ⟨hf, hg⟩ := hp
  refine ⟨by simp, fun Q hQ => ?_⟩
  simp only [params, Nat.reduceAdd]
  repeat' first
    | refine T_seq' ?_
    | refine T_block ?_
    | refine n_then ?_
    | refine x_then ?_
    | refine r_then ?_
    | refine n_block ?_
    | refine r_block ?_
    | refine x_block ?_
    | refine x_block' (by rfl) ?_
    | refine T_exit ?_
    | refine T_skip ?_
    | refine T_ret ?_
    | ((first | refine T_region hE (by rfl) (fun K hK => ?_) | refine T_draw hE (by rfl) (by kernel_rfl) (fun K hK => ?_)); simp (disch := omega) only [eqs, evs, stp, stepW, wantA, opStep, kindOf, headStep, skipStep, stStep, wrStep, cpStep, stA, appA, readSl, isSl, copyA, kill, AV.refs, hd, hdLoad, hdBin, intBin, hdUn, hdConv, hdIdxAddr, hdIdx, hdSlice, bnd, hdCall, hdCallF, hdLen, hdMin, argsA, mapA, partsOk, partsF, lk, look, addR, evA, constA, HOut.ok, hty, hfs, tyAll, List.map, List.all, List.getElem?_cons_zero, List.getElem?_cons_succ, Option.bind_some, Option.map_some, Option.map_none, Option.getD_some, AV.pureA, Nat.reduceEqDiff, ↓reduceIte, reduceCtorEq, Nat.reduceLT, Nat.reduceLeDiff, Nat.reduceAdd, Nat.reduceMul, Int.reduceToNat, IntKind.bits, BEq.rfl, beq_self_eq_true, bne_self_eq_false, Int.reduceBEq, Int.reduceBNe, Int.reduceEq, Int.reduceNe, ne_eq, Int.reduceLT, Int.reduceLE, sFixed1, sWExp, sNExp, eqA_refl]; (repeat refine And.intro (by first | omega | assumption | (and_intros <;> first | omega | assumption) | fail) ?_); refine hK _ ?_; clear hK K)
    | (refine T_cond rfl (fun hc => ?_) (fun hc => ?_) <;> (try simp only [cnds, reduceCtorEq] at hc) <;> (try (first | (exact hc.elim) | (exfalso; omega))))
  refine hQ _ ?_
  simp (disch := omega) only [resOk, res1, retOk, eqs, lk, look, AV.pureA, kill, AV.refs, hty, tyAll, Nat.reduceEqDiff, ↓reduceIte, reduceCtorEq, Nat.reduceLT, Nat.reduceLeDiff, Nat.reduceAdd, Nat.reduceMul, Int.reduceToNat, ne_eq, sLaw2]

def sLawQ2 : List AV → SOut
  | [.arr .u64 4 f, .int .u64 n, .int .u64 m] => ⟨W f ∧ (0 ≤ n ∧ n < 18446744073709551616) ∧ (0 ≤ m ∧ m < 18446744073709551616), .bool true⟩
  | _ => ⟨False, .und⟩
theorem c_WideExponents : Contract Try.prog 25 sLawQ2 := by
  refine fun_ok [(85, sFixed1), (93, sWExp), (67, sNOf), (68, sNPlus), (86, sNWord), (30, sROf), (29, sRMul), (31, sRWord)] ⟨c_fixed2, c_WExp, c_NOf, c_NPlus, c_NWord, c_ROf, c_RMul, c_RWord, trivial⟩ Try.func25 rfl (by kernel_rfl) Try.ntmps25 Try.results25 (fun E hE hty hfs xs hp => ?_)
  unfold sLawQ2 at hp
  split at hp
  case h_2 => exact hp.elim
  rename_i f n m
  obtain ⟨hf, ⟨n0, n1⟩, m0, m1⟩ := hp
  have hM : 36893488147419103232 < M := by decide
  have w1 := one_wl n0 n1
  have w2 := one_wl m0 m1
  have v1 := wv_small n0 (by omega)
  have v2 := wv_small m0 (by omega)
  have v3 := wv_small (x := n + m) (by omega) (by omega)
  have a1 := D32 n
  have a2 := D32 m
  have b1 := nv_dl n0 (by omega)
  have b2 := nv_dl m0 (by omega)
  have k1 : max 32 32 + 1 = 33 := rfl
  have hM33 : M < 256 ^ 33 := by decide
  have a3 := Dg_dig (n + m) 33
  have b3 := nv_of (a := n + m) (n := 33) (by omega) (by omega)
  have e1 : wv f ^ n.toNat * wv f ^ m.toNat = wv f ^ (n + m).toNat := by rw [← Int.pow_add, Int.toNat_add n0 m0]
  refine ⟨by simp, fun Q hQ => ?_⟩
  simp only [params, Nat.reduceAdd]
  repeat' first
    | refine T_seq' ?_
    | refine T_block ?_
    | refine n_then ?_
    | refine x_then ?_
    | refine r_then ?_
    | refine n_block ?_
    | refine r_block ?_
    | refine x_block ?_
    | refine x_block' (by rfl) ?_
    | refine T_exit ?_
    | refine T_skip ?_
    | refine T_ret ?_
    | ((first | refine T_region hE (by rfl) (fun K hK => ?_) | refine T_draw hE (by rfl) (by kernel_rfl) (fun K hK => ?_)); simp (disch := omega) only [eqs, evs, stp, stepW, wantA, opStep, kindOf, headStep, skipStep, stStep, wrStep, cpStep, stA, appA, readSl, isSl, copyA, kill, AV.refs, hd, hdLoad, hdBin, intBin, hdUn, hdConv, hdIdxAddr, hdIdx, hdSlice, bnd, hdCall, hdCallF, hdLen, hdMin, argsA, mapA, partsOk, partsF, lk, look, addR, evA, constA, HOut.ok, hty, hfs, tyAll, List.map, List.all, List.getElem?_cons_zero, List.getElem?_cons_succ, Option.bind_some, Option.map_some, Option.map_none, Option.getD_some, AV.pureA, Nat.reduceEqDiff, ↓reduceIte, reduceCtorEq, Nat.reduceLT, Nat.reduceLeDiff, Nat.reduceAdd, Nat.reduceMul, Int.reduceToNat, IntKind.bits, BEq.rfl, beq_self_eq_true, bne_self_eq_false, Int.reduceBEq, Int.reduceBNe, Int.reduceEq, Int.reduceNe, ne_eq, Int.reduceLT, Int.reduceLE, sFixed1, sWExp, sNOf, sNPlus, sNWord, sROf, sRMul, sRWord, w1, w2, v1, v2, v3, W_wl, D_dl, k1, b1, b2, b3, wv_wl (wv f ^ n.toNat), wv_wl (wv f ^ m.toNat), dl_mod, dlm, dv_dl (wv f ^ (n + m).toNat), wl_mod, e1, eqA_refl]; (repeat refine And.intro (by first | omega | assumption | (and_intros <;> first | omega | assumption) | fail) ?_); refine hK _ ?_; clear hK K)
    | (refine T_cond rfl (fun hc => ?_) (fun hc => ?_) <;> (try simp only [cnds, reduceCtorEq] at hc) <;> (try (first | (exact hc.elim) | (exfalso; omega))))
  refine hQ _ ?_
  simp (disch := omega) only [resOk, res1, retOk, eqs, lk, look, AV.pureA, kill, AV.refs, hty, tyAll, Nat.reduceEqDiff, ↓reduceIte, reduceCtorEq, Nat.reduceLT, Nat.reduceLeDiff, Nat.reduceAdd, Nat.reduceMul, Int.reduceToNat, ne_eq, sLawQ2]

end Go.Proofs.Ytijoifajbmhgdaa.Sym
