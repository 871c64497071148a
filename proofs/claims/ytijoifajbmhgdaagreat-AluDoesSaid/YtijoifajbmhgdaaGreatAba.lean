/- The word that an instruction puts. -/
import Derived.Test.YtijoifajbmhgdaaGreatAb
namespace Go.Proofs.YtijoifajbmhgdaaGreat.Sym
set_option linter.unusedVariables false
open Go Go.RowKit Num
set_option maxRecDepth 10000
set_option linter.unusedSimpArgs false

def sDo : List AV → SOut
  | [.int .u8 op, .arr .u64 4 f, .arr .u64 4 g, .arr .u64 4 h] => ⟨(0 ≤ op ∧ op < 256) ∧ W f ∧ W g ∧ W h, .pair (.arr .u64 4 (wl (doV op (wv f) (wv g) (wv h)))) (.bool (doOk op))⟩
  | _ => ⟨False, .und⟩
set_option maxHeartbeats 8000000 in
theorem c_Do : Contract Tryz.prog 4 sDo := by
  refine fun_ok [(9, sMod3 (· + ·)), (10, sMod3 (· * ·)), (11, sArith), (12, sLogic), (29, sB (· + ·)), (30, sB (· * ·)), (31, sB (· - ·)), (32, sB (· / ·)), (33, sB sdQ), (34, sB nr), (35, sB sdR), (36, sB (fun a b => a ^ b.toNat)), (37, sB extV), (38, sB (fun a b => bI (decide (a < b)))), (39, sB (fun a b => bI (decide (b < a)))), (40, sB (fun a b => bI (decide (sv a < sv b)))), (41, sB (fun a b => bI (decide (sv b < sv a)))), (42, sB (fun a b => bI (decide (a = b)))), (43, sB (fun a b => bI (decide (a = 0)))), (44, sB (lgc (· &&& ·))), (45, sB (lgc (· ||| ·))), (46, sB (lgc (· ^^^ ·))), (47, sB (fun a b => -1 - a)), (48, sB byV), (49, sB shlV), (50, sB shrV), (51, sB srV)] ⟨c_AddMod, c_MulMod, c_arith, c_logic, c_m_add, c_m_mul, c_m_sub, c_m_div, c_m_sdiv, c_m_mod, c_m_smod, c_m_exp, c_m_extend, c_m_lt, c_m_gt, c_m_slt, c_m_sgt, c_m_eq, c_m_iszero, c_m_and, c_m_or, c_m_xor, c_m_not, c_m_byte, c_m_shl, c_m_shr, c_m_sar, trivial⟩ Tryz.func4 rfl (by kernel_rfl) Tryz.ntmps4 Tryz.results4 (fun E hE hty hfs xs hp => ?_)
  unfold sDo at hp
  split at hp
  case h_2 => exact hp.elim
  rename_i op f g h
  obtain ⟨⟨o0, o1⟩, hf, hg, hh⟩ := hp
  have hp : True := trivial
  refine ⟨by simp, fun Q hQ => ?_⟩
  simp only [params, Nat.reduceAdd]
  by_cases h30 : op ≤ 29
  · rcases op_cases o0 h30 with rfl | rfl | rfl | rfl | rfl | rfl | rfl | rfl | rfl | rfl | rfl | rfl | rfl | rfl | rfl | rfl | rfl | rfl | rfl | rfl | rfl | rfl | rfl | rfl | rfl | rfl | rfl | rfl | rfl | rfl
    all_goals
      repeat' first
        | refine T_seq' ?_
        | refine T_block ?_
        | refine n_then ?_
        | refine x_then ?_
        | refine r_then ?_
        | refine n_block ?_
        | refine r_block ?_
        | refine x_block ?_
        | refine x_block' (by rfl) ?_
        | refine T_exit ?_
        | refine T_skip ?_
        | refine T_ret ?_
        | ((first | refine T_region hE (by rfl) (fun K hK => ?_) | refine T_draw hE (by rfl) (by kernel_rfl) (fun K hK => ?_)); simp (disch := omega) only [eqs, evs, stp, stepW, wantA, opStep, kindOf, headStep, skipStep, stStep, wrStep, cpStep, stA, appA, readSl, isSl, copyA, kill, AV.refs, hd, hdLoad, hdBin, intBin, hdUn, hdConv, hdIdxAddr, hdIdx, hdSlice, bnd, hdCall, hdCallF, hdLen, hdMin, argsA, mapA, partsOk, partsF, lk, look, addR, evA, constA, HOut.ok, hty, hfs, tyAll, List.map, List.all, List.getElem?_cons_zero, List.getElem?_cons_succ, Option.bind_some, Option.map_some, Option.map_none, Option.getD_some, AV.pureA, Nat.reduceEqDiff, ↓reduceIte, reduceCtorEq, Nat.reduceLT, Nat.reduceLeDiff, Nat.reduceAdd, Nat.reduceMul, Int.reduceToNat, IntKind.bits, BEq.rfl, beq_self_eq_true, bne_self_eq_false, Int.reduceBEq, Int.reduceBNe, Int.reduceEq, Int.reduceNe, ne_eq, Int.reduceLT, Int.reduceLE, sMod3, sArith, arithA, sLogic, logicA, sB]; (repeat refine And.intro (by first | omega | assumption | (and_intros <;> first | omega | assumption) | fail) ?_); refine hK _ ?_; clear hK K)
        | (refine T_cond rfl (fun hc => ?_) (fun hc => ?_) <;> (try simp only [cnds, reduceCtorEq] at hc) <;> (try (first | (exact hc.elim) | (exfalso; omega))))
      refine hQ _ ?_
      simp (disch := omega) only [resOk, res1, retOk, eqs, lk, look, AV.pureA, kill, AV.refs, hty, tyAll, Nat.reduceEqDiff, ↓reduceIte, reduceCtorEq, Nat.reduceLT, Nat.reduceLeDiff, Nat.reduceAdd, Nat.reduceMul, Int.reduceToNat, ne_eq, sDo]
      first | exact ⟨fun _ _ => rfl, rfl⟩ | (refine ⟨fun j _ => ?_, rfl⟩; exact (congrFun wl_zero j).symm)
  · have e1 := arith_none (op := op) (by omega)
    have e2 := logic_none (op := op) (by omega)
    have e3 := doV_none (op := op) (a := wv f) (b := wv g) (c := wv h) (by omega)
    have e4 := ok_none (op := op) (by omega)
    repeat' first
      | refine T_seq' ?_
      | refine T_block ?_
      | refine n_then ?_
      | refine x_then ?_
      | refine r_then ?_
      | refine n_block ?_
      | refine r_block ?_
      | refine x_block ?_
      | refine x_block' (by rfl) ?_
      | refine T_exit ?_
      | refine T_skip ?_
      | refine T_ret ?_
      | ((first | refine T_region hE (by rfl) (fun K hK => ?_) | refine T_draw hE (by rfl) (by kernel_rfl) (fun K hK => ?_)); simp (disch := omega) only [eqs, evs, stp, stepW, wantA, opStep, kindOf, headStep, skipStep, stStep, wrStep, cpStep, stA, appA, readSl, isSl, copyA, kill, AV.refs, hd, hdLoad, hdBin, intBin, hdUn, hdConv, hdIdxAddr, hdIdx, hdSlice, bnd, hdCall, hdCallF, hdLen, hdMin, argsA, mapA, partsOk, partsF, lk, look, addR, evA, constA, HOut.ok, hty, hfs, tyAll, List.map, List.all, List.getElem?_cons_zero, List.getElem?_cons_succ, Option.bind_some, Option.map_some, Option.map_none, Option.getD_some, AV.pureA, Nat.reduceEqDiff, ↓reduceIte, reduceCtorEq, Nat.reduceLT, Nat.reduceLeDiff, Nat.reduceAdd, Nat.reduceMul, Int.reduceToNat, IntKind.bits, BEq.rfl, beq_self_eq_true, bne_self_eq_false, Int.reduceBEq, Int.reduceBNe, Int.reduceEq, Int.reduceNe, ne_eq, Int.reduceLT, Int.reduceLE, sArith, e1, sLogic, e2]; (repeat refine And.intro (by first | omega | assumption | (and_intros <;> first | omega | assumption) | fail) ?_); refine hK _ ?_; clear hK K)
      | (refine T_cond rfl (fun hc => ?_) (fun hc => ?_) <;> (try simp only [cnds, reduceCtorEq] at hc) <;> (try (first | (exact hc.elim) | (exfalso; omega))))
    refine hQ _ ?_
    simp (disch := omega) only [resOk, res1, retOk, eqs, lk, look, AV.pureA, kill, AV.refs, hty, tyAll, Nat.reduceEqDiff, ↓reduceIte, reduceCtorEq, Nat.reduceLT, Nat.reduceLeDiff, Nat.reduceAdd, Nat.reduceMul, Int.reduceToNat, ne_eq, sDo, e3, e4, wl_zero, implies_true]

end Go.Proofs.YtijoifajbmhgdaaGreat.Sym
