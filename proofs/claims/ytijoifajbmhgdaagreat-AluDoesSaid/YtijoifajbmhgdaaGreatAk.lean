/- The document's instructions: the last; all of them; the law on instructions. -/
import Derived.Test.YtijoifajbmhgdaaGreatAj
namespace Go.Proofs.YtijoifajbmhgdaaGreat.Sym
set_option linter.unusedVariables false
open Go Go.RowKit Num
set_option maxRecDepth 10000
set_option linter.unusedSimpArgs false

theorem op_26_29 {op : Int} (h0 : 26 ≤ op) (h1 : op ≤ 29) : op = 26 ∨ op = 27 ∨ op = 28 ∨ op = 29 := by omega
set_option maxHeartbeats 8000000 in
theorem c_RDo3 : Contract Tryz.prog 5 (fun ys => ⟨(sDo ys).pre ∧ opGt ys, (sDo ys).v⟩) := by
  refine fun_ok [(8, sTakes), (13, sRLow), (14, sROf), (15, sRNeg), (17, sRCompare), (16, sTruth), (18, sSLess), (19, sDZero), (20, sRLogic), (21, sRWord), (22, sBy), (23, sRShift), (24, sRSar)] ⟨c_RTakes, c_low, c_ROf, c_RNeg, c_RCompare, c_Rtruth, c_RSLess, c_DZero, c_RLogic, c_RWord, c_by, c_RShift, c_RSar, trivial⟩ Tryz.func5 rfl (by kernel_rfl) Tryz.ntmps5 Tryz.results5 (fun E hE hty hfs xs hp => ?_)
  obtain ⟨hp, hcond⟩ := hp
  unfold sDo at hp
  split at hp
  case h_2 => exact hp.elim
  rename_i op f g h
  obtain ⟨⟨o0, o1⟩, hf, hg, hh⟩ := hp
  have hp : True := trivial
  simp only [opLe, opBet, opGt] at hcond
  have fb := wv_bd hf
  have gb := wv_bd hg
  have d1 := dvdl hf
  have d2 := dvdl hg
  have hM1 : 1 < M := by decide
  have dO : dv (dl (-dv (dl 1))) = M - 1 := by rw [dv_dl, dv_dl]; decide
  have hneg : -(1 % M) % M = M - 1 := by decide
  have eV := eqA_val hf hg
  refine ⟨by simp, fun Q hQ => ?_⟩
  simp only [params, Nat.reduceAdd]
  have hm0 : 0 ≤ min (wv f) 256 := by omega
  have hm1 : min (wv f) 256 ≤ 256 := by omega
  have e27 : wl (shI (wv g) (min (wv f) 256)) = wl (shlV (wv f) (wv g)) := by
    unfold shI shlV
    rw [if_pos hm0]
  have e28 : wl (shI (wv g) (0 - min (wv f) 256)) = wl (shrV (wv f) (wv g)) := by
    unfold shI shrV
    by_cases hz : min (wv f) 256 = 0
    · rw [hz]; simp
    · rw [if_neg (by omega)]; congr 3; omega
  by_cases h30 : op ≤ 29
  · rcases op_26_29 hcond h30 with rfl | rfl | rfl | rfl
    · by_cases h32 : wv f < 32
      · have c26 : ¬ 31 < min (wv f) 256 := by omega
        have e26 : (31 - min (wv f) 256).toNat = 31 - (wv f).toNat := by omega
        have db := dl_bd (wv g) (31 - (wv f).toNat)
        have w26 := one_wl (x := dl (wv g) (31 - (wv f).toNat)) db.1 (by omega)
        have fin : doV 26 (wv f) (wv g) (wv h) = dl (wv g) (31 - (wv f).toNat) := by
          show byV (wv f) (wv g) = _
          unfold byV; rw [if_pos h32]
        repeat' first
          | refine T_seq' ?_
          | refine T_block ?_
          | refine n_then ?_
          | refine x_then ?_
          | refine r_then ?_
          | refine n_block ?_
          | refine r_block ?_
          | refine x_block ?_
          | refine x_block' (by rfl) ?_
          | refine T_exit ?_
          | refine T_skip ?_
          | refine T_ret ?_
          | ((first | refine T_region hE (by rfl) (fun K hK => ?_) | refine T_draw hE (by rfl) (by kernel_rfl) (fun K hK => ?_)); simp (disch := omega) only [eqs, evs, stp, stepW, wantA, opStep, kindOf, headStep, skipStep, stStep, wrStep, cpStep, stA, appA, readSl, isSl, copyA, kill, AV.refs, hd, hdLoad, hdBin, intBin, hdUn, hdConv, hdIdxAddr, hdIdx, hdSlice, bnd, hdCall, hdCallF, hdLen, hdMin, argsA, mapA, partsOk, partsF, lk, look, addR, evA, constA, HOut.ok, hty, hfs, tyAll, List.map, List.all, List.getElem?_cons_zero, List.getElem?_cons_succ, Option.bind_some, Option.map_some, Option.map_none, Option.getD_some, AV.pureA, Nat.reduceEqDiff, ↓reduceIte, reduceCtorEq, Nat.reduceLT, Nat.reduceLeDiff, Nat.reduceAdd, Nat.reduceMul, Int.reduceToNat, IntKind.bits, BEq.rfl, beq_self_eq_true, bne_self_eq_false, Int.reduceBEq, Int.reduceBNe, Int.reduceEq, Int.reduceNe, ne_eq, Int.reduceLT, Int.reduceLE, sTakes, takesV, sROf, one_dl, sRNeg, D_dl, sBy, c26, e26, w26]; (repeat refine And.intro (by first | omega | assumption | (and_intros <;> first | omega | assumption) | fail) ?_); refine hK _ ?_; clear hK K)
          | (refine T_cond rfl (fun hc => ?_) (fun hc => ?_) <;> (try simp only [cnds, reduceCtorEq] at hc) <;> (try (first | (exact hc.elim) | (exfalso; omega))))
        refine hQ _ ?_
        simp (disch := omega) only [resOk, res1, retOk, eqs, lk, look, AV.pureA, kill, AV.refs, hty, tyAll, Nat.reduceEqDiff, ↓reduceIte, reduceCtorEq, Nat.reduceLT, Nat.reduceLeDiff, Nat.reduceAdd, Nat.reduceMul, Int.reduceToNat, ne_eq, sDo, fin, implies_true]
        rfl
      · have c26 : 31 < min (wv f) 256 := by omega
        have fin : doV 26 (wv f) (wv g) (wv h) = 0 := by
          show byV (wv f) (wv g) = _
          unfold byV; rw [if_neg h32]
        repeat' first
          | refine T_seq' ?_
          | refine T_block ?_
          | refine n_then ?_
          | refine x_then ?_
          | refine r_then ?_
          | refine n_block ?_
          | refine r_block ?_
          | refine x_block ?_
          | refine x_block' (by rfl) ?_
          | refine T_exit ?_
          | refine T_skip ?_
          | refine T_ret ?_
          | ((first | refine T_region hE (by rfl) (fun K hK => ?_) | refine T_draw hE (by rfl) (by kernel_rfl) (fun K hK => ?_)); simp (disch := omega) only [eqs, evs, stp, stepW, wantA, opStep, kindOf, headStep, skipStep, stStep, wrStep, cpStep, stA, appA, readSl, isSl, copyA, kill, AV.refs, hd, hdLoad, hdBin, intBin, hdUn, hdConv, hdIdxAddr, hdIdx, hdSlice, bnd, hdCall, hdCallF, hdLen, hdMin, argsA, mapA, partsOk, partsF, lk, look, addR, evA, constA, HOut.ok, hty, hfs, tyAll, List.map, List.all, List.getElem?_cons_zero, List.getElem?_cons_succ, Option.bind_some, Option.map_some, Option.map_none, Option.getD_some, AV.pureA, Nat.reduceEqDiff, ↓reduceIte, reduceCtorEq, Nat.reduceLT, Nat.reduceLeDiff, Nat.reduceAdd, Nat.reduceMul, Int.reduceToNat, IntKind.bits, BEq.rfl, beq_self_eq_true, bne_self_eq_false, Int.reduceBEq, Int.reduceBNe, Int.reduceEq, Int.reduceNe, ne_eq, Int.reduceLT, Int.reduceLE, sTakes, takesV, sROf, one_dl, sRNeg, D_dl, sBy, c26]; (repeat refine And.intro (by first | omega | assumption | (and_intros <;> first | omega | assumption) | fail) ?_); refine hK _ ?_; clear hK K)
          | (refine T_cond rfl (fun hc => ?_) (fun hc => ?_) <;> (try simp only [cnds, reduceCtorEq] at hc) <;> (try (first | (exact hc.elim) | (exfalso; omega))))
        refine hQ _ ?_
        simp (disch := omega) only [resOk, res1, retOk, eqs, lk, look, AV.pureA, kill, AV.refs, hty, tyAll, Nat.reduceEqDiff, ↓reduceIte, reduceCtorEq, Nat.reduceLT, Nat.reduceLeDiff, Nat.reduceAdd, Nat.reduceMul, Int.reduceToNat, ne_eq, sDo, fin, wl_zero, implies_true]
        rfl
    · repeat' first
        | refine T_seq' ?_
        | refine T_block ?_
        | refine n_then ?_
        | refine x_then ?_
        | refine r_then ?_
        | refine n_block ?_
        | refine r_block ?_
        | refine x_block ?_
        | refine x_block' (by rfl) ?_
        | refine T_exit ?_
        | refine T_skip ?_
        | refine T_ret ?_
        | (refine T_region hE (by rfl) (fun K hK => ?_); simp (disch := omega) only [eqs, evs, stp, stepW, wantA, opStep, kindOf, headStep, skipStep, stStep, wrStep, cpStep, stA, appA, readSl, isSl, copyA, kill, AV.refs, hd, hdLoad, hdBin, intBin, hdUn, hdConv, hdIdxAddr, hdIdx, hdSlice, bnd, hdCall, hdCallF, hdLen, hdMin, argsA, mapA, partsOk, partsF, lk, look, addR, evA, constA, HOut.ok, hty, hfs, tyAll, List.map, List.all, List.getElem?_cons_zero, List.getElem?_cons_succ, Option.bind_some, Option.map_some, Option.map_none, Option.getD_some, AV.pureA, Nat.reduceEqDiff, ↓reduceIte, reduceCtorEq, Nat.reduceLT, Nat.reduceLeDiff, Nat.reduceAdd, Nat.reduceMul, Int.reduceToNat, IntKind.bits, BEq.rfl, beq_self_eq_true, bne_self_eq_false, Int.reduceBEq, Int.reduceBNe, Int.reduceEq, Int.reduceNe, ne_eq, Int.reduceLT, Int.reduceLE, sTakes, takesV, sROf, one_dl, sRNeg, D_dl]; (repeat refine And.intro (by first | omega | assumption | (and_intros <;> first | omega | assumption) | fail) ?_); refine hK _ ?_; clear hK K)
        | (refine T_cond rfl (fun hc => ?_) (fun hc => ?_) <;> (try simp only [cnds, reduceCtorEq] at hc) <;> (try (first | (exact hc.elim) | (exfalso; omega))))
      refine T_drawS 5 [] hE (by rfl) (by kernel_rfl) (by rfl) (fun K hK => ?_)
      simp (disch := omega) only [sw, disj, noSh, eqs, evs, stp, stepW, wantA, opStep, kindOf, headStep, skipStep, stStep, wrStep, cpStep, stA, appA, readSl, isSl, copyA, kill, AV.refs, hd, hdLoad, hdBin, intBin, hdUn, hdConv, hdIdxAddr, hdIdx, hdSlice, bnd, hdCall, hdCallF, hdLen, hdMin, argsA, mapA, partsOk, partsF, lk, look, addR, evA, constA, HOut.ok, hty, hfs, tyAll, List.map, List.all, List.getElem?_cons_zero, List.getElem?_cons_succ, Option.bind_some, Option.map_some, Option.map_none, Option.getD_some, AV.pureA, Nat.reduceEqDiff, ↓reduceIte, reduceCtorEq, Nat.reduceLT, Nat.reduceLeDiff, Nat.reduceAdd, Nat.reduceMul, Int.reduceToNat, IntKind.bits, BEq.rfl, beq_self_eq_true, bne_self_eq_false, Int.reduceBEq, Int.reduceBNe, Int.reduceEq, Int.reduceNe, ne_eq, Int.reduceLT, Int.reduceLE, sBy, sRShift, sRSar, D_dl, d2, sRWord, dv_dl, wl_mod, e27]
      (repeat refine And.intro (by first | omega | assumption | (and_intros <;> first | omega | assumption) | fail) ?_); refine hK _ (by simp only [disj, noSh, lk, AV.pureA, Bool.and_self, true_and, ne_eq, Nat.reduceEqDiff, not_false_eq_true, ↓reduceIte, and_self]) ?_
      clear hK K
      repeat' first
        | refine T_seq' ?_
        | refine T_block ?_
        | refine n_then ?_
        | refine x_then ?_
        | refine r_then ?_
        | refine n_block ?_
        | refine r_block ?_
        | refine x_block ?_
        | refine x_block' (by rfl) ?_
        | refine T_exit ?_
        | refine T_skip ?_
        | refine T_ret ?_
        | (refine T_region hE (by rfl) (fun K hK => ?_); simp (disch := omega) only [eqs, evs, stp, stepW, wantA, opStep, kindOf, headStep, skipStep, stStep, wrStep, cpStep, stA, appA, readSl, isSl, copyA, kill, AV.refs, hd, hdLoad, hdBin, intBin, hdUn, hdConv, hdIdxAddr, hdIdx, hdSlice, bnd, hdCall, hdCallF, hdLen, hdMin, argsA, mapA, partsOk, partsF, lk, look, addR, evA, constA, HOut.ok, hty, hfs, tyAll, List.map, List.all, List.getElem?_cons_zero, List.getElem?_cons_succ, Option.bind_some, Option.map_some, Option.map_none, Option.getD_some, AV.pureA, Nat.reduceEqDiff, ↓reduceIte, reduceCtorEq, Nat.reduceLT, Nat.reduceLeDiff, Nat.reduceAdd, Nat.reduceMul, Int.reduceToNat, IntKind.bits, BEq.rfl, beq_self_eq_true, bne_self_eq_false, Int.reduceBEq, Int.reduceBNe, Int.reduceEq, Int.reduceNe, ne_eq, Int.reduceLT, Int.reduceLE]; (repeat refine And.intro (by first | omega | assumption | (and_intros <;> first | omega | assumption) | fail) ?_); refine hK _ ?_; clear hK K)
        | (refine T_cond rfl (fun hc => ?_) (fun hc => ?_) <;> (try simp only [cnds, reduceCtorEq] at hc) <;> (try (first | (exact hc.elim) | (exfalso; omega))))
      refine hQ _ ?_
      simp (disch := omega) only [resOk, res1, retOk, eqs, lk, look, AV.pureA, kill, AV.refs, hty, tyAll, Nat.reduceEqDiff, ↓reduceIte, reduceCtorEq, Nat.reduceLT, Nat.reduceLeDiff, Nat.reduceAdd, Nat.reduceMul, Int.reduceToNat, ne_eq, sDo]
      first | rfl | exact ⟨fun _ _ => rfl, rfl⟩ | exact ⟨fun _ _ => trivial, rfl⟩
    · repeat' first
        | refine T_seq' ?_
        | refine T_block ?_
        | refine n_then ?_
        | refine x_then ?_
        | refine r_then ?_
        | refine n_block ?_
        | refine r_block ?_
        | refine x_block ?_
        | refine x_block' (by rfl) ?_
        | refine T_exit ?_
        | refine T_skip ?_
        | refine T_ret ?_
        | (refine T_region hE (by rfl) (fun K hK => ?_); simp (disch := omega) only [eqs, evs, stp, stepW, wantA, opStep, kindOf, headStep, skipStep, stStep, wrStep, cpStep, stA, appA, readSl, isSl, copyA, kill, AV.refs, hd, hdLoad, hdBin, intBin, hdUn, hdConv, hdIdxAddr, hdIdx, hdSlice, bnd, hdCall, hdCallF, hdLen, hdMin, argsA, mapA, partsOk, partsF, lk, look, addR, evA, constA, HOut.ok, hty, hfs, tyAll, List.map, List.all, List.getElem?_cons_zero, List.getElem?_cons_succ, Option.bind_some, Option.map_some, Option.map_none, Option.getD_some, AV.pureA, Nat.reduceEqDiff, ↓reduceIte, reduceCtorEq, Nat.reduceLT, Nat.reduceLeDiff, Nat.reduceAdd, Nat.reduceMul, Int.reduceToNat, IntKind.bits, BEq.rfl, beq_self_eq_true, bne_self_eq_false, Int.reduceBEq, Int.reduceBNe, Int.reduceEq, Int.reduceNe, ne_eq, Int.reduceLT, Int.reduceLE, sTakes, takesV, sROf, one_dl, sRNeg, D_dl]; (repeat refine And.intro (by first | omega | assumption | (and_intros <;> first | omega | assumption) | fail) ?_); refine hK _ ?_; clear hK K)
        | (refine T_cond rfl (fun hc => ?_) (fun hc => ?_) <;> (try simp only [cnds, reduceCtorEq] at hc) <;> (try (first | (exact hc.elim) | (exfalso; omega))))
      refine T_drawS 6 [] hE (by rfl) (by kernel_rfl) (by rfl) (fun K hK => ?_)
      simp (disch := omega) only [sw, disj, noSh, eqs, evs, stp, stepW, wantA, opStep, kindOf, headStep, skipStep, stStep, wrStep, cpStep, stA, appA, readSl, isSl, copyA, kill, AV.refs, hd, hdLoad, hdBin, intBin, hdUn, hdConv, hdIdxAddr, hdIdx, hdSlice, bnd, hdCall, hdCallF, hdLen, hdMin, argsA, mapA, partsOk, partsF, lk, look, addR, evA, constA, HOut.ok, hty, hfs, tyAll, List.map, List.all, List.getElem?_cons_zero, List.getElem?_cons_succ, Option.bind_some, Option.map_some, Option.map_none, Option.getD_some, AV.pureA, Nat.reduceEqDiff, ↓reduceIte, reduceCtorEq, Nat.reduceLT, Nat.reduceLeDiff, Nat.reduceAdd, Nat.reduceMul, Int.reduceToNat, IntKind.bits, BEq.rfl, beq_self_eq_true, bne_self_eq_false, Int.reduceBEq, Int.reduceBNe, Int.reduceEq, Int.reduceNe, ne_eq, Int.reduceLT, Int.reduceLE, sBy, sRShift, sRSar, D_dl, d2, sRWord, dv_dl, wl_mod, e28]
      (repeat refine And.intro (by first | omega | assumption | (and_intros <;> first | omega | assumption) | fail) ?_); refine hK _ (by simp only [disj, noSh, lk, AV.pureA, Bool.and_self, true_and, ne_eq, Nat.reduceEqDiff, not_false_eq_true, ↓reduceIte, and_self]) ?_
      clear hK K
      repeat' first
        | refine T_seq' ?_
        | refine T_block ?_
        | refine n_then ?_
        | refine x_then ?_
        | refine r_then ?_
        | refine n_block ?_
        | refine r_block ?_
        | refine x_block ?_
        | refine x_block' (by rfl) ?_
        | refine T_exit ?_
        | refine T_skip ?_
        | refine T_ret ?_
        | (refine T_region hE (by rfl) (fun K hK => ?_); simp (disch := omega) only [eqs, evs, stp, stepW, wantA, opStep, kindOf, headStep, skipStep, stStep, wrStep, cpStep, stA, appA, readSl, isSl, copyA, kill, AV.refs, hd, hdLoad, hdBin, intBin, hdUn, hdConv, hdIdxAddr, hdIdx, hdSlice, bnd, hdCall, hdCallF, hdLen, hdMin, argsA, mapA, partsOk, partsF, lk, look, addR, evA, constA, HOut.ok, hty, hfs, tyAll, List.map, List.all, List.getElem?_cons_zero, List.getElem?_cons_succ, Option.bind_some, Option.map_some, Option.map_none, Option.getD_some, AV.pureA, Nat.reduceEqDiff, ↓reduceIte, reduceCtorEq, Nat.reduceLT, Nat.reduceLeDiff, Nat.reduceAdd, Nat.reduceMul, Int.reduceToNat, IntKind.bits, BEq.rfl, beq_self_eq_true, bne_self_eq_false, Int.reduceBEq, Int.reduceBNe, Int.reduceEq, Int.reduceNe, ne_eq, Int.reduceLT, Int.reduceLE]; (repeat refine And.intro (by first | omega | assumption | (and_intros <;> first | omega | assumption) | fail) ?_); refine hK _ ?_; clear hK K)
        | (refine T_cond rfl (fun hc => ?_) (fun hc => ?_) <;> (try simp only [cnds, reduceCtorEq] at hc) <;> (try (first | (exact hc.elim) | (exfalso; omega))))
      refine hQ _ ?_
      simp (disch := omega) only [resOk, res1, retOk, eqs, lk, look, AV.pureA, kill, AV.refs, hty, tyAll, Nat.reduceEqDiff, ↓reduceIte, reduceCtorEq, Nat.reduceLT, Nat.reduceLeDiff, Nat.reduceAdd, Nat.reduceMul, Int.reduceToNat, ne_eq, sDo]
      first | rfl | exact ⟨fun _ _ => rfl, rfl⟩ | exact ⟨fun _ _ => trivial, rfl⟩
    · repeat' first
        | refine T_seq' ?_
        | refine T_block ?_
        | refine n_then ?_
        | refine x_then ?_
        | refine r_then ?_
        | refine n_block ?_
        | refine r_block ?_
        | refine x_block ?_
        | refine x_block' (by rfl) ?_
        | refine T_exit ?_
        | refine T_skip ?_
        | refine T_ret ?_
        | (refine T_region hE (by rfl) (fun K hK => ?_); simp (disch := omega) only [eqs, evs, stp, stepW, wantA, opStep, kindOf, headStep, skipStep, stStep, wrStep, cpStep, stA, appA, readSl, isSl, copyA, kill, AV.refs, hd, hdLoad, hdBin, intBin, hdUn, hdConv, hdIdxAddr, hdIdx, hdSlice, bnd, hdCall, hdCallF, hdLen, hdMin, argsA, mapA, partsOk, partsF, lk, look, addR, evA, constA, HOut.ok, hty, hfs, tyAll, List.map, List.all, List.getElem?_cons_zero, List.getElem?_cons_succ, Option.bind_some, Option.map_some, Option.map_none, Option.getD_some, AV.pureA, Nat.reduceEqDiff, ↓reduceIte, reduceCtorEq, Nat.reduceLT, Nat.reduceLeDiff, Nat.reduceAdd, Nat.reduceMul, Int.reduceToNat, IntKind.bits, BEq.rfl, beq_self_eq_true, bne_self_eq_false, Int.reduceBEq, Int.reduceBNe, Int.reduceEq, Int.reduceNe, ne_eq, Int.reduceLT, Int.reduceLE, sTakes, takesV, sROf, one_dl, sRNeg, D_dl]; (repeat refine And.intro (by first | omega | assumption | (and_intros <;> first | omega | assumption) | fail) ?_); refine hK _ ?_; clear hK K)
        | (refine T_cond rfl (fun hc => ?_) (fun hc => ?_) <;> (try simp only [cnds, reduceCtorEq] at hc) <;> (try (first | (exact hc.elim) | (exfalso; omega))))
      refine T_drawS 4 [] hE (by rfl) (by kernel_rfl) (by rfl) (fun K hK => ?_)
      simp (disch := omega) only [sw, disj, noSh, eqs, evs, stp, stepW, wantA, opStep, kindOf, headStep, skipStep, stStep, wrStep, cpStep, stA, appA, readSl, isSl, copyA, kill, AV.refs, hd, hdLoad, hdBin, intBin, hdUn, hdConv, hdIdxAddr, hdIdx, hdSlice, bnd, hdCall, hdCallF, hdLen, hdMin, argsA, mapA, partsOk, partsF, lk, look, addR, evA, constA, HOut.ok, hty, hfs, tyAll, List.map, List.all, List.getElem?_cons_zero, List.getElem?_cons_succ, Option.bind_some, Option.map_some, Option.map_none, Option.getD_some, AV.pureA, Nat.reduceEqDiff, ↓reduceIte, reduceCtorEq, Nat.reduceLT, Nat.reduceLeDiff, Nat.reduceAdd, Nat.reduceMul, Int.reduceToNat, IntKind.bits, BEq.rfl, beq_self_eq_true, bne_self_eq_false, Int.reduceBEq, Int.reduceBNe, Int.reduceEq, Int.reduceNe, ne_eq, Int.reduceLT, Int.reduceLE, sBy, sRShift, sRSar, D_dl, d2, sRWord, dv_dl, wl_mod]
      (repeat refine And.intro (by first | omega | assumption | (and_intros <;> first | omega | assumption) | fail) ?_); refine hK _ (by simp only [disj, noSh, lk, AV.pureA, Bool.and_self, true_and, ne_eq, Nat.reduceEqDiff, not_false_eq_true, ↓reduceIte, and_self]) ?_
      clear hK K
      repeat' first
        | refine T_seq' ?_
        | refine T_block ?_
        | refine n_then ?_
        | refine x_then ?_
        | refine r_then ?_
        | refine n_block ?_
        | refine r_block ?_
        | refine x_block ?_
        | refine x_block' (by rfl) ?_
        | refine T_exit ?_
        | refine T_skip ?_
        | refine T_ret ?_
        | (refine T_region hE (by rfl) (fun K hK => ?_); simp (disch := omega) only [eqs, evs, stp, stepW, wantA, opStep, kindOf, headStep, skipStep, stStep, wrStep, cpStep, stA, appA, readSl, isSl, copyA, kill, AV.refs, hd, hdLoad, hdBin, intBin, hdUn, hdConv, hdIdxAddr, hdIdx, hdSlice, bnd, hdCall, hdCallF, hdLen, hdMin, argsA, mapA, partsOk, partsF, lk, look, addR, evA, constA, HOut.ok, hty, hfs, tyAll, List.map, List.all, List.getElem?_cons_zero, List.getElem?_cons_succ, Option.bind_some, Option.map_some, Option.map_none, Option.getD_some, AV.pureA, Nat.reduceEqDiff, ↓reduceIte, reduceCtorEq, Nat.reduceLT, Nat.reduceLeDiff, Nat.reduceAdd, Nat.reduceMul, Int.reduceToNat, IntKind.bits, BEq.rfl, beq_self_eq_true, bne_self_eq_false, Int.reduceBEq, Int.reduceBNe, Int.reduceEq, Int.reduceNe, ne_eq, Int.reduceLT, Int.reduceLE]; (repeat refine And.intro (by first | omega | assumption | (and_intros <;> first | omega | assumption) | fail) ?_); refine hK _ ?_; clear hK K)
        | (refine T_cond rfl (fun hc => ?_) (fun hc => ?_) <;> (try simp only [cnds, reduceCtorEq] at hc) <;> (try (first | (exact hc.elim) | (exfalso; omega))))
      refine hQ _ ?_
      simp (disch := omega) only [resOk, res1, retOk, eqs, lk, look, AV.pureA, kill, AV.refs, hty, tyAll, Nat.reduceEqDiff, ↓reduceIte, reduceCtorEq, Nat.reduceLT, Nat.reduceLeDiff, Nat.reduceAdd, Nat.reduceMul, Int.reduceToNat, ne_eq, sDo]
      first | rfl | exact ⟨fun _ _ => rfl, rfl⟩ | exact ⟨fun _ _ => trivial, rfl⟩
  · have e1 := takes_none (op := op) (by omega)
    have e3 := doV_none (op := op) (a := wv f) (b := wv g) (c := wv h) (by omega)
    have e4 := ok_none (op := op) (by omega)
    repeat' first
      | refine T_seq' ?_
      | refine T_block ?_
      | refine n_then ?_
      | refine x_then ?_
      | refine r_then ?_
      | refine n_block ?_
      | refine r_block ?_
      | refine x_block ?_
      | refine x_block' (by rfl) ?_
      | refine T_exit ?_
      | refine T_skip ?_
      | refine T_ret ?_
      | ((first | refine T_region hE (by rfl) (fun K hK => ?_) | refine T_draw hE (by rfl) (by kernel_rfl) (fun K hK => ?_)); simp (disch := omega) only [eqs, evs, stp, stepW, wantA, opStep, kindOf, headStep, skipStep, stStep, wrStep, cpStep, stA, appA, readSl, isSl, copyA, kill, AV.refs, hd, hdLoad, hdBin, intBin, hdUn, hdConv, hdIdxAddr, hdIdx, hdSlice, bnd, hdCall, hdCallF, hdLen, hdMin, argsA, mapA, partsOk, partsF, lk, look, addR, evA, constA, HOut.ok, hty, hfs, tyAll, List.map, List.all, List.getElem?_cons_zero, List.getElem?_cons_succ, Option.bind_some, Option.map_some, Option.map_none, Option.getD_some, AV.pureA, Nat.reduceEqDiff, ↓reduceIte, reduceCtorEq, Nat.reduceLT, Nat.reduceLeDiff, Nat.reduceAdd, Nat.reduceMul, Int.reduceToNat, IntKind.bits, BEq.rfl, beq_self_eq_true, bne_self_eq_false, Int.reduceBEq, Int.reduceBNe, Int.reduceEq, Int.reduceNe, ne_eq, Int.reduceLT, Int.reduceLE, sTakes, e1]; (repeat refine And.intro (by first | omega | assumption | (and_intros <;> first | omega | assumption) | fail) ?_); refine hK _ ?_; clear hK K)
      | (refine T_cond rfl (fun hc => ?_) (fun hc => ?_) <;> (try simp only [cnds, reduceCtorEq] at hc) <;> (try (first | (exact hc.elim) | (exfalso; omega))))
    refine hQ _ ?_
    simp (disch := omega) only [resOk, res1, retOk, eqs, lk, look, AV.pureA, kill, AV.refs, hty, tyAll, Nat.reduceEqDiff, ↓reduceIte, reduceCtorEq, Nat.reduceLT, Nat.reduceLeDiff, Nat.reduceAdd, Nat.reduceMul, Int.reduceToNat, ne_eq, sDo, e3, e4, wl_zero, implies_true]


theorem c_RDo : Contract Tryz.prog 5 sDo := by
  refine contract_of3 (fun ys h => ?_) c_RDo1 c_RDo2 c_RDo3
  unfold sDo at h
  split at h
  case h_2 => exact h.elim
  rename_i op f g k
  simp only [opLe, opBet, opGt]
  omega

def sLawDoes : List AV → SOut
  | [.int .u8 op, .arr .u64 4 f, .arr .u64 4 g, .arr .u64 4 h] => ⟨(0 ≤ op ∧ op < 256) ∧ W f ∧ W g ∧ W h, .bool true⟩
  | _ => ⟨False, .und⟩
theorem c_AluDoes : Contract Tryz.prog 3 sLawDoes := by
  refine fun_ok [(4, sDo), (5, sDo), (6, sFixed1), (7, sTakes), (8, sTakes)] ⟨c_Do, c_RDo, c_fixed17, c_Takes, c_RTakes, trivial⟩ Tryz.func3 rfl (by kernel_rfl) Tryz.ntmps3 Tryz.results3 (fun E hE hty hfs xs hp => ?_)
  unfold sLawDoes at hp
  split at hp
  case h_2 => exact hp.elim
  rename_i op f g h
  obtain ⟨⟨o0, o1⟩, hf, hg, hh⟩ := hp
  refine ⟨by simp, fun Q hQ => ?_⟩
  simp only [params, Nat.reduceAdd]
  repeat' first
    | refine T_seq' ?_
    | refine T_block ?_
    | refine n_then ?_
    | refine x_then ?_
    | refine r_then ?_
    | refine n_block ?_
    | refine r_block ?_
    | refine x_block ?_
    | refine x_block' (by rfl) ?_
    | refine T_exit ?_
    | refine T_skip ?_
    | refine T_ret ?_
    | ((first | refine T_region hE (by rfl) (fun K hK => ?_) | refine T_draw hE (by rfl) (by kernel_rfl) (fun K hK => ?_)); simp (disch := omega) only [eqs, evs, stp, stepW, wantA, opStep, kindOf, headStep, skipStep, stStep, wrStep, cpStep, stA, appA, readSl, isSl, copyA, kill, AV.refs, hd, hdLoad, hdBin, intBin, hdUn, hdConv, hdIdxAddr, hdIdx, hdSlice, bnd, hdCall, hdCallF, hdLen, hdMin, argsA, mapA, partsOk, partsF, lk, look, addR, evA, constA, HOut.ok, hty, hfs, tyAll, List.map, List.all, List.getElem?_cons_zero, List.getElem?_cons_succ, Option.bind_some, Option.map_some, Option.map_none, Option.getD_some, AV.pureA, Nat.reduceEqDiff, ↓reduceIte, reduceCtorEq, Nat.reduceLT, Nat.reduceLeDiff, Nat.reduceAdd, Nat.reduceMul, Int.reduceToNat, IntKind.bits, BEq.rfl, beq_self_eq_true, bne_self_eq_false, Int.reduceBEq, Int.reduceBNe, Int.reduceEq, Int.reduceNe, ne_eq, Int.reduceLT, Int.reduceLE, sDo, sFixed1, sTakes, eqA_refl]; (repeat refine And.intro (by first | omega | assumption | (and_intros <;> first | omega | assumption) | fail) ?_); refine hK _ ?_; clear hK K)
    | (refine T_cond rfl (fun hc => ?_) (fun hc => ?_) <;> (try simp only [cnds, reduceCtorEq] at hc) <;> (try (first | (exact hc.elim) | (exfalso; omega))))
  refine hQ _ ?_
  simp (disch := omega) only [resOk, res1, retOk, eqs, lk, look, AV.pureA, kill, AV.refs, hty, tyAll, Nat.reduceEqDiff, ↓reduceIte, reduceCtorEq, Nat.reduceLT, Nat.reduceLeDiff, Nat.reduceAdd, Nat.reduceMul, Int.reduceToNat, ne_eq, sLawDoes]

end Go.Proofs.YtijoifajbmhgdaaGreat.Sym
