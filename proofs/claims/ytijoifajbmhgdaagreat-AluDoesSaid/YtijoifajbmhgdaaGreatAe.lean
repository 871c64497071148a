/- The document's instructions. -/
import Derived.Test.YtijoifajbmhgdaaGreatAb
namespace Go.Proofs.YtijoifajbmhgdaaGreat.Sym
set_option linter.unusedVariables false
open Go Go.RowKit Num
set_option maxRecDepth 10000
set_option linter.unusedSimpArgs false

theorem c_Rtruth : Contract Tryz.prog 16 sTruth := by
  refine fun_ok [] trivial Tryz.func16 rfl (by kernel_rfl) Tryz.ntmps16 Tryz.results16 (fun E hE hty hfs xs hp => ?_)
  unfold sTruth at hp
  split at hp
  case h_2 => exact hp.elim
  rename_i b
  have w1 := one_wl (x := 1) (by decide) (by decide)
  refine ⟨by simp, fun Q hQ => ?_⟩
  simp only [params, Nat.reduceAdd]
  cases b
  · repeat' first
      | refine T_seq' ?_
      | refine T_block ?_
      | refine n_then ?_
      | refine x_then ?_
      | refine r_then ?_
      | refine n_block ?_
      | refine r_block ?_
      | refine x_block ?_
      | refine x_block' (by rfl) ?_
      | refine T_exit ?_
      | refine T_skip ?_
      | refine T_ret ?_
      | ((first | refine T_region hE (by rfl) (fun K hK => ?_) | refine T_draw hE (by rfl) (by kernel_rfl) (fun K hK => ?_)); simp (disch := omega) only [eqs, evs, stp, stepW, wantA, opStep, kindOf, headStep, skipStep, stStep, wrStep, cpStep, stA, appA, readSl, isSl, copyA, kill, AV.refs, hd, hdLoad, hdBin, intBin, hdUn, hdConv, hdIdxAddr, hdIdx, hdSlice, bnd, hdCall, hdCallF, hdLen, hdMin, argsA, mapA, partsOk, partsF, lk, look, addR, evA, constA, HOut.ok, hty, hfs, tyAll, List.map, List.all, List.getElem?_cons_zero, List.getElem?_cons_succ, Option.bind_some, Option.map_some, Option.map_none, Option.getD_some, AV.pureA, Nat.reduceEqDiff, ↓reduceIte, reduceCtorEq, Nat.reduceLT, Nat.reduceLeDiff, Nat.reduceAdd, Nat.reduceMul, Int.reduceToNat, IntKind.bits, BEq.rfl, beq_self_eq_true, bne_self_eq_false, Int.reduceBEq, Int.reduceBNe, Int.reduceEq, Int.reduceNe, ne_eq, Int.reduceLT, Int.reduceLE]; (repeat refine And.intro (by first | omega | assumption | (and_intros <;> first | omega | assumption) | fail) ?_); refine hK _ ?_; clear hK K)
      | (refine T_cond rfl (fun hc => ?_) (fun hc => ?_) <;> (try simp only [cnds, reduceCtorEq] at hc) <;> (try (first | (exact hc.elim) | (exfalso; omega))))
    refine hQ _ ?_
    simp (disch := omega) only [resOk, res1, retOk, eqs, lk, look, AV.pureA, kill, AV.refs, hty, tyAll, Nat.reduceEqDiff, ↓reduceIte, reduceCtorEq, Nat.reduceLT, Nat.reduceLeDiff, Nat.reduceAdd, Nat.reduceMul, Int.reduceToNat, ne_eq, sTruth, bI, wl_zero, Bool.false_eq_true, if_false, implies_true]
  · repeat' first
      | refine T_seq' ?_
      | refine T_block ?_
      | refine n_then ?_
      | refine x_then ?_
      | refine r_then ?_
      | refine n_block ?_
      | refine r_block ?_
      | refine x_block ?_
      | refine x_block' (by rfl) ?_
      | refine T_exit ?_
      | refine T_skip ?_
      | refine T_ret ?_
      | ((first | refine T_region hE (by rfl) (fun K hK => ?_) | refine T_draw hE (by rfl) (by kernel_rfl) (fun K hK => ?_)); simp (disch := omega) only [eqs, evs, stp, stepW, wantA, opStep, kindOf, headStep, skipStep, stStep, wrStep, cpStep, stA, appA, readSl, isSl, copyA, kill, AV.refs, hd, hdLoad, hdBin, intBin, hdUn, hdConv, hdIdxAddr, hdIdx, hdSlice, bnd, hdCall, hdCallF, hdLen, hdMin, argsA, mapA, partsOk, partsF, lk, look, addR, evA, constA, HOut.ok, hty, hfs, tyAll, List.map, List.all, List.getElem?_cons_zero, List.getElem?_cons_succ, Option.bind_some, Option.map_some, Option.map_none, Option.getD_some, AV.pureA, Nat.reduceEqDiff, ↓reduceIte, reduceCtorEq, Nat.reduceLT, Nat.reduceLeDiff, Nat.reduceAdd, Nat.reduceMul, Int.reduceToNat, IntKind.bits, BEq.rfl, beq_self_eq_true, bne_self_eq_false, Int.reduceBEq, Int.reduceBNe, Int.reduceEq, Int.reduceNe, ne_eq, Int.reduceLT, Int.reduceLE, w1]; (repeat refine And.intro (by first | omega | assumption | (and_intros <;> first | omega | assumption) | fail) ?_); refine hK _ ?_; clear hK K)
      | (refine T_cond rfl (fun hc => ?_) (fun hc => ?_) <;> (try simp only [cnds, reduceCtorEq] at hc) <;> (try (first | (exact hc.elim) | (exfalso; omega))))
    refine hQ _ ?_
    simp (disch := omega) only [resOk, res1, retOk, eqs, lk, look, AV.pureA, kill, AV.refs, hty, tyAll, Nat.reduceEqDiff, ↓reduceIte, reduceCtorEq, Nat.reduceLT, Nat.reduceLeDiff, Nat.reduceAdd, Nat.reduceMul, Int.reduceToNat, ne_eq, sTruth, bI, if_true, implies_true]
def sDZero : List AV → SOut
  | [.arr .i64 32 f] => ⟨D f, .bool (decide (dv f = 0))⟩
  | _ => ⟨False, .und⟩
theorem eqA_dzero {f : Nat → Int} (h : D f) : eqA 32 f (fun _ => 0) = decide (dv f = 0) := by
  by_cases hz : dv f = 0
  · rw [decide_eq_true hz]
    exact eqA_eq.2 fun j hj => by
      have := dig_wsum (B := 256) (by decide) h hj
      rw [show wsum 256 f 32 = 0 from hz] at this
      rw [← this]
      exact dig_zero (by decide) (by decide) (Int.pow_pos (by decide))
  · rw [decide_eq_false hz]
    rcases Bool.eq_false_or_eq_true (eqA 32 f fun _ => 0) with k | k
    · exact absurd (wsum_zero (eqA_eq.1 k)) hz
    · exact k
theorem c_DZero : Contract Tryz.prog 19 sDZero := by
  refine fun_ok [] trivial Tryz.func19 rfl (by kernel_rfl) Tryz.ntmps19 Tryz.results19 (fun E hE hty hfs xs hp => ?_)
  unfold sDZero at hp
  split at hp
  case h_2 => exact hp.elim
  rename_i f
  refine ⟨by simp, fun Q hQ => ?_⟩
  simp only [params, Nat.reduceAdd]
  repeat' first
    | refine T_seq' ?_
    | refine T_block ?_
    | refine n_then ?_
    | refine x_then ?_
    | refine r_then ?_
    | refine n_block ?_
    | refine r_block ?_
    | refine x_block ?_
    | refine x_block' (by rfl) ?_
    | refine T_exit ?_
    | refine T_skip ?_
    | refine T_ret ?_
    | ((first | refine T_region hE (by rfl) (fun K hK => ?_) | refine T_draw hE (by rfl) (by kernel_rfl) (fun K hK => ?_)); simp (disch := omega) only [eqs, evs, stp, stepW, wantA, opStep, kindOf, headStep, skipStep, stStep, wrStep, cpStep, stA, appA, readSl, isSl, copyA, kill, AV.refs, hd, hdLoad, hdBin, intBin, hdUn, hdConv, hdIdxAddr, hdIdx, hdSlice, bnd, hdCall, hdCallF, hdLen, hdMin, argsA, mapA, partsOk, partsF, lk, look, addR, evA, constA, HOut.ok, hty, hfs, tyAll, List.map, List.all, List.getElem?_cons_zero, List.getElem?_cons_succ, Option.bind_some, Option.map_some, Option.map_none, Option.getD_some, AV.pureA, Nat.reduceEqDiff, ↓reduceIte, reduceCtorEq, Nat.reduceLT, Nat.reduceLeDiff, Nat.reduceAdd, Nat.reduceMul, Int.reduceToNat, IntKind.bits, BEq.rfl, beq_self_eq_true, bne_self_eq_false, Int.reduceBEq, Int.reduceBNe, Int.reduceEq, Int.reduceNe, ne_eq, Int.reduceLT, Int.reduceLE, eqA_dzero hp]; (repeat refine And.intro (by first | omega | assumption | (and_intros <;> first | omega | assumption) | fail) ?_); refine hK _ ?_; clear hK K)
    | (refine T_cond rfl (fun hc => ?_) (fun hc => ?_) <;> (try simp only [cnds, reduceCtorEq] at hc) <;> (try (first | (exact hc.elim) | (exfalso; omega))))
  refine hQ _ ?_
  simp (disch := omega) only [resOk, res1, retOk, eqs, lk, look, AV.pureA, kill, AV.refs, hty, tyAll, Nat.reduceEqDiff, ↓reduceIte, reduceCtorEq, Nat.reduceLT, Nat.reduceLeDiff, Nat.reduceAdd, Nat.reduceMul, Int.reduceToNat, ne_eq, sDZero]
def sBy : List AV → SOut
  | [.arr .u64 4 f] => ⟨W f, .int .i64 (min (wv f) 256)⟩
  | _ => ⟨False, .und⟩
theorem limbs256 {f : Nat → Int} (h : W f) : wv f ≤ 256 ↔ f 1 = 0 ∧ f 2 = 0 ∧ f 3 = 0 ∧ f 0 ≤ 256 := by
  have e := wv_of f
  have a0 := W_U h 0 (by decide)
  have a1 := W_U h 1 (by decide)
  have a2 := W_U h 2 (by decide)
  have a3 := W_U h 3 (by decide)
  unfold U at a0 a1 a2 a3
  constructor
  · intro h; refine ⟨?_, ?_, ?_, ?_⟩ <;> omega
  · intro ⟨h1, h2, h3, h4⟩; omega
set_option maxHeartbeats 1000000 in
theorem c_by : Contract Tryz.prog 22 sBy := by
  refine fun_ok [] trivial Tryz.func22 rfl (by kernel_rfl) Tryz.ntmps22 Tryz.results22 (fun E hE hty hfs xs hp => ?_)
  unfold sBy at hp
  split at hp
  case h_2 => exact hp.elim
  rename_i f
  have hf := hp
  have hsm := limbs256 hf
  have ev := wv_of f
  have a0 := W_U hf 0 (by decide)
  unfold U at a0
  refine ⟨by simp, fun Q hQ => ?_⟩
  simp only [params, Nat.reduceAdd]
  by_cases h256 : wv f ≤ 256
  · obtain ⟨z1, z2, z3, z0⟩ := hsm.1 h256
    have e : min (wv f) 256 = f 0 := by rw [z1, z2, z3] at ev; omega
    have h4 : ¬ 256 < f 0 := by omega
    repeat' first
      | refine T_seq' ?_
      | refine T_block ?_
      | refine n_then ?_
      | refine x_then ?_
      | refine r_then ?_
      | refine n_block ?_
      | refine r_block ?_
      | refine x_block ?_
      | refine x_block' (by rfl) ?_
      | refine T_exit ?_
      | refine T_skip ?_
      | refine T_ret ?_
      | ((first | refine T_region hE (by rfl) (fun K hK => ?_) | refine T_draw hE (by rfl) (by kernel_rfl) (fun K hK => ?_)); simp (disch := omega) only [eqs, evs, stp, stepW, wantA, opStep, kindOf, headStep, skipStep, stStep, wrStep, cpStep, stA, appA, readSl, isSl, copyA, kill, AV.refs, hd, hdLoad, hdBin, intBin, hdUn, hdConv, hdIdxAddr, hdIdx, hdSlice, bnd, hdCall, hdCallF, hdLen, hdMin, argsA, mapA, partsOk, partsF, lk, look, addR, evA, constA, HOut.ok, hty, hfs, tyAll, List.map, List.all, List.getElem?_cons_zero, List.getElem?_cons_succ, Option.bind_some, Option.map_some, Option.map_none, Option.getD_some, AV.pureA, Nat.reduceEqDiff, ↓reduceIte, reduceCtorEq, Nat.reduceLT, Nat.reduceLeDiff, Nat.reduceAdd, Nat.reduceMul, Int.reduceToNat, IntKind.bits, BEq.rfl, beq_self_eq_true, bne_self_eq_false, Int.reduceBEq, Int.reduceBNe, Int.reduceEq, Int.reduceNe, ne_eq, Int.reduceLT, Int.reduceLE, z1, z2, z3, h4]; (repeat refine And.intro (by first | omega | assumption | (and_intros <;> first | omega | assumption) | fail) ?_); refine hK _ ?_; clear hK K)
      | (refine T_cond rfl (fun hc => ?_) (fun hc => ?_) <;> (try simp only [cnds, reduceCtorEq] at hc) <;> (try (first | (exact hc.elim) | (exfalso; omega))))
    refine hQ _ ?_
    simp (disch := omega) only [resOk, res1, retOk, eqs, lk, look, AV.pureA, kill, AV.refs, hty, tyAll, Nat.reduceEqDiff, ↓reduceIte, reduceCtorEq, Nat.reduceLT, Nat.reduceLeDiff, Nat.reduceAdd, Nat.reduceMul, Int.reduceToNat, ne_eq, sBy, e]
  · have hno : ¬ (f 1 = 0 ∧ f 2 = 0 ∧ f 3 = 0 ∧ f 0 ≤ 256) := fun h => h256 (hsm.2 h)
    have e : min (wv f) 256 = 256 := by omega
    by_cases z1 : f 1 = 0
    · by_cases z2 : f 2 = 0
      · by_cases z3 : f 3 = 0
        · have h0 : 256 < f 0 := by omega
          repeat' first
            | refine T_seq' ?_
            | refine T_block ?_
            | refine n_then ?_
            | refine x_then ?_
            | refine r_then ?_
            | refine n_block ?_
            | refine r_block ?_
            | refine x_block ?_
            | refine x_block' (by rfl) ?_
            | refine T_exit ?_
            | refine T_skip ?_
            | refine T_ret ?_
            | ((first | refine T_region hE (by rfl) (fun K hK => ?_) | refine T_draw hE (by rfl) (by kernel_rfl) (fun K hK => ?_)); simp (disch := omega) only [eqs, evs, stp, stepW, wantA, opStep, kindOf, headStep, skipStep, stStep, wrStep, cpStep, stA, appA, readSl, isSl, copyA, kill, AV.refs, hd, hdLoad, hdBin, intBin, hdUn, hdConv, hdIdxAddr, hdIdx, hdSlice, bnd, hdCall, hdCallF, hdLen, hdMin, argsA, mapA, partsOk, partsF, lk, look, addR, evA, constA, HOut.ok, hty, hfs, tyAll, List.map, List.all, List.getElem?_cons_zero, List.getElem?_cons_succ, Option.bind_some, Option.map_some, Option.map_none, Option.getD_some, AV.pureA, Nat.reduceEqDiff, ↓reduceIte, reduceCtorEq, Nat.reduceLT, Nat.reduceLeDiff, Nat.reduceAdd, Nat.reduceMul, Int.reduceToNat, IntKind.bits, BEq.rfl, beq_self_eq_true, bne_self_eq_false, Int.reduceBEq, Int.reduceBNe, Int.reduceEq, Int.reduceNe, ne_eq, Int.reduceLT, Int.reduceLE, z1, z2, z3, h0]; (repeat refine And.intro (by first | omega | assumption | (and_intros <;> first | omega | assumption) | fail) ?_); refine hK _ ?_; clear hK K)
            | (refine T_cond rfl (fun hc => ?_) (fun hc => ?_) <;> (try simp only [cnds, reduceCtorEq] at hc) <;> (try (first | (exact hc.elim) | (exfalso; omega))))
          refine hQ _ ?_
          simp (disch := omega) only [resOk, res1, retOk, eqs, lk, look, AV.pureA, kill, AV.refs, hty, tyAll, Nat.reduceEqDiff, ↓reduceIte, reduceCtorEq, Nat.reduceLT, Nat.reduceLeDiff, Nat.reduceAdd, Nat.reduceMul, Int.reduceToNat, ne_eq, sBy, e]
        · have n3 : (f 3 != 0) = true := by simp [z3]
          repeat' first
            | refine T_seq' ?_
            | refine T_block ?_
            | refine n_then ?_
            | refine x_then ?_
            | refine r_then ?_
            | refine n_block ?_
            | refine r_block ?_
            | refine x_block ?_
            | refine x_block' (by rfl) ?_
            | refine T_exit ?_
            | refine T_skip ?_
            | refine T_ret ?_
            | ((first | refine T_region hE (by rfl) (fun K hK => ?_) | refine T_draw hE (by rfl) (by kernel_rfl) (fun K hK => ?_)); simp (disch := omega) only [eqs, evs, stp, stepW, wantA, opStep, kindOf, headStep, skipStep, stStep, wrStep, cpStep, stA, appA, readSl, isSl, copyA, kill, AV.refs, hd, hdLoad, hdBin, intBin, hdUn, hdConv, hdIdxAddr, hdIdx, hdSlice, bnd, hdCall, hdCallF, hdLen, hdMin, argsA, mapA, partsOk, partsF, lk, look, addR, evA, constA, HOut.ok, hty, hfs, tyAll, List.map, List.all, List.getElem?_cons_zero, List.getElem?_cons_succ, Option.bind_some, Option.map_some, Option.map_none, Option.getD_some, AV.pureA, Nat.reduceEqDiff, ↓reduceIte, reduceCtorEq, Nat.reduceLT, Nat.reduceLeDiff, Nat.reduceAdd, Nat.reduceMul, Int.reduceToNat, IntKind.bits, BEq.rfl, beq_self_eq_true, bne_self_eq_false, Int.reduceBEq, Int.reduceBNe, Int.reduceEq, Int.reduceNe, ne_eq, Int.reduceLT, Int.reduceLE, z1, z2, n3]; (repeat refine And.intro (by first | omega | assumption | (and_intros <;> first | omega | assumption) | fail) ?_); refine hK _ ?_; clear hK K)
            | (refine T_cond rfl (fun hc => ?_) (fun hc => ?_) <;> (try simp only [cnds, reduceCtorEq] at hc) <;> (try (first | (exact hc.elim) | (exfalso; omega))))
          refine hQ _ ?_
          simp (disch := omega) only [resOk, res1, retOk, eqs, lk, look, AV.pureA, kill, AV.refs, hty, tyAll, Nat.reduceEqDiff, ↓reduceIte, reduceCtorEq, Nat.reduceLT, Nat.reduceLeDiff, Nat.reduceAdd, Nat.reduceMul, Int.reduceToNat, ne_eq, sBy, e]
      · have n2 : (f 2 != 0) = true := by simp [z2]
        repeat' first
          | refine T_seq' ?_
          | refine T_block ?_
          | refine n_then ?_
          | refine x_then ?_
          | refine r_then ?_
          | refine n_block ?_
          | refine r_block ?_
          | refine x_block ?_
          | refine x_block' (by rfl) ?_
          | refine T_exit ?_
          | refine T_skip ?_
          | refine T_ret ?_
          | ((first | refine T_region hE (by rfl) (fun K hK => ?_) | refine T_draw hE (by rfl) (by kernel_rfl) (fun K hK => ?_)); simp (disch := omega) only [eqs, evs, stp, stepW, wantA, opStep, kindOf, headStep, skipStep, stStep, wrStep, cpStep, stA, appA, readSl, isSl, copyA, kill, AV.refs, hd, hdLoad, hdBin, intBin, hdUn, hdConv, hdIdxAddr, hdIdx, hdSlice, bnd, hdCall, hdCallF, hdLen, hdMin, argsA, mapA, partsOk, partsF, lk, look, addR, evA, constA, HOut.ok, hty, hfs, tyAll, List.map, List.all, List.getElem?_cons_zero, List.getElem?_cons_succ, Option.bind_some, Option.map_some, Option.map_none, Option.getD_some, AV.pureA, Nat.reduceEqDiff, ↓reduceIte, reduceCtorEq, Nat.reduceLT, Nat.reduceLeDiff, Nat.reduceAdd, Nat.reduceMul, Int.reduceToNat, IntKind.bits, BEq.rfl, beq_self_eq_true, bne_self_eq_false, Int.reduceBEq, Int.reduceBNe, Int.reduceEq, Int.reduceNe, ne_eq, Int.reduceLT, Int.reduceLE, z1, n2]; (repeat refine And.intro (by first | omega | assumption | (and_intros <;> first | omega | assumption) | fail) ?_); refine hK _ ?_; clear hK K)
          | (refine T_cond rfl (fun hc => ?_) (fun hc => ?_) <;> (try simp only [cnds, reduceCtorEq] at hc) <;> (try (first | (exact hc.elim) | (exfalso; omega))))
        refine hQ _ ?_
        simp (disch := omega) only [resOk, res1, retOk, eqs, lk, look, AV.pureA, kill, AV.refs, hty, tyAll, Nat.reduceEqDiff, ↓reduceIte, reduceCtorEq, Nat.reduceLT, Nat.reduceLeDiff, Nat.reduceAdd, Nat.reduceMul, Int.reduceToNat, ne_eq, sBy, e]
    · have n1 : (f 1 != 0) = true := by simp [z1]
      repeat' first
        | refine T_seq' ?_
        | refine T_block ?_
        | refine n_then ?_
        | refine x_then ?_
        | refine r_then ?_
        | refine n_block ?_
        | refine r_block ?_
        | refine x_block ?_
        | refine x_block' (by rfl) ?_
        | refine T_exit ?_
        | refine T_skip ?_
        | refine T_ret ?_
        | ((first | refine T_region hE (by rfl) (fun K hK => ?_) | refine T_draw hE (by rfl) (by kernel_rfl) (fun K hK => ?_)); simp (disch := omega) only [eqs, evs, stp, stepW, wantA, opStep, kindOf, headStep, skipStep, stStep, wrStep, cpStep, stA, appA, readSl, isSl, copyA, kill, AV.refs, hd, hdLoad, hdBin, intBin, hdUn, hdConv, hdIdxAddr, hdIdx, hdSlice, bnd, hdCall, hdCallF, hdLen, hdMin, argsA, mapA, partsOk, partsF, lk, look, addR, evA, constA, HOut.ok, hty, hfs, tyAll, List.map, List.all, List.getElem?_cons_zero, List.getElem?_cons_succ, Option.bind_some, Option.map_some, Option.map_none, Option.getD_some, AV.pureA, Nat.reduceEqDiff, ↓reduceIte, reduceCtorEq, Nat.reduceLT, Nat.reduceLeDiff, Nat.reduceAdd, Nat.reduceMul, Int.reduceToNat, IntKind.bits, BEq.rfl, beq_self_eq_true, bne_self_eq_false, Int.reduceBEq, Int.reduceBNe, Int.reduceEq, Int.reduceNe, ne_eq, Int.reduceLT, Int.reduceLE, n1]; (repeat refine And.intro (by first | omega | assumption | (and_intros <;> first | omega | assumption) | fail) ?_); refine hK _ ?_; clear hK K)
        | (refine T_cond rfl (fun hc => ?_) (fun hc => ?_) <;> (try simp only [cnds, reduceCtorEq] at hc) <;> (try (first | (exact hc.elim) | (exfalso; omega))))
      refine hQ _ ?_
      simp (disch := omega) only [resOk, res1, retOk, eqs, lk, look, AV.pureA, kill, AV.refs, hty, tyAll, Nat.reduceEqDiff, ↓reduceIte, reduceCtorEq, Nat.reduceLT, Nat.reduceLeDiff, Nat.reduceAdd, Nat.reduceMul, Int.reduceToNat, ne_eq, sBy, e]

set_option maxHeartbeats 4000000 in
theorem c_RTakes : Contract Tryz.prog 8 sTakes := by
  refine fun_ok [] trivial Tryz.func8 rfl (by kernel_rfl) Tryz.ntmps8 Tryz.results8 (fun E hE hty hfs xs hp => ?_)
  unfold sTakes at hp
  split at hp
  case h_2 => exact hp.elim
  rename_i op
  obtain ⟨o0, o1⟩ := hp
  have hp : True := trivial
  refine ⟨by simp, fun Q hQ => ?_⟩
  simp only [params, Nat.reduceAdd]
  by_cases h30 : op ≤ 29
  · rcases op_cases o0 h30 with rfl | rfl | rfl | rfl | rfl | rfl | rfl | rfl | rfl | rfl | rfl | rfl | rfl | rfl | rfl | rfl | rfl | rfl | rfl | rfl | rfl | rfl | rfl | rfl | rfl | rfl | rfl | rfl | rfl | rfl
    all_goals
      repeat' first
        | refine T_seq' ?_
        | refine T_block ?_
        | refine n_then ?_
        | refine x_then ?_
        | refine r_then ?_
        | refine n_block ?_
        | refine r_block ?_
        | refine x_block ?_
        | refine x_block' (by rfl) ?_
        | refine T_exit ?_
        | refine T_skip ?_
        | refine T_ret ?_
        | ((first | refine T_region hE (by rfl) (fun K hK => ?_) | refine T_draw hE (by rfl) (by kernel_rfl) (fun K hK => ?_)); simp (disch := omega) only [eqs, evs, stp, stepW, wantA, opStep, kindOf, headStep, skipStep, stStep, wrStep, cpStep, stA, appA, readSl, isSl, copyA, kill, AV.refs, hd, hdLoad, hdBin, intBin, hdUn, hdConv, hdIdxAddr, hdIdx, hdSlice, bnd, hdCall, hdCallF, hdLen, hdMin, argsA, mapA, partsOk, partsF, lk, look, addR, evA, constA, HOut.ok, hty, hfs, tyAll, List.map, List.all, List.getElem?_cons_zero, List.getElem?_cons_succ, Option.bind_some, Option.map_some, Option.map_none, Option.getD_some, AV.pureA, Nat.reduceEqDiff, ↓reduceIte, reduceCtorEq, Nat.reduceLT, Nat.reduceLeDiff, Nat.reduceAdd, Nat.reduceMul, Int.reduceToNat, IntKind.bits, BEq.rfl, beq_self_eq_true, bne_self_eq_false, Int.reduceBEq, Int.reduceBNe, Int.reduceEq, Int.reduceNe, ne_eq, Int.reduceLT, Int.reduceLE]; (repeat refine And.intro (by first | omega | assumption | (and_intros <;> first | omega | assumption) | fail) ?_); refine hK _ ?_; clear hK K)
        | (refine T_cond rfl (fun hc => ?_) (fun hc => ?_) <;> (try simp only [cnds, reduceCtorEq] at hc) <;> (try (first | (exact hc.elim) | (exfalso; omega))))
      refine hQ _ ?_
      simp (disch := omega) only [resOk, res1, retOk, eqs, lk, look, AV.pureA, kill, AV.refs, hty, tyAll, Nat.reduceEqDiff, ↓reduceIte, reduceCtorEq, Nat.reduceLT, Nat.reduceLeDiff, Nat.reduceAdd, Nat.reduceMul, Int.reduceToNat, ne_eq, sTakes]
      first | rfl | exact ⟨rfl, rfl⟩
  · have e := takes_none (op := op) (by omega)
    have n1 : (op == 8) = false := beq_eq_false_iff_ne.2 (by omega)
    have n2 : (op == 9) = false := beq_eq_false_iff_ne.2 (by omega)
    have n3 : (op == 21) = false := beq_eq_false_iff_ne.2 (by omega)
    have n4 : (op == 25) = false := beq_eq_false_iff_ne.2 (by omega)
    have n5 : 1 ≤ op := by omega
    have n6 : ¬ op ≤ 11 := by omega
    have n7 : 16 ≤ op := by omega
    repeat' first
      | refine T_seq' ?_
      | refine T_block ?_
      | refine n_then ?_
      | refine x_then ?_
      | refine r_then ?_
      | refine n_block ?_
      | refine r_block ?_
      | refine x_block ?_
      | refine x_block' (by rfl) ?_
      | refine T_exit ?_
      | refine T_skip ?_
      | refine T_ret ?_
      | ((first | refine T_region hE (by rfl) (fun K hK => ?_) | refine T_draw hE (by rfl) (by kernel_rfl) (fun K hK => ?_)); simp (disch := omega) only [eqs, evs, stp, stepW, wantA, opStep, kindOf, headStep, skipStep, stStep, wrStep, cpStep, stA, appA, readSl, isSl, copyA, kill, AV.refs, hd, hdLoad, hdBin, intBin, hdUn, hdConv, hdIdxAddr, hdIdx, hdSlice, bnd, hdCall, hdCallF, hdLen, hdMin, argsA, mapA, partsOk, partsF, lk, look, addR, evA, constA, HOut.ok, hty, hfs, tyAll, List.map, List.all, List.getElem?_cons_zero, List.getElem?_cons_succ, Option.bind_some, Option.map_some, Option.map_none, Option.getD_some, AV.pureA, Nat.reduceEqDiff, ↓reduceIte, reduceCtorEq, Nat.reduceLT, Nat.reduceLeDiff, Nat.reduceAdd, Nat.reduceMul, Int.reduceToNat, IntKind.bits, BEq.rfl, beq_self_eq_true, bne_self_eq_false, Int.reduceBEq, Int.reduceBNe, Int.reduceEq, Int.reduceNe, ne_eq, Int.reduceLT, Int.reduceLE, n1, n2, n3, n4, n5, n6, n7, h30]; (repeat refine And.intro (by first | omega | assumption | (and_intros <;> first | omega | assumption) | fail) ?_); refine hK _ ?_; clear hK K)
      | (refine T_cond rfl (fun hc => ?_) (fun hc => ?_) <;> (try simp only [cnds, reduceCtorEq] at hc) <;> (try (first | (exact hc.elim) | (exfalso; omega))))
    refine hQ _ ?_
    simp (disch := omega) only [resOk, res1, retOk, eqs, lk, look, AV.pureA, kill, AV.refs, hty, tyAll, Nat.reduceEqDiff, ↓reduceIte, reduceCtorEq, Nat.reduceLT, Nat.reduceLeDiff, Nat.reduceAdd, Nat.reduceMul, Int.reduceToNat, ne_eq, sTakes, e]

def sRLow : List AV → SOut
  | [.int .u8 op, .arr .u64 4 f, .arr .u64 4 g, .arr .u64 4 h] => ⟨(1 ≤ op ∧ op ≤ 11) ∧ W f ∧ W g ∧ W h, .arr .u64 4 (wl (doV op (wv f) (wv g) (wv h)))⟩
  | _ => ⟨False, .und⟩
theorem op_low {op : Int} (h0 : 1 ≤ op) (h1 : op ≤ 11) : op = 1 ∨ op = 2 ∨ op = 3 ∨ op = 4 ∨ op = 5 ∨ op = 6 ∨ op = 7 ∨ op = 8 ∨ op = 9 ∨ op = 10 ∨ op = 11 := by omega
set_option maxHeartbeats 4000000 in
theorem c_low : Contract Tryz.prog 13 sRLow := by
  refine fun_ok [(14, sROf), (52, sNOf), (53, sRAdd), (54, sRMul), (55, sRSub), (21, sRWord), (56, sNDiv), (57, sNWord), (58, sSDiv), (59, sNPlus), (60, sNTimes), (61, sNExp), (62, sExt)] ⟨c_ROf, c_NOf, c_RAdd, c_RMul, c_RSub, c_RWord, c_NDiv, c_NWord, c_RSDiv, c_NPlus, c_NTimes, c_NExp, c_RExt, trivial⟩ Tryz.func13 rfl (by kernel_rfl) Tryz.ntmps13 Tryz.results13 (fun E hE hty hfs xs hp => ?_)
  unfold sRLow at hp
  split at hp
  case h_2 => exact hp.elim
  rename_i op f g h
  obtain ⟨⟨o0, o1⟩, hf, hg, hh⟩ := hp
  have hp : True := trivial
  have fb := wv_bd hf
  have gb := wv_bd hg
  have hb := wv_bd hh
  have d1 := dvdl hf
  have d2 := dvdl hg
  have a1 := D32 (wv f)
  have a2 := D32 (wv g)
  have a3 := D32 (wv h)
  have b1 := nv_dl fb.1 fb.2
  have b2 := nv_dl gb.1 gb.2
  have b3 := nv_dl hb.1 hb.2
  have hP : 0 ≤ wv f * wv g ∧ wv f * wv g < M * M := ⟨Int.mul_nonneg fb.1 gb.1, by
    have := Int.mul_le_mul (show wv f ≤ M - 1 by omega) (show wv g ≤ M - 1 by omega) gb.1 (by decide)
    have h2 : (M - 1) * (M - 1) < M * M := by decide
    omega⟩
  have hM65 : M * M < 256 ^ 65 := by decide
  have hM33 : M + M < 256 ^ 33 := by decide
  have m1 : max 32 32 + 1 = 33 := rfl
  have a4 := Dg_dig (wv f + wv g) 33
  have b4 := nv_of (a := wv f + wv g) (n := 33) (by omega) (by omega)
  have a5 := Dg_dig (wv f * wv g) 65
  have b5 := nv_of (a := wv f * wv g) (n := 65) hP.1 (by omega)
  have r0 := nr_nn (b := wv g) fb.1 gb.1
  have r1 := nr_nn (a := wv f + wv g) (by omega) hb.1
  have r2 := nr_nn hP.1 hb.1
  have a6 := Dg_dig (nr (wv f + wv g) (wv h)) (nd (nr (wv f + wv g) (wv h)))
  have a7 := Dg_dig (nr (wv f * wv g) (wv h)) (nd (nr (wv f * wv g) (wv h)))
  have a8 := Dg_dig (nr (wv f) (wv g)) (nd (nr (wv f) (wv g)))
  have a9 := Dg_dig (wv f / wv g) 32
  have l6 : nd (nr (wv f + wv g) (wv h)) ≤ 32 := nd_le r1 (by rw [M_256]; exact nr_lt hb.1 hb.2)
  have l7 : nd (nr (wv f * wv g) (wv h)) ≤ 32 := nd_le r2 (by rw [M_256]; exact nr_lt hb.1 hb.2)
  have l8 : nd (nr (wv f) (wv g)) ≤ 32 := nd_le r0 (by rw [M_256]; exact nr_lt gb.1 gb.2)
  have b6 := nv_nd r1
  have b7 := nv_nd r2
  have b8 := nv_nd r0
  have b9 : nv 32 (dig 256 (wv f / wv g)) = wv f / wv g % M := by rw [nv_dig, M_256]
  refine ⟨by simp, fun Q hQ => ?_⟩
  simp only [params, Nat.reduceAdd]
  rcases op_low o0 o1 with rfl | rfl | rfl | rfl | rfl | rfl | rfl | rfl | rfl | rfl | rfl
  all_goals
    repeat' first
      | refine T_seq' ?_
      | refine T_block ?_
      | refine n_then ?_
      | refine x_then ?_
      | refine r_then ?_
      | refine n_block ?_
      | refine r_block ?_
      | refine x_block ?_
      | refine x_block' (by rfl) ?_
      | refine T_exit ?_
      | refine T_skip ?_
      | refine T_ret ?_
      | ((first | refine T_region hE (by rfl) (fun K hK => ?_) | refine T_draw hE (by rfl) (by kernel_rfl) (fun K hK => ?_)); simp (disch := omega) only [eqs, evs, stp, stepW, wantA, opStep, kindOf, headStep, skipStep, stStep, wrStep, cpStep, stA, appA, readSl, isSl, copyA, kill, AV.refs, hd, hdLoad, hdBin, intBin, hdUn, hdConv, hdIdxAddr, hdIdx, hdSlice, bnd, hdCall, hdCallF, hdLen, hdMin, argsA, mapA, partsOk, partsF, lk, look, addR, evA, constA, HOut.ok, hty, hfs, tyAll, List.map, List.all, List.getElem?_cons_zero, List.getElem?_cons_succ, Option.bind_some, Option.map_some, Option.map_none, Option.getD_some, AV.pureA, Nat.reduceEqDiff, ↓reduceIte, reduceCtorEq, Nat.reduceLT, Nat.reduceLeDiff, Nat.reduceAdd, Nat.reduceMul, Int.reduceToNat, IntKind.bits, BEq.rfl, beq_self_eq_true, bne_self_eq_false, Int.reduceBEq, Int.reduceBNe, Int.reduceEq, Int.reduceNe, ne_eq, Int.reduceLT, Int.reduceLE, sROf, sNOf, sRAdd, sRMul, sRSub, sRWord, D_dl, d1, d2, dv_dl, wl_mod, sNDiv, sNWord, sSDiv, sNPlus, sNTimes, sNExp, sWExp, sExt, m1, b1, b2, b3, b4, b5, b6, b7, b8, b9]; (repeat refine And.intro (by first | omega | assumption | (and_intros <;> first | omega | assumption) | fail) ?_); refine hK _ ?_; clear hK K)
      | (refine T_cond rfl (fun hc => ?_) (fun hc => ?_) <;> (try simp only [cnds, reduceCtorEq] at hc) <;> (try (first | (exact hc.elim) | (exfalso; omega))))
    refine hQ _ ?_
    simp (disch := omega) only [resOk, res1, retOk, eqs, lk, look, AV.pureA, kill, AV.refs, hty, tyAll, Nat.reduceEqDiff, ↓reduceIte, reduceCtorEq, Nat.reduceLT, Nat.reduceLeDiff, Nat.reduceAdd, Nat.reduceMul, Int.reduceToNat, ne_eq, sRLow]
    exact fun _ _ => rfl

end Go.Proofs.YtijoifajbmhgdaaGreat.Sym
