/- The laws of instructions: words that are not taken; instructions that are alike. -/
import Derived.Test.YtijoifajbmhgdaaAc
namespace Go.Proofs.Ytijoifajbmhgdaa.Sym
set_option linter.unusedVariables false
open Go Go.RowKit Num
set_option maxRecDepth 10000
set_option linter.unusedSimpArgs false

theorem doV_two {op a b c : Int} (h : ¬ (op = 8 ∨ op = 9)) : doV op a b c = aluF op a b := by
  unfold doV
  rw [if_neg (by omega), if_neg (by omega)]
theorem doV_no {op a b c : Int} (h : ¬ ((1 ≤ op ∧ op ≤ 11) ∨ (16 ≤ op ∧ op ≤ 29))) : doV op a b c = 0 := by
  unfold doV aluF
  repeat rw [if_neg (by omega)]
def sLawFew : List AV → SOut
  | [.int .u8 op, .arr .u64 4 f, .arr .u64 4 g, .arr .u64 4 h, .arr .u64 4 k] => ⟨(0 ≤ op ∧ op < 256) ∧ W f ∧ W g ∧ W h ∧ W k, .bool true⟩
  | _ => ⟨False, .und⟩
theorem c_AluFew : Contract Try.prog 11 sLawFew := by
  refine fun_ok [(60, sFixed1), (58, sDo), (59, sTakes)] ⟨c_fixed17, c_Do, c_Takes, trivial⟩ Try.func11 rfl (by kernel_rfl) Try.ntmps11 Try.results11 (fun E hE hty hfs xs hp => ?_)
  unfold sLawFew at hp
  split at hp
  case h_2 => exact hp.elim
  rename_i op f g h k
  obtain ⟨⟨o0, o1⟩, hf, hg, hh, hkk⟩ := hp
  have hp : True := trivial
  refine ⟨by simp, fun Q hQ => ?_⟩
  simp only [params, Nat.reduceAdd]
  by_cases h8 : op = 8 ∨ op = 9
  · have tk : takesV op = 3 := by unfold takesV; rw [if_pos h8]
    repeat' first
      | refine T_seq' ?_
      | refine T_block ?_
      | refine n_then ?_
      | refine x_then ?_
      | refine r_then ?_
      | refine n_block ?_
      | refine r_block ?_
      | refine x_block ?_
      | refine x_block' (by rfl) ?_
      | refine T_exit ?_
      | refine T_skip ?_
      | refine T_ret ?_
      | ((first | refine T_region hE (by rfl) (fun K hK => ?_) | refine T_draw hE (by rfl) (by kernel_rfl) (fun K hK => ?_)); simp (disch := omega) only [eqs, evs, stp, stepW, wantA, opStep, kindOf, headStep, skipStep, stStep, wrStep, cpStep, stA, appA, readSl, isSl, copyA, kill, AV.refs, hd, hdLoad, hdBin, intBin, hdUn, hdConv, hdIdxAddr, hdIdx, hdSlice, bnd, hdCall, hdCallF, hdLen, hdMin, argsA, mapA, partsOk, partsF, lk, look, addR, evA, constA, HOut.ok, hty, hfs, tyAll, List.map, List.all, List.getElem?_cons_zero, List.getElem?_cons_succ, Option.bind_some, Option.map_some, Option.map_none, Option.getD_some, AV.pureA, Nat.reduceEqDiff, ↓reduceIte, reduceCtorEq, Nat.reduceLT, Nat.reduceLeDiff, Nat.reduceAdd, Nat.reduceMul, Int.reduceToNat, IntKind.bits, BEq.rfl, beq_self_eq_true, bne_self_eq_false, Int.reduceBEq, Int.reduceBNe, Int.reduceEq, Int.reduceNe, ne_eq, Int.reduceLT, Int.reduceLE, sFixed1, sDo, sTakes, tk]; (repeat refine And.intro (by first | omega | assumption | (and_intros <;> first | omega | assumption) | fail) ?_); refine hK _ ?_; clear hK K)
      | (refine T_cond rfl (fun hc => ?_) (fun hc => ?_) <;> (try simp only [cnds, reduceCtorEq] at hc) <;> (try (first | (exact hc.elim) | (exfalso; omega))))
    refine hQ _ ?_
    simp (disch := omega) only [resOk, res1, retOk, eqs, lk, look, AV.pureA, kill, AV.refs, hty, tyAll, Nat.reduceEqDiff, ↓reduceIte, reduceCtorEq, Nat.reduceLT, Nat.reduceLeDiff, Nat.reduceAdd, Nat.reduceMul, Int.reduceToNat, ne_eq, sLawFew]
  · have e1 : doV op (wv f) (wv g) (wv h) = aluF op (wv f) (wv g) := doV_two h8
    have e2 : doV op (wv f) (wv g) (wv k) = aluF op (wv f) (wv g) := doV_two h8
    by_cases h21 : op = 21 ∨ op = 25
    · have tk : takesV op = 1 := by unfold takesV; rw [if_neg h8, if_pos h21]
      have e3 : doV op (wv f) (wv k) (wv h) = aluF op (wv f) (wv g) := by
        rw [doV_two h8]
        rcases h21 with rfl | rfl <;> rfl
      repeat' first
        | refine T_seq' ?_
        | refine T_block ?_
        | refine n_then ?_
        | refine x_then ?_
        | refine r_then ?_
        | refine n_block ?_
        | refine r_block ?_
        | refine x_block ?_
        | refine x_block' (by rfl) ?_
        | refine T_exit ?_
        | refine T_skip ?_
        | refine T_ret ?_
        | ((first | refine T_region hE (by rfl) (fun K hK => ?_) | refine T_draw hE (by rfl) (by kernel_rfl) (fun K hK => ?_)); simp (disch := omega) only [eqs, evs, stp, stepW, wantA, opStep, kindOf, headStep, skipStep, stStep, wrStep, cpStep, stA, appA, readSl, isSl, copyA, kill, AV.refs, hd, hdLoad, hdBin, intBin, hdUn, hdConv, hdIdxAddr, hdIdx, hdSlice, bnd, hdCall, hdCallF, hdLen, hdMin, argsA, mapA, partsOk, partsF, lk, look, addR, evA, constA, HOut.ok, hty, hfs, tyAll, List.map, List.all, List.getElem?_cons_zero, List.getElem?_cons_succ, Option.bind_some, Option.map_some, Option.map_none, Option.getD_some, AV.pureA, Nat.reduceEqDiff, ↓reduceIte, reduceCtorEq, Nat.reduceLT, Nat.reduceLeDiff, Nat.reduceAdd, Nat.reduceMul, Int.reduceToNat, IntKind.bits, BEq.rfl, beq_self_eq_true, bne_self_eq_false, Int.reduceBEq, Int.reduceBNe, Int.reduceEq, Int.reduceNe, ne_eq, Int.reduceLT, Int.reduceLE, sFixed1, sDo, sTakes, tk, e1, e2, e3, eqA_refl]; (repeat refine And.intro (by first | omega | assumption | (and_intros <;> first | omega | assumption) | fail) ?_); refine hK _ ?_; clear hK K)
        | (refine T_cond rfl (fun hc => ?_) (fun hc => ?_) <;> (try simp only [cnds, reduceCtorEq] at hc) <;> (try (first | (exact hc.elim) | (exfalso; omega))))
      refine hQ _ ?_
      simp (disch := omega) only [resOk, res1, retOk, eqs, lk, look, AV.pureA, kill, AV.refs, hty, tyAll, Nat.reduceEqDiff, ↓reduceIte, reduceCtorEq, Nat.reduceLT, Nat.reduceLeDiff, Nat.reduceAdd, Nat.reduceMul, Int.reduceToNat, ne_eq, sLawFew]
    · by_cases h2 : (1 ≤ op ∧ op ≤ 11) ∨ (16 ≤ op ∧ op ≤ 29)
      · have tk : takesV op = 2 := by unfold takesV; rw [if_neg h8, if_neg h21, if_pos h2]
        repeat' first
          | refine T_seq' ?_
          | refine T_block ?_
          | refine n_then ?_
          | refine x_then ?_
          | refine r_then ?_
          | refine n_block ?_
          | refine r_block ?_
          | refine x_block ?_
          | refine x_block' (by rfl) ?_
          | refine T_exit ?_
          | refine T_skip ?_
          | refine T_ret ?_
          | ((first | refine T_region hE (by rfl) (fun K hK => ?_) | refine T_draw hE (by rfl) (by kernel_rfl) (fun K hK => ?_)); simp (disch := omega) only [eqs, evs, stp, stepW, wantA, opStep, kindOf, headStep, skipStep, stStep, wrStep, cpStep, stA, appA, readSl, isSl, copyA, kill, AV.refs, hd, hdLoad, hdBin, intBin, hdUn, hdConv, hdIdxAddr, hdIdx, hdSlice, bnd, hdCall, hdCallF, hdLen, hdMin, argsA, mapA, partsOk, partsF, lk, look, addR, evA, constA, HOut.ok, hty, hfs, tyAll, List.map, List.all, List.getElem?_cons_zero, List.getElem?_cons_succ, Option.bind_some, Option.map_some, Option.map_none, Option.getD_some, AV.pureA, Nat.reduceEqDiff, ↓reduceIte, reduceCtorEq, Nat.reduceLT, Nat.reduceLeDiff, Nat.reduceAdd, Nat.reduceMul, Int.reduceToNat, IntKind.bits, BEq.rfl, beq_self_eq_true, bne_self_eq_false, Int.reduceBEq, Int.reduceBNe, Int.reduceEq, Int.reduceNe, ne_eq, Int.reduceLT, Int.reduceLE, sFixed1, sDo, sTakes, tk, e1, e2, eqA_refl]; (repeat refine And.intro (by first | omega | assumption | (and_intros <;> first | omega | assumption) | fail) ?_); refine hK _ ?_; clear hK K)
          | (refine T_cond rfl (fun hc => ?_) (fun hc => ?_) <;> (try simp only [cnds, reduceCtorEq] at hc) <;> (try (first | (exact hc.elim) | (exfalso; omega))))
        refine hQ _ ?_
        simp (disch := omega) only [resOk, res1, retOk, eqs, lk, look, AV.pureA, kill, AV.refs, hty, tyAll, Nat.reduceEqDiff, ↓reduceIte, reduceCtorEq, Nat.reduceLT, Nat.reduceLeDiff, Nat.reduceAdd, Nat.reduceMul, Int.reduceToNat, ne_eq, sLawFew]
      · have tk : takesV op = 0 := by unfold takesV; rw [if_neg h8, if_neg h21, if_neg h2]
        have e4 : doV op (wv f) (wv g) (wv h) = 0 := doV_no h2
        have e5 : doV op (wv f) (wv g) (wv k) = 0 := doV_no h2
        have e6 : doV op (wv f) (wv k) (wv h) = 0 := doV_no h2
        repeat' first
          | refine T_seq' ?_
          | refine T_block ?_
          | refine n_then ?_
          | refine x_then ?_
          | refine r_then ?_
          | refine n_block ?_
          | refine r_block ?_
          | refine x_block ?_
          | refine x_block' (by rfl) ?_
          | refine T_exit ?_
          | refine T_skip ?_
          | refine T_ret ?_
          | ((first | refine T_region hE (by rfl) (fun K hK => ?_) | refine T_draw hE (by rfl) (by kernel_rfl) (fun K hK => ?_)); simp (disch := omega) only [eqs, evs, stp, stepW, wantA, opStep, kindOf, headStep, skipStep, stStep, wrStep, cpStep, stA, appA, readSl, isSl, copyA, kill, AV.refs, hd, hdLoad, hdBin, intBin, hdUn, hdConv, hdIdxAddr, hdIdx, hdSlice, bnd, hdCall, hdCallF, hdLen, hdMin, argsA, mapA, partsOk, partsF, lk, look, addR, evA, constA, HOut.ok, hty, hfs, tyAll, List.map, List.all, List.getElem?_cons_zero, List.getElem?_cons_succ, Option.bind_some, Option.map_some, Option.map_none, Option.getD_some, AV.pureA, Nat.reduceEqDiff, ↓reduceIte, reduceCtorEq, Nat.reduceLT, Nat.reduceLeDiff, Nat.reduceAdd, Nat.reduceMul, Int.reduceToNat, IntKind.bits, BEq.rfl, beq_self_eq_true, bne_self_eq_false, Int.reduceBEq, Int.reduceBNe, Int.reduceEq, Int.reduceNe, ne_eq, Int.reduceLT, Int.reduceLE, sFixed1, sDo, sTakes, tk, e4, e5, e6, eqA_refl]; (repeat refine And.intro (by first | omega | assumption | (and_intros <;> first | omega | assumption) | fail) ?_); refine hK _ ?_; clear hK K)
          | (refine T_cond rfl (fun hc => ?_) (fun hc => ?_) <;> (try simp only [cnds, reduceCtorEq] at hc) <;> (try (first | (exact hc.elim) | (exfalso; omega))))
        refine hQ _ ?_
        simp (disch := omega) only [resOk, res1, retOk, eqs, lk, look, AV.pureA, kill, AV.refs, hty, tyAll, Nat.reduceEqDiff, ↓reduceIte, reduceCtorEq, Nat.reduceLT, Nat.reduceLeDiff, Nat.reduceAdd, Nat.reduceMul, Int.reduceToNat, ne_eq, sLawFew]

def sdo : List AV → SOut
  | [.int .u8 op, .arr .u64 4 f, .arr .u64 4 g] => ⟨(0 ≤ op ∧ op < 256) ∧ W f ∧ W g, .arr .u64 4 (wl (doV op (wv f) (wv g) 0))⟩
  | _ => ⟨False, .und⟩
theorem c_do : Contract Try.prog 95 sdo := by
  refine fun_ok [(58, sDo)] ⟨c_Do, trivial⟩ Try.func95 rfl (by kernel_rfl) Try.ntmps95 Try.results95 (fun E hE hty hfs xs hp => ?_)
  unfold sdo at hp
  split at hp
  case h_2 => exact hp.elim
  rename_i op f g
  obtain ⟨⟨o0, o1⟩, hf, hg⟩ := hp
  have h0 := W0
  refine ⟨by simp, fun Q hQ => ?_⟩
  simp only [params, Nat.reduceAdd]
  repeat' first
    | refine T_seq' ?_
    | refine T_block ?_
    | refine n_then ?_
    | refine x_then ?_
    | refine r_then ?_
    | refine n_block ?_
    | refine r_block ?_
    | refine x_block ?_
    | refine x_block' (by rfl) ?_
    | refine T_exit ?_
    | refine T_skip ?_
    | refine T_ret ?_
    | ((first | refine T_region hE (by rfl) (fun K hK => ?_) | refine T_draw hE (by rfl) (by kernel_rfl) (fun K hK => ?_)); simp (disch := omega) only [eqs, evs, stp, stepW, wantA, opStep, kindOf, headStep, skipStep, stStep, wrStep, cpStep, stA, appA, readSl, isSl, copyA, kill, AV.refs, hd, hdLoad, hdBin, intBin, hdUn, hdConv, hdIdxAddr, hdIdx, hdSlice, bnd, hdCall, hdCallF, hdLen, hdMin, argsA, mapA, partsOk, partsF, lk, look, addR, evA, constA, HOut.ok, hty, hfs, tyAll, List.map, List.all, List.getElem?_cons_zero, List.getElem?_cons_succ, Option.bind_some, Option.map_some, Option.map_none, Option.getD_some, AV.pureA, Nat.reduceEqDiff, ↓reduceIte, reduceCtorEq, Nat.reduceLT, Nat.reduceLeDiff, Nat.reduceAdd, Nat.reduceMul, Int.reduceToNat, IntKind.bits, BEq.rfl, beq_self_eq_true, bne_self_eq_false, Int.reduceBEq, Int.reduceBNe, Int.reduceEq, Int.reduceNe, ne_eq, Int.reduceLT, Int.reduceLE, sDo, wv0]; (repeat refine And.intro (by first | omega | assumption | (and_intros <;> first | omega | assumption) | fail) ?_); refine hK _ ?_; clear hK K)
    | (refine T_cond rfl (fun hc => ?_) (fun hc => ?_) <;> (try simp only [cnds, reduceCtorEq] at hc) <;> (try (first | (exact hc.elim) | (exfalso; omega))))
  refine hQ _ ?_
  simp (disch := omega) only [resOk, res1, retOk, eqs, lk, look, AV.pureA, kill, AV.refs, hty, tyAll, Nat.reduceEqDiff, ↓reduceIte, reduceCtorEq, Nat.reduceLT, Nat.reduceLeDiff, Nat.reduceAdd, Nat.reduceMul, Int.reduceToNat, ne_eq, sdo, implies_true]

theorem doVs : (∀ a b, doV 1 a b 0 = a + b) ∧ (∀ a b, doV 2 a b 0 = a * b) ∧ (∀ a b, doV 3 a b 0 = a - b) ∧ (∀ a b, doV 4 a b 0 = a / b) ∧ (∀ a b, doV 10 a b 0 = a ^ b.toNat) ∧
    (∀ a b, doV 16 a b 0 = bI (decide (a < b))) ∧ (∀ a b, doV 17 a b 0 = bI (decide (b < a))) ∧ (∀ a b, doV 18 a b 0 = bI (decide (sv a < sv b))) ∧ (∀ a b, doV 19 a b 0 = bI (decide (sv b < sv a))) ∧
    (∀ a b, doV 20 a b 0 = bI (decide (a = b))) ∧ (∀ a b, doV 24 a b 0 = lgc (· ^^^ ·) a b) ∧ (∀ a b, doV 25 a b 0 = -1 - a) ∧ (∀ a b, doV 27 a b 0 = shlV a b) ∧ (∀ a b, doV 28 a b 0 = shrV a b) :=
  ⟨fun _ _ => rfl, fun _ _ => rfl, fun _ _ => rfl, fun _ _ => rfl, fun _ _ => rfl, fun _ _ => rfl, fun _ _ => rfl, fun _ _ => rfl, fun _ _ => rfl, fun _ _ => rfl, fun _ _ => rfl, fun _ _ => rfl, fun _ _ => rfl, fun _ _ => rfl⟩
def sLawAlike : List AV → SOut
  | [.arr .u64 4 f, .arr .u64 4 g, .int .u8 n] => ⟨W f ∧ W g ∧ (0 ≤ n ∧ n < 256), .bool true⟩
  | _ => ⟨False, .und⟩
theorem c_AluAlike : Contract Try.prog 26 sLawAlike := by
  refine fun_ok [(60, sFixed1), (95, sdo)] ⟨c_fixed17, c_do, trivial⟩ Try.func26 rfl (by kernel_rfl) Try.ntmps26 Try.results26 (fun E hE hty hfs xs hp => ?_)
  unfold sLawAlike at hp
  split at hp
  case h_2 => exact hp.elim
  rename_i f g n
  obtain ⟨hf, hg, n0, n1⟩ := hp
  have hp : True := trivial
  have fb := wv_bd hf
  have gb := wv_bd hg
  have h0 := W0
  have w1 := one_wl (x := 1) (by decide) (by decide)
  have w2 := one_wl (x := 2) (by decide) (by decide)
  have wn := one_wl (x := n) n0 (by omega)
  have hM : 256 < M := by decide
  have vn := wv_small (x := n) n0 (by omega)
  have v1 := wv_small (x := 1) (by decide) (by decide)
  have v2 := wv_small (x := 2) (by decide) (by decide)
  have hmin : min n 256 = n := Int.min_eq_left (by omega)
  have hpw : (0 : Int) < 2 ^ n.toNat ∧ (2 : Int) ^ n.toNat < M := by
    refine ⟨Int.pow_pos (by decide), Int.lt_of_le_of_lt (ipow_le (show n.toNat ≤ 255 by omega)) (by decide)⟩
  have vp := wv_small (x := 2 ^ n.toNat) (by omega) hpw.2
  have e1 : eqA 4 (wl (wv f - wv g)) (wl (wv (wl (wv f + wv (wl (-1 - wv g)))) + 1)) = true := eqW (by
    rw [wv_wl, wv_wl, Int.emod_add_emod, show wv f + (-1 - wv g) % M + 1 = (wv f + 1) + (-1 - wv g) % M from by omega, Int.add_emod_emod]
    congr 1; omega)
  have e2 : eqA 4 (wl (shlV n (wv f))) (wl (wv f * 2 ^ n.toNat)) = true := by unfold shlV; rw [hmin]; exact eqA_refl _ _
  have e3 : eqA 4 (wl (shrV n (wv f))) (wl (wv f / 2 ^ n.toNat)) = true := by unfold shrV; rw [hmin]; exact eqA_refl _ _
  have vo : wv (wl (-1 - 0)) = M - 1 := by rw [wv_wl]; decide
  have e4 : eqA 4 (wl (-1 - wv f)) (wl (lgc (· ^^^ ·) (wv f) (M - 1))) = true := eqW (by
    rw [xor_ones fb.1 fb.2, show M - 1 - wv f = (-1 - wv f) + M from by omega, Int.add_emod_right])
  have e7 : eqA 4 (wl (wv (wl (wv (wl (bI (decide (wv f < wv g)))) + wv (wl (bI (decide (wv g < wv f)))))) + wv (wl (bI (decide (wv f = wv g)))))) (wl 1) = true := eqW (by
    simp only [wv_wl]
    rcases Int.lt_trichotomy (wv f) (wv g) with h | h | h
    · have h2 : ¬ wv g < wv f := by omega
      have h3 : ¬ wv f = wv g := by omega
      simp only [h, h2, h3, decide_true, decide_false]; decide
    · have h2 : ¬ wv g < wv g := by omega
      simp only [h, h2, decide_true, decide_false]; decide
    · have h2 : ¬ wv f < wv g := by omega
      have h3 : ¬ wv f = wv g := by omega
      simp only [h, h2, h3, decide_true, decide_false]; decide)
  refine ⟨by simp, fun Q hQ => ?_⟩
  simp only [params, Nat.reduceAdd]
  repeat' first
    | refine T_seq' ?_
    | refine T_block ?_
    | refine n_then ?_
    | refine x_then ?_
    | refine r_then ?_
    | refine n_block ?_
    | refine r_block ?_
    | refine x_block ?_
    | refine x_block' (by rfl) ?_
    | refine T_exit ?_
    | refine T_skip ?_
    | refine T_ret ?_
    | ((first | refine T_region hE (by rfl) (fun K hK => ?_) | refine T_draw hE (by rfl) (by kernel_rfl) (fun K hK => ?_)); simp (disch := omega) only [eqs, evs, stp, stepW, wantA, opStep, kindOf, headStep, skipStep, stStep, wrStep, cpStep, stA, appA, readSl, isSl, copyA, kill, AV.refs, hd, hdLoad, hdBin, intBin, hdUn, hdConv, hdIdxAddr, hdIdx, hdSlice, bnd, hdCall, hdCallF, hdLen, hdMin, argsA, mapA, partsOk, partsF, lk, look, addR, evA, constA, HOut.ok, hty, hfs, tyAll, List.map, List.all, List.getElem?_cons_zero, List.getElem?_cons_succ, Option.bind_some, Option.map_some, Option.map_none, Option.getD_some, AV.pureA, Nat.reduceEqDiff, ↓reduceIte, reduceCtorEq, Nat.reduceLT, Nat.reduceLeDiff, Nat.reduceAdd, Nat.reduceMul, Int.reduceToNat, IntKind.bits, BEq.rfl, beq_self_eq_true, bne_self_eq_false, Int.reduceBEq, Int.reduceBNe, Int.reduceEq, Int.reduceNe, ne_eq, Int.reduceLT, Int.reduceLE, sFixed1, sdo, doVs, w1, w2, wn, W_wl, v1, v2, vn, vp, wv0, vo, e1, e2, e3, e4, e7, eqA_refl]; (repeat refine And.intro (by first | omega | assumption | (and_intros <;> first | omega | assumption) | fail) ?_); refine hK _ ?_; clear hK K)
    | (refine T_cond rfl (fun hc => ?_) (fun hc => ?_) <;> (try simp only [cnds, reduceCtorEq] at hc) <;> (try (first | (exact hc.elim) | (exfalso; omega))))
  refine hQ _ ?_
  simp (disch := omega) only [resOk, res1, retOk, eqs, lk, look, AV.pureA, kill, AV.refs, hty, tyAll, Nat.reduceEqDiff, ↓reduceIte, reduceCtorEq, Nat.reduceLT, Nat.reduceLeDiff, Nat.reduceAdd, Nat.reduceMul, Int.reduceToNat, ne_eq, sLawAlike]

end Go.Proofs.Ytijoifajbmhgdaa.Sym
