/- Which instruction is which function; the word that it puts. -/
import Derived.Test.YtijoifajbmhgdaaGreatAa
namespace Go.Proofs.YtijoifajbmhgdaaGreat.Sym
set_option linter.unusedVariables false
open Go Go.RowKit Num
set_option maxRecDepth 10000
set_option linter.unusedSimpArgs false

theorem op_cases {op : Int} (h0 : 0 ≤ op) (h1 : op ≤ 29) : op = 0 ∨ op = 1 ∨ op = 2 ∨ op = 3 ∨ op = 4 ∨ op = 5 ∨ op = 6 ∨ op = 7 ∨ op = 8 ∨ op = 9 ∨ op = 10 ∨ op = 11 ∨ op = 12 ∨ op = 13 ∨ op = 14 ∨ op = 15 ∨ op = 16 ∨ op = 17 ∨ op = 18 ∨ op = 19 ∨ op = 20 ∨ op = 21 ∨ op = 22 ∨ op = 23 ∨ op = 24 ∨ op = 25 ∨ op = 26 ∨ op = 27 ∨ op = 28 ∨ op = 29 := by omega
def arithA (op : Int) : AV := if op = 1 then .fn 29 else if op = 2 then .fn 30 else if op = 3 then .fn 31 else if op = 4 then .fn 32 else if op = 5 then .fn 33 else if op = 6 then .fn 34 else if op = 7 then .fn 35 else if op = 10 then .fn 36 else if op = 11 then .fn 37 else .nilfn
def logicA (op : Int) : AV := if op = 16 then .fn 38 else if op = 17 then .fn 39 else if op = 18 then .fn 40 else if op = 19 then .fn 41 else if op = 20 then .fn 42 else if op = 21 then .fn 43 else if op = 22 then .fn 44 else if op = 23 then .fn 45 else if op = 24 then .fn 46 else if op = 25 then .fn 47 else if op = 26 then .fn 48 else if op = 27 then .fn 49 else if op = 28 then .fn 50 else if op = 29 then .fn 51 else .nilfn
def aluF (op a b : Int) : Int := if op = 1 then a + b else if op = 2 then a * b else if op = 3 then a - b else if op = 4 then a / b else if op = 5 then sdQ a b else if op = 6 then nr a b else if op = 7 then sdR a b else if op = 10 then a ^ b.toNat else if op = 11 then extV a b else if op = 16 then bI (decide (a < b)) else if op = 17 then bI (decide (b < a)) else if op = 18 then bI (decide (sv a < sv b)) else if op = 19 then bI (decide (sv b < sv a)) else if op = 20 then bI (decide (a = b)) else if op = 21 then bI (decide (a = 0)) else if op = 22 then lgc (· &&& ·) a b else if op = 23 then lgc (· ||| ·) a b else if op = 24 then lgc (· ^^^ ·) a b else if op = 25 then -1 - a else if op = 26 then byV a b else if op = 27 then shlV a b else if op = 28 then shrV a b else if op = 29 then srV a b else 0
def doV (op a b c : Int) : Int := if op = 8 then nr (a + b) c else if op = 9 then nr (a * b) c else aluF op a b
def doOk (op : Int) : Bool := decide ((1 ≤ op ∧ op ≤ 11) ∨ (16 ≤ op ∧ op ≤ 29))
def takesV (op : Int) : Int := if op = 8 ∨ op = 9 then 3 else if op = 21 ∨ op = 25 then 1 else if (1 ≤ op ∧ op ≤ 11) ∨ (16 ≤ op ∧ op ≤ 29) then 2 else 0
def sArith : List AV → SOut
  | [.int .u8 op] => ⟨0 ≤ op ∧ op < 256, arithA op⟩
  | _ => ⟨False, .und⟩
def sLogic : List AV → SOut
  | [.int .u8 op] => ⟨0 ≤ op ∧ op < 256, logicA op⟩
  | _ => ⟨False, .und⟩
def sTakes : List AV → SOut
  | [.int .u8 op] => ⟨0 ≤ op ∧ op < 256, .int .i64 (takesV op)⟩
  | _ => ⟨False, .und⟩
theorem arith_no {op : Int} (h : ¬ (op = 1 ∨ op = 2 ∨ op = 3 ∨ op = 4 ∨ op = 5 ∨ op = 6 ∨ op = 7 ∨ op = 10 ∨ op = 11)) : arithA op = .nilfn := by
  unfold arithA
  repeat rw [if_neg (by omega)]
theorem logic_no {op : Int} (h : ¬ (op = 16 ∨ op = 17 ∨ op = 18 ∨ op = 19 ∨ op = 20 ∨ op = 21 ∨ op = 22 ∨ op = 23 ∨ op = 24 ∨ op = 25 ∨ op = 26 ∨ op = 27 ∨ op = 28 ∨ op = 29)) : logicA op = .nilfn := by
  unfold logicA
  repeat rw [if_neg (by omega)]
theorem arith_none {op : Int} (h : 30 ≤ op) : arithA op = .nilfn := by
  unfold arithA
  repeat rw [if_neg (by omega)]
theorem logic_none {op : Int} (h : 30 ≤ op) : logicA op = .nilfn := by
  unfold logicA
  repeat rw [if_neg (by omega)]
theorem doV_none {op a b c : Int} (h : 30 ≤ op) : doV op a b c = 0 := by
  unfold doV aluF
  repeat rw [if_neg (by omega)]
theorem takes_none {op : Int} (h : 30 ≤ op) : takesV op = 0 := by
  unfold takesV
  repeat rw [if_neg (by omega)]
theorem ok_none {op : Int} (h : 30 ≤ op) : doOk op = false := decide_eq_false (by omega)

set_option maxHeartbeats 4000000 in
theorem c_arith : Contract Tryz.prog 11 sArith := by
  refine fun_ok [] trivial Tryz.func11 rfl (by kernel_rfl) Tryz.ntmps11 Tryz.results11 (fun E hE hty hfs xs hp => ?_)
  unfold sArith at hp
  split at hp
  case h_2 => exact hp.elim
  rename_i op
  obtain ⟨o0, o1⟩ := hp
  have hp : True := trivial
  refine ⟨by simp, fun Q hQ => ?_⟩
  simp only [params, Nat.reduceAdd]
  repeat' first
    | refine T_seq' ?_
    | refine T_block ?_
    | refine n_then ?_
    | refine x_then ?_
    | refine r_then ?_
    | refine n_block ?_
    | refine r_block ?_
    | refine x_block ?_
    | refine x_block' (by rfl) ?_
    | refine T_exit ?_
    | refine T_skip ?_
    | refine T_ret ?_
    | ((first | refine T_region hE (by rfl) (fun K hK => ?_) | refine T_draw hE (by rfl) (by kernel_rfl) (fun K hK => ?_)); simp (disch := omega) only [eqs, evs, stp, stepW, wantA, opStep, kindOf, headStep, skipStep, stStep, wrStep, cpStep, stA, appA, readSl, isSl, copyA, kill, AV.refs, hd, hdLoad, hdBin, intBin, hdUn, hdConv, hdIdxAddr, hdIdx, hdSlice, bnd, hdCall, hdCallF, hdLen, hdMin, argsA, mapA, partsOk, partsF, lk, look, addR, evA, constA, HOut.ok, hty, hfs, tyAll, List.map, List.all, List.getElem?_cons_zero, List.getElem?_cons_succ, Option.bind_some, Option.map_some, Option.map_none, Option.getD_some, AV.pureA, Nat.reduceEqDiff, ↓reduceIte, reduceCtorEq, Nat.reduceLT, Nat.reduceLeDiff, Nat.reduceAdd, Nat.reduceMul, Int.reduceToNat, IntKind.bits, BEq.rfl, beq_self_eq_true, bne_self_eq_false, Int.reduceBEq, Int.reduceBNe, Int.reduceEq, Int.reduceNe, ne_eq, Int.reduceLT, Int.reduceLE]; (repeat refine And.intro (by first | omega | assumption | (and_intros <;> first | omega | assumption) | fail) ?_); refine hK _ ?_; clear hK K)
    | (refine T_cond rfl (fun hc => ?_) (fun hc => ?_) <;> (try simp only [cnds, reduceCtorEq] at hc) <;> (try (first | (exact hc.elim) | (exfalso; omega))))
  all_goals try subst hc
  all_goals refine hQ _ ?_
  all_goals first
    | (simp (disch := omega) only [resOk, res1, retOk, sArith, arithA, Int.reduceEq, eqs, lk, look, AV.pureA, kill, AV.refs, hty, tyAll, Nat.reduceEqDiff, ↓reduceIte, reduceCtorEq, Nat.reduceLT, Nat.reduceLeDiff, Nat.reduceAdd, Nat.reduceMul, Int.reduceToNat, ne_eq]; done)
    | (have e : arithA op = .nilfn := arith_no (op := op) (by omega); simp (disch := omega) only [resOk, res1, retOk, sArith, e, eqs, lk, look, AV.pureA, kill, AV.refs, hty, tyAll, Nat.reduceEqDiff, ↓reduceIte, reduceCtorEq, Nat.reduceLT, Nat.reduceLeDiff, Nat.reduceAdd, Nat.reduceMul, Int.reduceToNat, ne_eq])

set_option maxHeartbeats 4000000 in
theorem c_logic : Contract Tryz.prog 12 sLogic := by
  refine fun_ok [] trivial Tryz.func12 rfl (by kernel_rfl) Tryz.ntmps12 Tryz.results12 (fun E hE hty hfs xs hp => ?_)
  unfold sLogic at hp
  split at hp
  case h_2 => exact hp.elim
  rename_i op
  obtain ⟨o0, o1⟩ := hp
  have hp : True := trivial
  refine ⟨by simp, fun Q hQ => ?_⟩
  simp only [params, Nat.reduceAdd]
  repeat' first
    | refine T_seq' ?_
    | refine T_block ?_
    | refine n_then ?_
    | refine x_then ?_
    | refine r_then ?_
    | refine n_block ?_
    | refine r_block ?_
    | refine x_block ?_
    | refine x_block' (by rfl) ?_
    | refine T_exit ?_
    | refine T_skip ?_
    | refine T_ret ?_
    | ((first | refine T_region hE (by rfl) (fun K hK => ?_) | refine T_draw hE (by rfl) (by kernel_rfl) (fun K hK => ?_)); simp (disch := omega) only [eqs, evs, stp, stepW, wantA, opStep, kindOf, headStep, skipStep, stStep, wrStep, cpStep, stA, appA, readSl, isSl, copyA, kill, AV.refs, hd, hdLoad, hdBin, intBin, hdUn, hdConv, hdIdxAddr, hdIdx, hdSlice, bnd, hdCall, hdCallF, hdLen, hdMin, argsA, mapA, partsOk, partsF, lk, look, addR, evA, constA, HOut.ok, hty, hfs, tyAll, List.map, List.all, List.getElem?_cons_zero, List.getElem?_cons_succ, Option.bind_some, Option.map_some, Option.map_none, Option.getD_some, AV.pureA, Nat.reduceEqDiff, ↓reduceIte, reduceCtorEq, Nat.reduceLT, Nat.reduceLeDiff, Nat.reduceAdd, Nat.reduceMul, Int.reduceToNat, IntKind.bits, BEq.rfl, beq_self_eq_true, bne_self_eq_false, Int.reduceBEq, Int.reduceBNe, Int.reduceEq, Int.reduceNe, ne_eq, Int.reduceLT, Int.reduceLE]; (repeat refine And.intro (by first | omega | assumption | (and_intros <;> first | omega | assumption) | fail) ?_); refine hK _ ?_; clear hK K)
    | (refine T_cond rfl (fun hc => ?_) (fun hc => ?_) <;> (try simp only [cnds, reduceCtorEq] at hc) <;> (try (first | (exact hc.elim) | (exfalso; omega))))
  all_goals try subst hc
  all_goals refine hQ _ ?_
  all_goals first
    | (simp (disch := omega) only [resOk, res1, retOk, sLogic, logicA, Int.reduceEq, eqs, lk, look, AV.pureA, kill, AV.refs, hty, tyAll, Nat.reduceEqDiff, ↓reduceIte, reduceCtorEq, Nat.reduceLT, Nat.reduceLeDiff, Nat.reduceAdd, Nat.reduceMul, Int.reduceToNat, ne_eq]; done)
    | (have e : logicA op = .nilfn := logic_no (op := op) (by omega); simp (disch := omega) only [resOk, res1, retOk, sLogic, e, eqs, lk, look, AV.pureA, kill, AV.refs, hty, tyAll, Nat.reduceEqDiff, ↓reduceIte, reduceCtorEq, Nat.reduceLT, Nat.reduceLeDiff, Nat.reduceAdd, Nat.reduceMul, Int.reduceToNat, ne_eq])

set_option maxHeartbeats 4000000 in
theorem c_Takes : Contract Tryz.prog 7 sTakes := by
  refine fun_ok [] trivial Tryz.func7 rfl (by kernel_rfl) Tryz.ntmps7 Tryz.results7 (fun E hE hty hfs xs hp => ?_)
  unfold sTakes at hp
  split at hp
  case h_2 => exact hp.elim
  rename_i op
  obtain ⟨o0, o1⟩ := hp
  have hp : True := trivial
  refine ⟨by simp, fun Q hQ => ?_⟩
  simp only [params, Nat.reduceAdd]
  by_cases h30 : op ≤ 29
  · rcases op_cases o0 h30 with rfl | rfl | rfl | rfl | rfl | rfl | rfl | rfl | rfl | rfl | rfl | rfl | rfl | rfl | rfl | rfl | rfl | rfl | rfl | rfl | rfl | rfl | rfl | rfl | rfl | rfl | rfl | rfl | rfl | rfl
    all_goals
      repeat' first
        | refine T_seq' ?_
        | refine T_block ?_
        | refine n_then ?_
        | refine x_then ?_
        | refine r_then ?_
        | refine n_block ?_
        | refine r_block ?_
        | refine x_block ?_
        | refine x_block' (by rfl) ?_
        | refine T_exit ?_
        | refine T_skip ?_
        | refine T_ret ?_
        | ((first | refine T_region hE (by rfl) (fun K hK => ?_) | refine T_draw hE (by rfl) (by kernel_rfl) (fun K hK => ?_)); simp (disch := omega) only [eqs, evs, stp, stepW, wantA, opStep, kindOf, headStep, skipStep, stStep, wrStep, cpStep, stA, appA, readSl, isSl, copyA, kill, AV.refs, hd, hdLoad, hdBin, intBin, hdUn, hdConv, hdIdxAddr, hdIdx, hdSlice, bnd, hdCall, hdCallF, hdLen, hdMin, argsA, mapA, partsOk, partsF, lk, look, addR, evA, constA, HOut.ok, hty, hfs, tyAll, List.map, List.all, List.getElem?_cons_zero, List.getElem?_cons_succ, Option.bind_some, Option.map_some, Option.map_none, Option.getD_some, AV.pureA, Nat.reduceEqDiff, ↓reduceIte, reduceCtorEq, Nat.reduceLT, Nat.reduceLeDiff, Nat.reduceAdd, Nat.reduceMul, Int.reduceToNat, IntKind.bits, BEq.rfl, beq_self_eq_true, bne_self_eq_false, Int.reduceBEq, Int.reduceBNe, Int.reduceEq, Int.reduceNe, ne_eq, Int.reduceLT, Int.reduceLE]; (repeat refine And.intro (by first | omega | assumption | (and_intros <;> first | omega | assumption) | fail) ?_); refine hK _ ?_; clear hK K)
        | (refine T_cond rfl (fun hc => ?_) (fun hc => ?_) <;> (try simp only [cnds, reduceCtorEq] at hc) <;> (try (first | (exact hc.elim) | (exfalso; omega))))
      refine hQ _ ?_
      simp (disch := omega) only [resOk, res1, retOk, eqs, lk, look, AV.pureA, kill, AV.refs, hty, tyAll, Nat.reduceEqDiff, ↓reduceIte, reduceCtorEq, Nat.reduceLT, Nat.reduceLeDiff, Nat.reduceAdd, Nat.reduceMul, Int.reduceToNat, ne_eq, sTakes]
      first | rfl | exact ⟨rfl, rfl⟩
  · have e := takes_none (op := op) (by omega)
    have n1 : (op == 8) = false := beq_eq_false_iff_ne.2 (by omega)
    have n2 : (op == 9) = false := beq_eq_false_iff_ne.2 (by omega)
    have n3 : (op == 21) = false := beq_eq_false_iff_ne.2 (by omega)
    have n4 : (op == 25) = false := beq_eq_false_iff_ne.2 (by omega)
    have n5 : 1 ≤ op := by omega
    have n6 : ¬ op ≤ 11 := by omega
    have n7 : 16 ≤ op := by omega
    repeat' first
      | refine T_seq' ?_
      | refine T_block ?_
      | refine n_then ?_
      | refine x_then ?_
      | refine r_then ?_
      | refine n_block ?_
      | refine r_block ?_
      | refine x_block ?_
      | refine x_block' (by rfl) ?_
      | refine T_exit ?_
      | refine T_skip ?_
      | refine T_ret ?_
      | ((first | refine T_region hE (by rfl) (fun K hK => ?_) | refine T_draw hE (by rfl) (by kernel_rfl) (fun K hK => ?_)); simp (disch := omega) only [eqs, evs, stp, stepW, wantA, opStep, kindOf, headStep, skipStep, stStep, wrStep, cpStep, stA, appA, readSl, isSl, copyA, kill, AV.refs, hd, hdLoad, hdBin, intBin, hdUn, hdConv, hdIdxAddr, hdIdx, hdSlice, bnd, hdCall, hdCallF, hdLen, hdMin, argsA, mapA, partsOk, partsF, lk, look, addR, evA, constA, HOut.ok, hty, hfs, tyAll, List.map, List.all, List.getElem?_cons_zero, List.getElem?_cons_succ, Option.bind_some, Option.map_some, Option.map_none, Option.getD_some, AV.pureA, Nat.reduceEqDiff, ↓reduceIte, reduceCtorEq, Nat.reduceLT, Nat.reduceLeDiff, Nat.reduceAdd, Nat.reduceMul, Int.reduceToNat, IntKind.bits, BEq.rfl, beq_self_eq_true, bne_self_eq_false, Int.reduceBEq, Int.reduceBNe, Int.reduceEq, Int.reduceNe, ne_eq, Int.reduceLT, Int.reduceLE, n1, n2, n3, n4, n5, n6, n7, h30]; (repeat refine And.intro (by first | omega | assumption | (and_intros <;> first | omega | assumption) | fail) ?_); refine hK _ ?_; clear hK K)
      | (refine T_cond rfl (fun hc => ?_) (fun hc => ?_) <;> (try simp only [cnds, reduceCtorEq] at hc) <;> (try (first | (exact hc.elim) | (exfalso; omega))))
    refine hQ _ ?_
    simp (disch := omega) only [resOk, res1, retOk, eqs, lk, look, AV.pureA, kill, AV.refs, hty, tyAll, Nat.reduceEqDiff, ↓reduceIte, reduceCtorEq, Nat.reduceLT, Nat.reduceLeDiff, Nat.reduceAdd, Nat.reduceMul, Int.reduceToNat, ne_eq, sTakes, e]


end Go.Proofs.YtijoifajbmhgdaaGreat.Sym
