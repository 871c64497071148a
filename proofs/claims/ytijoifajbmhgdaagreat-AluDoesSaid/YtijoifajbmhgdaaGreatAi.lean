/- The document's instructions: the first. -/
import Derived.Test.YtijoifajbmhgdaaGreatAe
import Derived.Test.YtijoifajbmhgdaaGreatAc
namespace Go.Proofs.YtijoifajbmhgdaaGreat.Sym
set_option linter.unusedVariables false
open Go Go.RowKit Num
set_option maxRecDepth 10000
set_option linter.unusedSimpArgs false

/-- The parts of the instructions. -/
def opLe (ys : List AV) : Prop := match ys with | .int _ op :: _ => op ≤ 15 | _ => False
def opBet (ys : List AV) : Prop := match ys with | .int _ op :: _ => 16 ≤ op ∧ op ≤ 25 | _ => False
def opGt (ys : List AV) : Prop := match ys with | .int _ op :: _ => 26 ≤ op | _ => False
theorem contract_of3 {P : Program} {g : FuncId} {s : List AV → SOut} (hc : ∀ ys, (s ys).pre → opLe ys ∨ opBet ys ∨ opGt ys) (h1 : Contract P g fun ys => ⟨(s ys).pre ∧ opLe ys, (s ys).v⟩) (h2 : Contract P g fun ys => ⟨(s ys).pre ∧ opBet ys, (s ys).v⟩) (h3 : Contract P g fun ys => ⟨(s ys).pre ∧ opGt ys, (s ys).v⟩) : Contract P g s := by
  intro ys vs w O hO hp hdd hpre
  rcases hc ys hpre with c | c | c
  · exact h1 ys vs w O hO hp hdd ⟨hpre, c⟩
  · exact h2 ys vs w O hO hp hdd ⟨hpre, c⟩
  · exact h3 ys vs w O hO hp hdd ⟨hpre, c⟩
theorem op_0_15 {op : Int} (h0 : 0 ≤ op) (h1 : op ≤ 15) : op = 0 ∨ op = 1 ∨ op = 2 ∨ op = 3 ∨ op = 4 ∨ op = 5 ∨ op = 6 ∨ op = 7 ∨ op = 8 ∨ op = 9 ∨ op = 10 ∨ op = 11 ∨ op = 12 ∨ op = 13 ∨ op = 14 ∨ op = 15 := by omega
set_option maxHeartbeats 8000000 in
theorem c_RDo1 : Contract Tryz.prog 5 (fun ys => ⟨(sDo ys).pre ∧ opLe ys, (sDo ys).v⟩) := by
  refine fun_ok [(8, sTakes), (13, sRLow), (14, sROf), (15, sRNeg), (17, sRCompare), (16, sTruth), (18, sSLess), (19, sDZero), (20, sRLogic), (21, sRWord), (22, sBy), (23, sRShift), (24, sRSar)] ⟨c_RTakes, c_low, c_ROf, c_RNeg, c_RCompare, c_Rtruth, c_RSLess, c_DZero, c_RLogic, c_RWord, c_by, c_RShift, c_RSar, trivial⟩ Tryz.func5 rfl (by kernel_rfl) Tryz.ntmps5 Tryz.results5 (fun E hE hty hfs xs hp => ?_)
  obtain ⟨hp, hcond⟩ := hp
  unfold sDo at hp
  split at hp
  case h_2 => exact hp.elim
  rename_i op f g h
  obtain ⟨⟨o0, o1⟩, hf, hg, hh⟩ := hp
  have hp : True := trivial
  simp only [opLe, opBet, opGt] at hcond
  have fb := wv_bd hf
  have gb := wv_bd hg
  have d1 := dvdl hf
  have d2 := dvdl hg
  have hM1 : 1 < M := by decide
  have dO : dv (dl (-dv (dl 1))) = M - 1 := by rw [dv_dl, dv_dl]; decide
  have hneg : -(1 % M) % M = M - 1 := by decide
  have eV := eqA_val hf hg
  refine ⟨by simp, fun Q hQ => ?_⟩
  simp only [params, Nat.reduceAdd]
  rcases op_0_15 o0 hcond with rfl | rfl | rfl | rfl | rfl | rfl | rfl | rfl | rfl | rfl | rfl | rfl | rfl | rfl | rfl | rfl
  all_goals
    repeat' first
      | refine T_seq' ?_
      | refine T_block ?_
      | refine n_then ?_
      | refine x_then ?_
      | refine r_then ?_
      | refine n_block ?_
      | refine r_block ?_
      | refine x_block ?_
      | refine x_block' (by rfl) ?_
      | refine T_exit ?_
      | refine T_skip ?_
      | refine T_ret ?_
      | ((first | refine T_region hE (by rfl) (fun K hK => ?_) | refine T_draw hE (by rfl) (by kernel_rfl) (fun K hK => ?_)); simp (disch := omega) only [eqs, evs, stp, stepW, wantA, opStep, kindOf, headStep, skipStep, stStep, wrStep, cpStep, stA, appA, readSl, isSl, copyA, kill, AV.refs, hd, hdLoad, hdBin, intBin, hdUn, hdConv, hdIdxAddr, hdIdx, hdSlice, bnd, hdCall, hdCallF, hdLen, hdMin, argsA, mapA, partsOk, partsF, lk, look, addR, evA, constA, HOut.ok, hty, hfs, tyAll, List.map, List.all, List.getElem?_cons_zero, List.getElem?_cons_succ, Option.bind_some, Option.map_some, Option.map_none, Option.getD_some, AV.pureA, Nat.reduceEqDiff, ↓reduceIte, reduceCtorEq, Nat.reduceLT, Nat.reduceLeDiff, Nat.reduceAdd, Nat.reduceMul, Int.reduceToNat, IntKind.bits, BEq.rfl, beq_self_eq_true, bne_self_eq_false, Int.reduceBEq, Int.reduceBNe, Int.reduceEq, Int.reduceNe, ne_eq, Int.reduceLT, Int.reduceLE, sTakes, takesV, sRLow]; (repeat refine And.intro (by first | omega | assumption | (and_intros <;> first | omega | assumption) | fail) ?_); refine hK _ ?_; clear hK K)
      | (refine T_cond rfl (fun hc => ?_) (fun hc => ?_) <;> (try simp only [cnds, reduceCtorEq] at hc) <;> (try (first | (exact hc.elim) | (exfalso; omega))))
    refine hQ _ ?_
    simp (disch := omega) only [resOk, res1, retOk, eqs, lk, look, AV.pureA, kill, AV.refs, hty, tyAll, Nat.reduceEqDiff, ↓reduceIte, reduceCtorEq, Nat.reduceLT, Nat.reduceLeDiff, Nat.reduceAdd, Nat.reduceMul, Int.reduceToNat, ne_eq, sDo]
    first | exact ⟨fun _ _ => rfl, rfl⟩ | exact ⟨fun _ _ => trivial, rfl⟩ | (refine ⟨fun j _ => ?_, rfl⟩; exact (congrFun wl_zero j).symm)

end Go.Proofs.YtijoifajbmhgdaaGreat.Sym
