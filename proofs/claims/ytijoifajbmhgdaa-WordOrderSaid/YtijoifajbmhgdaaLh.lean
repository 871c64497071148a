/- The law on the row of words. -/
import Derived.Test.YtijoifajbmhgdaaLb
namespace Go.Proofs.Ytijoifajbmhgdaa.Sym
set_option linter.unusedVariables false
open Go Go.RowKit Num
set_option maxRecDepth 10000
set_option linter.unusedSimpArgs false

theorem cmp3 (a b : Int) : (cmpI a b = 0 ∧ a = b) ∨ (cmpI a b = -1 ∧ a < b) ∨ (cmpI a b = 1 ∧ b < a) := by
  unfold cmpI
  split
  · rename_i h; exact .inl ⟨rfl, h⟩
  · split
    · rename_i h; exact .inr (.inl ⟨rfl, h⟩)
    · exact .inr (.inr ⟨rfl, by omega⟩)
theorem cmp_sw (a b : Int) : cmpI b a = -cmpI a b := by
  unfold cmpI
  split <;> split <;> (try split) <;> omega
theorem cmp_zero {a b : Int} : (cmpI a b = 0) = (a = b) := by
  unfold cmpI
  apply propext
  split
  · simp_all
  · rename_i h; split <;> simp [h]
theorem eq_of_wv {f g : Nat → Int} (hf : W f) (hg : W g) : eqA 4 f g = decide (wv f = wv g) := by
  by_cases h : wv f = wv g
  · rw [decide_eq_true h]
    exact eqA_eq.2 (wsum_inj B64_pos hf hg h)
  · rw [decide_eq_false h]
    rcases Bool.eq_false_or_eq_true (eqA 4 f g) with k | k
    · exact absurd (wv_congr (eqA_eq.1 k)) h
    · exact k

set_option maxHeartbeats 4000000 in
theorem c_WordOrder : Contract Try.prog 9 sLaw3 := by
  refine fun_ok [(27, sFixed1), (48, sCompare), (49, sOf), (40, sWAdd), (39, sNot)] ⟨c_fixed1, c_Compare, c_Of, c_WAdd, c_Not, trivial⟩ Try.func9 rfl (by kernel_rfl) Try.ntmps9 Try.results9 (fun E hE hty hfs xs hp => ?_)
  unfold sLaw3 at hp
  split at hp
  case h_2 => exact hp.elim
  rename_i f g h
  obtain ⟨hf, hg, hh⟩ := hp
  have hp : True := trivial
  have fb := wv_bd hf
  have gb := wv_bd hg
  have hb := wv_bd hh
  have h0 := W0
  have hE1 : eqA 4 f g = (cmpI (wv f) (wv g) == 0) := by
    rw [eq_of_wv hf hg]
    have hz := @cmp_zero (wv f) (wv g)
    by_cases h : wv f = wv g
    · rw [decide_eq_true h, show cmpI (wv f) (wv g) = 0 from by rw [hz]; exact h]; rfl
    · have h2 : ¬ cmpI (wv f) (wv g) = 0 := by rw [hz]; exact h
      rw [decide_eq_false h]
      exact (beq_eq_false_iff_ne.2 h2).symm
  have hsw := cmp_sw (wv f) (wv g)
  have eN : wl (wv f + wv (wl 1)) = wl (wv f + 1) := by rw [wv_wl]; rfl
  have hE2 : eqA 4 (wl (wv f + 1)) (fun _ => 0) = decide (wv f = M - 1) := by
    rw [eq_of_wv (W_wl _) h0, wv0, wv_wl]
    by_cases h : wv f = M - 1
    · rw [h]; rfl
    · have : (wv f + 1) % M = wv f + 1 := modM (by omega) (by omega)
      rw [this]
      simp [h]
      omega
  have hE3 : eqA 4 f (wl (-1 - wv (fun _ => 0))) = decide (wv f = M - 1) := by
    rw [eq_of_wv hf (W_wl _), wv0, wv_wl]
    rfl
  have hlt : ¬ wv f = M - 1 → cmpI (wv f) (wv (wl (wv f + 1))) = -1 := fun h => by
    rw [wv_wl, modM (by omega) (by omega)]
    unfold cmpI
    rw [if_neg (by omega), if_pos (by omega)]
  have c1 := cmp3 (wv f) (wv g)
  have c2 := cmp3 (wv g) (wv h)
  have c3 := cmp3 (wv f) (wv h)
  generalize hp1 : cmpI (wv f) (wv g) = p at *
  generalize hp2 : cmpI (wv g) (wv h) = q at *
  generalize hp3 : cmpI (wv f) (wv h) = r at *
  refine ⟨by simp, fun Q hQ => ?_⟩
  simp only [params, Nat.reduceAdd]
  by_cases hm : wv f = M - 1
  · rw [decide_eq_true hm] at hE2 hE3
    clear hlt
    rcases c1 with ⟨rfl, c1⟩ | ⟨rfl, c1⟩ | ⟨rfl, c1⟩ <;> rcases c2 with ⟨rfl, c2⟩ | ⟨rfl, c2⟩ | ⟨rfl, c2⟩ <;> rcases c3 with ⟨rfl, c3⟩ | ⟨rfl, c3⟩ | ⟨rfl, c3⟩ <;> (try (exfalso; omega))
    all_goals
      try simp only [Int.neg_neg, Int.neg_zero] at hsw
      repeat' first
        | refine T_seq' ?_
        | refine T_block ?_
        | refine n_then ?_
        | refine x_then ?_
        | refine r_then ?_
        | refine n_block ?_
        | refine r_block ?_
        | refine x_block ?_
        | refine x_block' (by rfl) ?_
        | refine T_exit ?_
        | refine T_skip ?_
        | refine T_ret ?_
        | ((first | refine T_region hE (by rfl) (fun K hK => ?_) | refine T_draw hE (by rfl) (by kernel_rfl) (fun K hK => ?_)); simp (disch := omega) only [eqs, evs, stp, stepW, wantA, opStep, kindOf, headStep, skipStep, stStep, wrStep, cpStep, stA, appA, readSl, isSl, copyA, kill, AV.refs, hd, hdLoad, hdBin, intBin, hdUn, hdConv, hdIdxAddr, hdIdx, hdSlice, bnd, hdCall, hdCallF, hdLen, hdMin, argsA, mapA, partsOk, partsF, lk, look, addR, evA, constA, HOut.ok, hty, hfs, tyAll, List.map, List.all, List.getElem?_cons_zero, List.getElem?_cons_succ, Option.bind_some, Option.map_some, Option.map_none, Option.getD_some, AV.pureA, Nat.reduceEqDiff, ↓reduceIte, reduceCtorEq, Nat.reduceLT, Nat.reduceLeDiff, Nat.reduceAdd, Nat.reduceMul, Int.reduceToNat, IntKind.bits, BEq.rfl, beq_self_eq_true, bne_self_eq_false, Int.reduceBEq, Int.reduceBNe, Int.reduceEq, Int.reduceNe, ne_eq, Int.reduceLT, Int.reduceLE, sFixed1, sCompare, hp1, hp2, hp3, hsw, hE1, Int.reduceNeg, Int.reduceSub, sOf, sWAdd, W_wl, eN, sNot, hE2, hE3]; (repeat refine And.intro (by first | omega | assumption | (and_intros <;> first | omega | assumption) | fail) ?_); refine hK _ ?_; clear hK K)
        | (refine T_cond rfl (fun hc => ?_) (fun hc => ?_) <;> (try simp only [cnds, reduceCtorEq] at hc) <;> (try (first | (exact hc.elim) | (exfalso; omega))))
      refine hQ _ ?_
      simp (disch := omega) only [resOk, res1, retOk, eqs, lk, look, AV.pureA, kill, AV.refs, hty, tyAll, Nat.reduceEqDiff, ↓reduceIte, reduceCtorEq, Nat.reduceLT, Nat.reduceLeDiff, Nat.reduceAdd, Nat.reduceMul, Int.reduceToNat, ne_eq, sLaw3]
  · rw [decide_eq_false hm] at hE2 hE3
    have hlt := hlt hm
    rcases c1 with ⟨rfl, c1⟩ | ⟨rfl, c1⟩ | ⟨rfl, c1⟩ <;> rcases c2 with ⟨rfl, c2⟩ | ⟨rfl, c2⟩ | ⟨rfl, c2⟩ <;> rcases c3 with ⟨rfl, c3⟩ | ⟨rfl, c3⟩ | ⟨rfl, c3⟩ <;> (try (exfalso; omega))
    all_goals
      try simp only [Int.neg_neg, Int.neg_zero] at hsw
      repeat' first
        | refine T_seq' ?_
        | refine T_block ?_
        | refine n_then ?_
        | refine x_then ?_
        | refine r_then ?_
        | refine n_block ?_
        | refine r_block ?_
        | refine x_block ?_
        | refine x_block' (by rfl) ?_
        | refine T_exit ?_
        | refine T_skip ?_
        | refine T_ret ?_
        | ((first | refine T_region hE (by rfl) (fun K hK => ?_) | refine T_draw hE (by rfl) (by kernel_rfl) (fun K hK => ?_)); simp (disch := omega) only [eqs, evs, stp, stepW, wantA, opStep, kindOf, headStep, skipStep, stStep, wrStep, cpStep, stA, appA, readSl, isSl, copyA, kill, AV.refs, hd, hdLoad, hdBin, intBin, hdUn, hdConv, hdIdxAddr, hdIdx, hdSlice, bnd, hdCall, hdCallF, hdLen, hdMin, argsA, mapA, partsOk, partsF, lk, look, addR, evA, constA, HOut.ok, hty, hfs, tyAll, List.map, List.all, List.getElem?_cons_zero, List.getElem?_cons_succ, Option.bind_some, Option.map_some, Option.map_none, Option.getD_some, AV.pureA, Nat.reduceEqDiff, ↓reduceIte, reduceCtorEq, Nat.reduceLT, Nat.reduceLeDiff, Nat.reduceAdd, Nat.reduceMul, Int.reduceToNat, IntKind.bits, BEq.rfl, beq_self_eq_true, bne_self_eq_false, Int.reduceBEq, Int.reduceBNe, Int.reduceEq, Int.reduceNe, ne_eq, Int.reduceLT, Int.reduceLE, sFixed1, sCompare, hp1, hp2, hp3, hsw, hE1, Int.reduceNeg, Int.reduceSub, sOf, sWAdd, W_wl, eN, sNot, hE2, hE3, hlt]; (repeat refine And.intro (by first | omega | assumption | (and_intros <;> first | omega | assumption) | fail) ?_); refine hK _ ?_; clear hK K)
        | (refine T_cond rfl (fun hc => ?_) (fun hc => ?_) <;> (try simp only [cnds, reduceCtorEq] at hc) <;> (try (first | (exact hc.elim) | (exfalso; omega))))
      refine hQ _ ?_
      simp (disch := omega) only [resOk, res1, retOk, eqs, lk, look, AV.pureA, kill, AV.refs, hty, tyAll, Nat.reduceEqDiff, ↓reduceIte, reduceCtorEq, Nat.reduceLT, Nat.reduceLeDiff, Nat.reduceAdd, Nat.reduceMul, Int.reduceToNat, ne_eq, sLaw3]

end Go.Proofs.Ytijoifajbmhgdaa.Sym
