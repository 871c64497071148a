/- Fees: the step and the next fee, the program's and the document's. -/
import Derived.Test.YtijoifajbmhgdaaFa
namespace Go.Proofs.Ytijoifajbmhgdaa.Sym
set_option linter.unusedVariables false
open Go Go.RowKit Num
set_option maxRecDepth 10000
set_option linter.unusedSimpArgs false

def stepV (b g t : Int) : Int := if t = 0 then 0 else if M ≤ b * g / t / 8 then M - 1 else b * g / t / 8
theorem stepV_bd {b g t : Int} (hb : 0 ≤ b) (hg : 0 ≤ g) (ht : 0 ≤ t) : 0 ≤ stepV b g t ∧ stepV b g t < M := by
  have h1 : 0 ≤ b * g / t / 8 := Int.ediv_nonneg (Int.ediv_nonneg (Int.mul_nonneg hb hg) ht) (by decide)
  have hM : 0 < M := by decide
  unfold stepV
  split
  · omega
  · split <;> omega
theorem quo_step {P t : Int} (hP : 0 ≤ P) (ht : 0 < t) : quV (P % M) (P / M) (t * 8) = if M ≤ P / t / 8 then M - 1 else P / t / 8 := by
  have e1 := Int.mul_ediv_add_emod P M
  have e2 : P / t / 8 = P / (t * 8) := by rw [Int.ediv_ediv_of_nonneg (by omega)]
  have hc : (t * 8 ≤ P / M) = (M ≤ P / (t * 8)) := by
    apply propext
    rw [Int.le_ediv_iff_mul_le (by decide), Int.le_ediv_iff_mul_le (by omega), Int.mul_comm M]
  unfold quV
  rw [e2, show P % M + P / M * M = P from by rw [Int.mul_comm]; omega]
  simp only [hc]
def sStepF : List AV → SOut
  | [.arr .u64 4 f, .int .u64 g, .int .u64 t] => ⟨W f ∧ (0 ≤ g ∧ g < 18446744073709551616) ∧ (0 ≤ t ∧ t < 18446744073709551616), .arr .u64 4 (wl (stepV (wv f) g t))⟩
  | _ => ⟨False, .und⟩
theorem c_FStep : Contract Try.prog 64 sStepF := by
  refine fun_ok [(49, sOf), (90, sProd), (107, sQuo)] ⟨c_Of, c_Product, c_quotient, trivial⟩ Try.func64 rfl (by kernel_rfl) Try.ntmps64 Try.results64 (fun E hE hty hfs xs hp => ?_)
  unfold sStepF at hp
  split at hp
  case h_2 => exact hp.elim
  rename_i f g t
  obtain ⟨hf, ⟨g0, g1⟩, t0, t1⟩ := hp
  have hp : True := trivial
  have fb := wv_bd hf
  have hM : 18446744073709551616 * 32 < M := by decide
  refine ⟨by simp, fun Q hQ => ?_⟩
  simp only [params, Nat.reduceAdd]
  by_cases hz : t = 0
  · repeat' first
      | refine T_seq' ?_
      | refine T_block ?_
      | refine n_then ?_
      | refine x_then ?_
      | refine r_then ?_
      | refine n_block ?_
      | refine r_block ?_
      | refine x_block ?_
      | refine x_block' (by rfl) ?_
      | refine T_exit ?_
      | refine T_skip ?_
      | refine T_ret ?_
      | (refine T_region hE (by rfl) (fun K hK => ?_); simp (disch := omega) only [eqs, evs, stp, stepW, wantA, opStep, kindOf, headStep, skipStep, stStep, wrStep, cpStep, stA, appA, readSl, isSl, copyA, kill, AV.refs, hd, hdLoad, hdBin, intBin, hdUn, hdConv, hdIdxAddr, hdIdx, hdSlice, bnd, hdCall, hdCallF, hdLen, hdMin, argsA, mapA, partsOk, partsF, lk, look, addR, evA, constA, HOut.ok, hty, hfs, tyAll, List.map, List.all, List.getElem?_cons_zero, List.getElem?_cons_succ, Option.bind_some, Option.map_some, Option.map_none, Option.getD_some, AV.pureA, Nat.reduceEqDiff, ↓reduceIte, reduceCtorEq, Nat.reduceLT, Nat.reduceLeDiff, Nat.reduceAdd, Nat.reduceMul, Int.reduceToNat, IntKind.bits, BEq.rfl, beq_self_eq_true, bne_self_eq_false, Int.reduceBEq, Int.reduceBNe, Int.reduceEq, Int.reduceNe, ne_eq, Int.reduceLT, Int.reduceLE, hz]; (repeat refine And.intro (by first | omega | assumption | (and_intros <;> first | omega | assumption) | fail) ?_); refine hK _ ?_; clear hK K)
      | (refine T_cond rfl (fun hc => ?_) (fun hc => ?_) <;> (try simp only [cnds, reduceCtorEq] at hc) <;> (try (first | (exact hc.elim) | (exfalso; omega))))
    refine hQ _ ?_
    simp (disch := omega) only [resOk, res1, retOk, eqs, lk, look, AV.pureA, kill, AV.refs, hty, tyAll, Nat.reduceEqDiff, ↓reduceIte, reduceCtorEq, Nat.reduceLT, Nat.reduceLeDiff, Nat.reduceAdd, Nat.reduceMul, Int.reduceToNat, ne_eq, sStepF, stepV, hz, if_true, wl_zero, implies_true]
  have nz : (t == 0) = false := beq_eq_false_iff_ne.2 hz
  have vg := wv_small (x := g) g0 (by omega)
  have vt := wv_small (x := t) t0 (by omega)
  have v8 := wv_small (x := 8) (by decide) (by decide)
  have hP : 0 ≤ wv f * g := Int.mul_nonneg fb.1 g0
  have hPM : wv f * g < M * M := by
    have := Int.mul_le_mul (show wv f ≤ M - 1 by omega) (show g ≤ M - 1 by omega) g0 (by decide)
    have h2 : (M - 1) * (M - 1) < M * M := by decide
    omega
  have hq : 0 ≤ wv f * g / M ∧ wv f * g / M < M := ⟨Int.ediv_nonneg hP (by decide), Int.ediv_lt_of_lt_mul M_pos hPM⟩
  have vq := wv_small hq.1 hq.2
  have v8t := wv_small (x := t * 8) (by omega) (by omega)
  have hov : t * 8 / M = 0 := Int.ediv_eq_zero_of_lt (by omega) (by omega)
  have e1 : eqA 4 (wl 0) (fun _ => 0) = true := eqW0 (by decide)
  have p1 : 2 * (t * 8) ≤ M := by omega
  have fin := quo_step hP (show 0 < t by omega)
  have vP := wv_wl (wv f * g)
  repeat' first
    | refine T_seq' ?_
    | refine T_block ?_
    | refine n_then ?_
    | refine x_then ?_
    | refine r_then ?_
    | refine n_block ?_
    | refine r_block ?_
    | refine x_block ?_
    | refine x_block' (by rfl) ?_
    | refine T_exit ?_
    | refine T_skip ?_
    | refine T_ret ?_
    | (refine T_region hE (by rfl) (fun K hK => ?_); simp (disch := omega) only [eqs, evs, stp, stepW, wantA, opStep, kindOf, headStep, skipStep, stStep, wrStep, cpStep, stA, appA, readSl, isSl, copyA, kill, AV.refs, hd, hdLoad, hdBin, intBin, hdUn, hdConv, hdIdxAddr, hdIdx, hdSlice, bnd, hdCall, hdCallF, hdLen, hdMin, argsA, mapA, partsOk, partsF, lk, look, addR, evA, constA, HOut.ok, hty, hfs, tyAll, List.map, List.all, List.getElem?_cons_zero, List.getElem?_cons_succ, Option.bind_some, Option.map_some, Option.map_none, Option.getD_some, AV.pureA, Nat.reduceEqDiff, ↓reduceIte, reduceCtorEq, Nat.reduceLT, Nat.reduceLeDiff, Nat.reduceAdd, Nat.reduceMul, Int.reduceToNat, IntKind.bits, BEq.rfl, beq_self_eq_true, bne_self_eq_false, Int.reduceBEq, Int.reduceBNe, Int.reduceEq, Int.reduceNe, ne_eq, Int.reduceLT, Int.reduceLE, nz]; (repeat refine And.intro (by first | omega | assumption | (and_intros <;> first | omega | assumption) | fail) ?_); refine hK _ ?_; clear hK K)
    | (refine T_cond rfl (fun hc => ?_) (fun hc => ?_) <;> (try simp only [cnds, reduceCtorEq] at hc) <;> (try (first | (exact hc.elim) | (exfalso; omega))))
  refine T_drawP [(14, 7)] hE (by rfl) (by kernel_rfl) (fun K hK => ?_)
  simp (disch := omega) only [disj, noSh, eqs, evs, stp, stepW, wantA, opStep, kindOf, headStep, skipStep, stStep, wrStep, cpStep, stA, appA, readSl, isSl, copyA, kill, AV.refs, hd, hdLoad, hdBin, intBin, hdUn, hdConv, hdIdxAddr, hdIdx, hdSlice, bnd, hdCall, hdCallF, hdLen, hdMin, argsA, mapA, partsOk, partsF, lk, look, addR, evA, constA, HOut.ok, hty, hfs, tyAll, List.map, List.all, List.getElem?_cons_zero, List.getElem?_cons_succ, Option.bind_some, Option.map_some, Option.map_none, Option.getD_some, AV.pureA, Nat.reduceEqDiff, ↓reduceIte, reduceCtorEq, Nat.reduceLT, Nat.reduceLeDiff, Nat.reduceAdd, Nat.reduceMul, Int.reduceToNat, IntKind.bits, BEq.rfl, beq_self_eq_true, bne_self_eq_false, Int.reduceBEq, Int.reduceBNe, Int.reduceEq, Int.reduceNe, ne_eq, Int.reduceLT, Int.reduceLE, sOf, sProd, W_wl, vg]
  (repeat refine And.intro (by first | omega | assumption | (and_intros <;> first | omega | assumption) | fail) ?_); refine hK _ (by simp only [disj, noSh, lk, AV.pureA, Bool.and_self, true_and, ne_eq, Nat.reduceEqDiff, not_false_eq_true, ↓reduceIte, and_self]) ?_
  clear hK K
  repeat' first
    | refine T_seq' ?_
    | refine T_block ?_
    | refine n_then ?_
    | refine x_then ?_
    | refine r_then ?_
    | refine n_block ?_
    | refine r_block ?_
    | refine x_block ?_
    | refine x_block' (by rfl) ?_
    | refine T_exit ?_
    | refine T_skip ?_
    | refine T_ret ?_
    | (refine T_region hE (by rfl) (fun K hK => ?_); simp (disch := omega) only [eqs, evs, stp, stepW, wantA, opStep, kindOf, headStep, skipStep, stStep, wrStep, cpStep, stA, appA, readSl, isSl, copyA, kill, AV.refs, hd, hdLoad, hdBin, intBin, hdUn, hdConv, hdIdxAddr, hdIdx, hdSlice, bnd, hdCall, hdCallF, hdLen, hdMin, argsA, mapA, partsOk, partsF, lk, look, addR, evA, constA, HOut.ok, hty, hfs, tyAll, List.map, List.all, List.getElem?_cons_zero, List.getElem?_cons_succ, Option.bind_some, Option.map_some, Option.map_none, Option.getD_some, AV.pureA, Nat.reduceEqDiff, ↓reduceIte, reduceCtorEq, Nat.reduceLT, Nat.reduceLeDiff, Nat.reduceAdd, Nat.reduceMul, Int.reduceToNat, IntKind.bits, BEq.rfl, beq_self_eq_true, bne_self_eq_false, Int.reduceBEq, Int.reduceBNe, Int.reduceEq, Int.reduceNe, ne_eq, Int.reduceLT, Int.reduceLE, sOf, sProd, W_wl, vt, v8, hov, e1, sQuo, vP, vq, v8t, fin]; (repeat refine And.intro (by first | omega | assumption | (and_intros <;> first | omega | assumption) | fail) ?_); refine hK _ ?_; clear hK K)
    | (refine T_cond rfl (fun hc => ?_) (fun hc => ?_) <;> (try simp only [cnds, reduceCtorEq] at hc) <;> (try (first | (exact hc.elim) | (exfalso; omega))))
  refine hQ _ ?_
  simp (disch := omega) only [resOk, res1, retOk, eqs, lk, look, AV.pureA, kill, AV.refs, hty, tyAll, Nat.reduceEqDiff, ↓reduceIte, reduceCtorEq, Nat.reduceLT, Nat.reduceLeDiff, Nat.reduceAdd, Nat.reduceMul, Int.reduceToNat, ne_eq, sStepF, stepV, hz, if_false, implies_true]

/-- At most all bits 1. -/
def capV (a : Int) : Int := if M ≤ a then M - 1 else a
def sMost : List AV → SOut
  | [.rsl .i64 n f] => ⟨Dg 256 n f ∧ n ≤ 1000, .arr .u64 4 (wl (capV (nv n f)))⟩
  | _ => ⟨False, .und⟩
theorem c_Top : Contract Try.prog 138 sOnes := by
  refine fun_ok [] trivial Try.func138 rfl (by kernel_rfl) Try.ntmps138 Try.results138 (fun E hE hty hfs xs hp => ?_)
  unfold sOnes at hp
  split at hp
  case h_2 => exact hp.elim
  refine ⟨by simp, fun Q hQ => ?_⟩
  simp only [params, Nat.reduceAdd]
  repeat' first
    | refine T_seq' ?_
    | refine T_block ?_
    | refine n_then ?_
    | refine x_then ?_
    | refine r_then ?_
    | refine n_block ?_
    | refine r_block ?_
    | refine x_block ?_
    | refine x_block' (by rfl) ?_
    | refine T_exit ?_
    | refine T_skip ?_
    | refine T_ret ?_
    | ((first | refine T_region hE (by rfl) (fun K hK => ?_) | refine T_draw hE (by rfl) (by kernel_rfl) (fun K hK => ?_)); simp (disch := omega) only [eqs, evs, stp, stepW, wantA, opStep, kindOf, headStep, skipStep, stStep, wrStep, cpStep, stA, appA, readSl, isSl, copyA, kill, AV.refs, hd, hdLoad, hdBin, intBin, hdUn, hdConv, hdIdxAddr, hdIdx, hdSlice, bnd, hdCall, hdCallF, hdLen, hdMin, argsA, mapA, partsOk, partsF, lk, look, addR, evA, constA, HOut.ok, hty, hfs, tyAll, List.map, List.all, List.getElem?_cons_zero, List.getElem?_cons_succ, Option.bind_some, Option.map_some, Option.map_none, Option.getD_some, AV.pureA, Nat.reduceEqDiff, ↓reduceIte, reduceCtorEq, Nat.reduceLT, Nat.reduceLeDiff, Nat.reduceAdd, Nat.reduceMul, Int.reduceToNat, IntKind.bits, BEq.rfl, beq_self_eq_true, bne_self_eq_false, Int.reduceBEq, Int.reduceBNe, Int.reduceEq, Int.reduceNe, ne_eq, Int.reduceLT, Int.reduceLE, ones4_eq]; (repeat refine And.intro (by first | omega | assumption | (and_intros <;> first | omega | assumption) | fail) ?_); refine hK _ ?_; clear hK K)
    | (refine T_cond rfl (fun hc => ?_) (fun hc => ?_) <;> (try simp only [cnds, reduceCtorEq] at hc) <;> (try (first | (exact hc.elim) | (exfalso; omega))))
  refine hQ _ ?_
  simp (disch := omega) only [resOk, res1, retOk, eqs, lk, look, AV.pureA, kill, AV.refs, hty, tyAll, Nat.reduceEqDiff, ↓reduceIte, reduceCtorEq, Nat.reduceLT, Nat.reduceLeDiff, Nat.reduceAdd, Nat.reduceMul, Int.reduceToNat, ne_eq, sOnes]
  exact fun j hj => by rw [← wv_ones]; exact (wl_wv W_ones j hj).symm
theorem high_zero {n : Nat} {f : Nat → Int} (h : Dg 256 n f) : Dg 256 (n - 32) (shF f 32) ∧ ((nv (n - 32) (shF f 32) = 0) = (nv n f < M)) := by
  have h1 : Dg 256 (n - 32) (shF f 32) := fun j hj => h (32 + j) (by omega)
  refine ⟨h1, ?_⟩
  have b1 := nv_bd h1
  apply propext
  by_cases hn : n ≤ 32
  · have e : n - 32 = 0 := by omega
    have := nv_lt h hn
    rw [M_256] at this
    rw [e]
    exact ⟨fun _ => this, fun _ => rfl⟩
  · have e := wsum_split 256 f 32 (n - 32)
    rw [show 32 + (n - 32) = n from by omega, M_256] at e
    have b2 := wsum_bd (B := 256) (by decide) (f := f) (n := 32) fun j hj => h j (by omega)
    rw [M_256] at b2
    have e' : nv n f = wsum 256 f 32 + M * nv (n - 32) (shF f 32) := e
    rw [e']
    constructor
    · intro hz; rw [hz]; omega
    · intro hl
      rcases Int.lt_or_le 0 (nv (n - 32) (shF f 32)) with k | k
      · have := Int.mul_le_mul_of_nonneg_left (show 1 ≤ nv (n - 32) (shF f 32) by omega) (show (0 : Int) ≤ M by decide)
        omega
      · omega
theorem c_most : Contract Try.prog 106 sMost := by
  refine fun_ok [(89, sNHigh), (88, sNZero), (138, sOnes), (86, sNWord)] ⟨c_NHigh, c_NZero, c_Top, c_NWord, trivial⟩ Try.func106 rfl (by kernel_rfl) Try.ntmps106 Try.results106 (fun E hE hty hfs xs hp => ?_)
  unfold sMost at hp
  split at hp
  case h_2 => exact hp.elim
  rename_i n f
  obtain ⟨hf, hn⟩ := hp
  obtain ⟨h1, h2⟩ := high_zero hf
  refine ⟨by simp, fun Q hQ => ?_⟩
  simp only [params, Nat.reduceAdd]
  by_cases hl : nv n f < M
  · have hl2 : ¬ M ≤ nv n f := by omega
    repeat' first
      | refine T_seq' ?_
      | refine T_block ?_
      | refine n_then ?_
      | refine x_then ?_
      | refine r_then ?_
      | refine n_block ?_
      | refine r_block ?_
      | refine x_block ?_
      | refine x_block' (by rfl) ?_
      | refine T_exit ?_
      | refine T_skip ?_
      | refine T_ret ?_
      | ((first | refine T_region hE (by rfl) (fun K hK => ?_) | refine T_draw hE (by rfl) (by kernel_rfl) (fun K hK => ?_)); simp (disch := omega) only [eqs, evs, stp, stepW, wantA, opStep, kindOf, headStep, skipStep, stStep, wrStep, cpStep, stA, appA, readSl, isSl, copyA, kill, AV.refs, hd, hdLoad, hdBin, intBin, hdUn, hdConv, hdIdxAddr, hdIdx, hdSlice, bnd, hdCall, hdCallF, hdLen, hdMin, argsA, mapA, partsOk, partsF, lk, look, addR, evA, constA, HOut.ok, hty, hfs, tyAll, List.map, List.all, List.getElem?_cons_zero, List.getElem?_cons_succ, Option.bind_some, Option.map_some, Option.map_none, Option.getD_some, AV.pureA, Nat.reduceEqDiff, ↓reduceIte, reduceCtorEq, Nat.reduceLT, Nat.reduceLeDiff, Nat.reduceAdd, Nat.reduceMul, Int.reduceToNat, IntKind.bits, BEq.rfl, beq_self_eq_true, bne_self_eq_false, Int.reduceBEq, Int.reduceBNe, Int.reduceEq, Int.reduceNe, ne_eq, Int.reduceLT, Int.reduceLE, sNHigh, sNZero, h2, hl, sNWord]; (repeat refine And.intro (by first | omega | assumption | (and_intros <;> first | omega | assumption) | fail) ?_); refine hK _ ?_; clear hK K)
      | (refine T_cond rfl (fun hc => ?_) (fun hc => ?_) <;> (try simp only [cnds, reduceCtorEq] at hc) <;> (try (first | (exact hc.elim) | (exfalso; omega))))
    refine hQ _ ?_
    simp (disch := omega) only [resOk, res1, retOk, eqs, lk, look, AV.pureA, kill, AV.refs, hty, tyAll, Nat.reduceEqDiff, ↓reduceIte, reduceCtorEq, Nat.reduceLT, Nat.reduceLeDiff, Nat.reduceAdd, Nat.reduceMul, Int.reduceToNat, ne_eq, sMost, capV, hl2, if_false, implies_true]
  · have hl2 : M ≤ nv n f := by omega
    repeat' first
      | refine T_seq' ?_
      | refine T_block ?_
      | refine n_then ?_
      | refine x_then ?_
      | refine r_then ?_
      | refine n_block ?_
      | refine r_block ?_
      | refine x_block ?_
      | refine x_block' (by rfl) ?_
      | refine T_exit ?_
      | refine T_skip ?_
      | refine T_ret ?_
      | ((first | refine T_region hE (by rfl) (fun K hK => ?_) | refine T_draw hE (by rfl) (by kernel_rfl) (fun K hK => ?_)); simp (disch := omega) only [eqs, evs, stp, stepW, wantA, opStep, kindOf, headStep, skipStep, stStep, wrStep, cpStep, stA, appA, readSl, isSl, copyA, kill, AV.refs, hd, hdLoad, hdBin, intBin, hdUn, hdConv, hdIdxAddr, hdIdx, hdSlice, bnd, hdCall, hdCallF, hdLen, hdMin, argsA, mapA, partsOk, partsF, lk, look, addR, evA, constA, HOut.ok, hty, hfs, tyAll, List.map, List.all, List.getElem?_cons_zero, List.getElem?_cons_succ, Option.bind_some, Option.map_some, Option.map_none, Option.getD_some, AV.pureA, Nat.reduceEqDiff, ↓reduceIte, reduceCtorEq, Nat.reduceLT, Nat.reduceLeDiff, Nat.reduceAdd, Nat.reduceMul, Int.reduceToNat, IntKind.bits, BEq.rfl, beq_self_eq_true, bne_self_eq_false, Int.reduceBEq, Int.reduceBNe, Int.reduceEq, Int.reduceNe, ne_eq, Int.reduceLT, Int.reduceLE, sNHigh, sNZero, h2, hl, sOnes]; (repeat refine And.intro (by first | omega | assumption | (and_intros <;> first | omega | assumption) | fail) ?_); refine hK _ ?_; clear hK K)
      | (refine T_cond rfl (fun hc => ?_) (fun hc => ?_) <;> (try simp only [cnds, reduceCtorEq] at hc) <;> (try (first | (exact hc.elim) | (exfalso; omega))))
    refine hQ _ ?_
    simp (disch := omega) only [resOk, res1, retOk, eqs, lk, look, AV.pureA, kill, AV.refs, hty, tyAll, Nat.reduceEqDiff, ↓reduceIte, reduceCtorEq, Nat.reduceLT, Nat.reduceLeDiff, Nat.reduceAdd, Nat.reduceMul, Int.reduceToNat, ne_eq, sMost, capV, hl2, if_true, implies_true]

theorem nd32 {a : Int} (h0 : 0 ≤ a) (h1 : a < M) : nd a ≤ 32 := nd_le h0 (by rw [M_256]; exact h1)
theorem c_RStep : Contract Try.prog 65 sStepF := by
  refine fun_ok [(67, sNOf), (87, sNTimes), (66, sNDiv), (106, sMost)] ⟨c_NOf, c_NTimes, c_NDiv, c_most, trivial⟩ Try.func65 rfl (by kernel_rfl) Try.ntmps65 Try.results65 (fun E hE hty hfs xs hp => ?_)
  unfold sStepF at hp
  split at hp
  case h_2 => exact hp.elim
  rename_i f g t
  obtain ⟨hf, ⟨g0, g1⟩, t0, t1⟩ := hp
  have hp : True := trivial
  have fb := wv_bd hf
  have hM : 18446744073709551616 * 32 < M := by decide
  refine ⟨by simp, fun Q hQ => ?_⟩
  simp only [params, Nat.reduceAdd]
  by_cases hz : t = 0
  · repeat' first
      | refine T_seq' ?_
      | refine T_block ?_
      | refine n_then ?_
      | refine x_then ?_
      | refine r_then ?_
      | refine n_block ?_
      | refine r_block ?_
      | refine x_block ?_
      | refine x_block' (by rfl) ?_
      | refine T_exit ?_
      | refine T_skip ?_
      | refine T_ret ?_
      | ((first | refine T_region hE (by rfl) (fun K hK => ?_) | refine T_draw hE (by rfl) (by kernel_rfl) (fun K hK => ?_)); simp (disch := omega) only [eqs, evs, stp, stepW, wantA, opStep, kindOf, headStep, skipStep, stStep, wrStep, cpStep, stA, appA, readSl, isSl, copyA, kill, AV.refs, hd, hdLoad, hdBin, intBin, hdUn, hdConv, hdIdxAddr, hdIdx, hdSlice, bnd, hdCall, hdCallF, hdLen, hdMin, argsA, mapA, partsOk, partsF, lk, look, addR, evA, constA, HOut.ok, hty, hfs, tyAll, List.map, List.all, List.getElem?_cons_zero, List.getElem?_cons_succ, Option.bind_some, Option.map_some, Option.map_none, Option.getD_some, AV.pureA, Nat.reduceEqDiff, ↓reduceIte, reduceCtorEq, Nat.reduceLT, Nat.reduceLeDiff, Nat.reduceAdd, Nat.reduceMul, Int.reduceToNat, IntKind.bits, BEq.rfl, beq_self_eq_true, bne_self_eq_false, Int.reduceBEq, Int.reduceBNe, Int.reduceEq, Int.reduceNe, ne_eq, Int.reduceLT, Int.reduceLE, hz]; (repeat refine And.intro (by first | omega | assumption | (and_intros <;> first | omega | assumption) | fail) ?_); refine hK _ ?_; clear hK K)
      | (refine T_cond rfl (fun hc => ?_) (fun hc => ?_) <;> (try simp only [cnds, reduceCtorEq] at hc) <;> (try (first | (exact hc.elim) | (exfalso; omega))))
    refine hQ _ ?_
    simp (disch := omega) only [resOk, res1, retOk, eqs, lk, look, AV.pureA, kill, AV.refs, hty, tyAll, Nat.reduceEqDiff, ↓reduceIte, reduceCtorEq, Nat.reduceLT, Nat.reduceLeDiff, Nat.reduceAdd, Nat.reduceMul, Int.reduceToNat, ne_eq, sStepF, stepV, hz, if_true, wl_zero, implies_true]
  have nz : (t == 0) = false := beq_eq_false_iff_ne.2 hz
  have wg := one_wl g0 g1
  have wt := one_wl t0 t1
  have w8 := one_wl (x := 8) (by decide) (by decide)
  have vg := wv_small (x := g) g0 (by omega)
  have vt := wv_small (x := t) t0 (by omega)
  have v8 := wv_small (x := 8) (by decide) (by decide)
  have a1 := D32 (wv f)
  have a2 := D32 g
  have a3 := D32 t
  have a4 := D32 8
  have n1 := nv_dl fb.1 fb.2
  have n2 := nv_dl (a := g) g0 (by omega)
  have n3 := nv_dl (a := t) t0 (by omega)
  have n4 := nv_dl (a := 8) (by decide) (by decide)
  have hP : 0 ≤ wv f * g := Int.mul_nonneg fb.1 g0
  have hPM : wv f * g < M * M := by
    have := Int.mul_le_mul (show wv f ≤ M - 1 by omega) (show g ≤ M - 1 by omega) g0 (by decide)
    have h2 : (M - 1) * (M - 1) < M * M := by decide
    omega
  have hM65 : M * M < 256 ^ 65 := by decide
  have hq1 : 0 ≤ wv f * g / t := Int.ediv_nonneg hP t0
  have hq1' : wv f * g / t ≤ wv f * g := Int.ediv_le_self _ hP
  have hq2 : 0 ≤ wv f * g / t / 8 := Int.ediv_nonneg hq1 (by decide)
  have hq2' : wv f * g / t / 8 ≤ wv f * g / t := Int.ediv_le_self _ hq1
  have a5 := Dg_dig (wv f * g) 65
  have n5 := nv_of (a := wv f * g) (n := 65) hP (by omega)
  have a6 := Dg_dig (wv f * g / t) 65
  have n6 := nv_of (a := wv f * g / t) (n := 65) hq1 (by omega)
  have a7 := Dg_dig (wv f * g / t / 8) 65
  have n7 := nv_of (a := wv f * g / t / 8) (n := 65) hq2 (by omega)
  repeat' first
    | refine T_seq' ?_
    | refine T_block ?_
    | refine n_then ?_
    | refine x_then ?_
    | refine r_then ?_
    | refine n_block ?_
    | refine r_block ?_
    | refine x_block ?_
    | refine x_block' (by rfl) ?_
    | refine T_exit ?_
    | refine T_skip ?_
    | refine T_ret ?_
    | ((first | refine T_region hE (by rfl) (fun K hK => ?_) | refine T_draw hE (by rfl) (by kernel_rfl) (fun K hK => ?_)); simp (disch := omega) only [eqs, evs, stp, stepW, wantA, opStep, kindOf, headStep, skipStep, stStep, wrStep, cpStep, stA, appA, readSl, isSl, copyA, kill, AV.refs, hd, hdLoad, hdBin, intBin, hdUn, hdConv, hdIdxAddr, hdIdx, hdSlice, bnd, hdCall, hdCallF, hdLen, hdMin, argsA, mapA, partsOk, partsF, lk, look, addR, evA, constA, HOut.ok, hty, hfs, tyAll, List.map, List.all, List.getElem?_cons_zero, List.getElem?_cons_succ, Option.bind_some, Option.map_some, Option.map_none, Option.getD_some, AV.pureA, Nat.reduceEqDiff, ↓reduceIte, reduceCtorEq, Nat.reduceLT, Nat.reduceLeDiff, Nat.reduceAdd, Nat.reduceMul, Int.reduceToNat, IntKind.bits, BEq.rfl, beq_self_eq_true, bne_self_eq_false, Int.reduceBEq, Int.reduceBNe, Int.reduceEq, Int.reduceNe, ne_eq, Int.reduceLT, Int.reduceLE, nz, sNOf, wg, wt, w8, W_wl, vg, vt, v8, sNTimes, n1, n2, n3, n4, sNDiv, n5, n6, n7, sMost]; (repeat refine And.intro (by first | omega | assumption | (and_intros <;> first | omega | assumption) | fail) ?_); refine hK _ ?_; clear hK K)
    | (refine T_cond rfl (fun hc => ?_) (fun hc => ?_) <;> (try simp only [cnds, reduceCtorEq] at hc) <;> (try (first | (exact hc.elim) | (exfalso; omega))))
  refine hQ _ ?_
  simp (disch := omega) only [resOk, res1, retOk, eqs, lk, look, AV.pureA, kill, AV.refs, hty, tyAll, Nat.reduceEqDiff, ↓reduceIte, reduceCtorEq, Nat.reduceLT, Nat.reduceLeDiff, Nat.reduceAdd, Nat.reduceMul, Int.reduceToNat, ne_eq, sStepF, stepV, capV, hz, if_false, implies_true]

end Go.Proofs.Ytijoifajbmhgdaa.Sym
