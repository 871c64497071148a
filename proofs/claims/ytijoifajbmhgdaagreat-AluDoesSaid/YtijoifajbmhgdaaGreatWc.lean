/- Words: making, parts, length, bits, order. -/
import Derived.Test.YtijoifajbmhgdaaGreatWb
namespace Go.Proofs.YtijoifajbmhgdaaGreat.Sym
set_option linter.unusedVariables false
open Go Go.RowKit Num
set_option maxRecDepth 10000
set_option linter.unusedSimpArgs false

theorem W4 {f : Nat → Int} (h0 : U (f 0)) (h1 : U (f 1)) (h2 : U (f 2)) (h3 : U (f 3)) : W f := by
  intro j hj
  have : j = 0 ∨ j = 1 ∨ j = 2 ∨ j = 3 := by omega
  rcases this with rfl | rfl | rfl | rfl
  · exact h0
  · exact h1
  · exact h2
  · exact h3
theorem W_U {f : Nat → Int} (h : W f) (j : Nat) (hj : j < 4) : U (f j) := h j hj
theorem modM {a : Int} (h0 : 0 ≤ a) (h1 : a < M) : a % M = a := Int.emod_eq_of_lt h0 h1

def sOf : List AV → SOut
  | [.int .u64 x] => ⟨0 ≤ x ∧ x < 18446744073709551616, .arr .u64 4 (wl x)⟩
  | _ => ⟨False, .und⟩
theorem wl_one {x : Int} (h0 : 0 ≤ x) (h1 : x < 18446744073709551616) : ∀ j, j < 4 → updF (fun _ => (0 : Int)) 0 x j = wl x j :=
  wl_of (W4 (by simp [updF, U]; omega) (by simp [updF, U]) (by simp [updF, U]) (by simp [updF, U])) (by rw [wv_of, modM h0 (by unfold M; omega)]; simp [updF])
theorem c_Of : Contract Tryz.prog 94 sOf := by
  refine fun_ok [] trivial Tryz.func94 rfl (by kernel_rfl) Tryz.ntmps94 Tryz.results94 (fun E hE hty hfs xs hp => ?_)
  unfold sOf at hp
  split at hp
  case h_2 => exact hp.elim
  rename_i x
  obtain ⟨x0, x1⟩ := hp
  refine ⟨by simp, fun Q hQ => ?_⟩
  simp only [params, Nat.reduceAdd]
  repeat' first
    | refine T_seq' ?_
    | refine T_block ?_
    | refine n_then ?_
    | refine x_then ?_
    | refine r_then ?_
    | refine n_block ?_
    | refine r_block ?_
    | refine x_block ?_
    | refine x_block' (by rfl) ?_
    | refine T_exit ?_
    | refine T_skip ?_
    | refine T_ret ?_
    | ((first | refine T_region hE (by rfl) (fun K hK => ?_) | refine T_draw hE (by rfl) (by kernel_rfl) (fun K hK => ?_)); simp (disch := omega) only [eqs, evs, stp, stepW, wantA, opStep, kindOf, headStep, skipStep, stStep, wrStep, cpStep, stA, appA, readSl, isSl, copyA, kill, AV.refs, hd, hdLoad, hdBin, intBin, hdUn, hdConv, hdIdxAddr, hdIdx, hdSlice, bnd, hdCall, hdCallF, hdLen, hdMin, argsA, mapA, partsOk, partsF, lk, look, addR, evA, constA, HOut.ok, hty, hfs, tyAll, List.map, List.all, List.getElem?_cons_zero, List.getElem?_cons_succ, Option.bind_some, Option.map_some, Option.map_none, Option.getD_some, AV.pureA, Nat.reduceEqDiff, ↓reduceIte, reduceCtorEq, Nat.reduceLT, Nat.reduceLeDiff, Nat.reduceAdd, Nat.reduceMul, Int.reduceToNat, IntKind.bits, BEq.rfl, beq_self_eq_true, bne_self_eq_false, Int.reduceBEq, Int.reduceBNe, Int.reduceEq, Int.reduceNe, ne_eq, Int.reduceLT, Int.reduceLE]; (repeat refine And.intro (by first | omega | assumption | (and_intros <;> first | omega | assumption) | fail) ?_); refine hK _ ?_; clear hK K)
    | (refine T_cond rfl (fun hc => ?_) (fun hc => ?_) <;> (try simp only [cnds, reduceCtorEq] at hc) <;> (try (first | (exact hc.elim) | (exfalso; omega))))
  refine hQ _ ?_
  simp (disch := omega) only [resOk, res1, retOk, eqs, lk, look, AV.pureA, kill, AV.refs, hty, tyAll, Nat.reduceEqDiff, ↓reduceIte, reduceCtorEq, Nat.reduceLT, Nat.reduceLeDiff, Nat.reduceAdd, Nat.reduceMul, Int.reduceToNat, ne_eq, sOf]
  exact wl_one x0 x1

theorem or_bd {x y : Int} (hx : U x) (hy : U y) : U (bitsA .or .u64 x y) := by
  rw [bitsA_or hx.1 hx.2 hy.1 hy.2]
  have := Nat.or_lt_two_pow (x := x.toNat) (y := y.toNat) (n := 64) (by have := hx.2; omega) (by have := hy.2; omega)
  exact ⟨by omega, by omega⟩
theorem or_zero {x y : Int} (hx : U x) (hy : U y) : bitsA .or .u64 x y = 0 ↔ x = 0 ∧ y = 0 := by
  rw [bitsA_or hx.1 hx.2 hy.1 hy.2]
  have h1 := hx.1
  have h2 := hy.1
  have l := Nat.left_le_or (n := x.toNat) (m := y.toNat)
  have r := Nat.right_le_or (n := x.toNat) (m := y.toNat)
  constructor
  · intro h; omega
  · rintro ⟨rfl, rfl⟩; rfl

def sSmall : List AV → SOut
  | [.arr .u64 4 f] => ⟨W f, .pair (.int .u64 (if wv f < 18446744073709551616 then wv f else 0)) (.bool (decide (wv f < 18446744073709551616)))⟩
  | _ => ⟨False, .und⟩
theorem small_iff {f : Nat → Int} (h : W f) : bitsA .or .u64 (bitsA .or .u64 (f 1) (f 2)) (f 3) = 0 ↔ wv f < 18446744073709551616 := by
  have a := W_U h
  rw [or_zero (or_bd (a 1 (by omega)) (a 2 (by omega))) (a 3 (by omega)), or_zero (a 1 (by omega)) (a 2 (by omega)), wv_of]
  have a0 := a 0 (by omega); have a1 := a 1 (by omega); have a2 := a 2 (by omega); have a3 := a 3 (by omega)
  unfold U at a0 a1 a2 a3
  omega
theorem small_val {f : Nat → Int} (h : W f) (hs : wv f < 18446744073709551616) : f 0 = wv f := by
  have a := W_U h
  have := (or_zero (or_bd (a 1 (by omega)) (a 2 (by omega))) (a 3 (by omega))).1 ((small_iff h).2 hs)
  have h2 := (or_zero (a 1 (by omega)) (a 2 (by omega))).1 this.1
  rw [wv_of]; omega
theorem c_Small : Contract Tryz.prog 81 sSmall := by
  refine fun_ok [] trivial Tryz.func81 rfl (by kernel_rfl) Tryz.ntmps81 Tryz.results81 (fun E hE hty hfs xs hp => ?_)
  unfold sSmall at hp
  split at hp
  case h_2 => exact hp.elim
  rename_i f
  have hs := small_iff hp
  refine ⟨by simp, fun Q hQ => ?_⟩
  simp only [params, Nat.reduceAdd]
  repeat' first
    | refine T_seq' ?_
    | refine T_block ?_
    | refine n_then ?_
    | refine x_then ?_
    | refine r_then ?_
    | refine n_block ?_
    | refine r_block ?_
    | refine x_block ?_
    | refine x_block' (by rfl) ?_
    | refine T_exit ?_
    | refine T_skip ?_
    | refine T_ret ?_
    | ((first | refine T_region hE (by rfl) (fun K hK => ?_) | refine T_draw hE (by rfl) (by kernel_rfl) (fun K hK => ?_)); simp (disch := omega) only [eqs, evs, stp, stepW, wantA, opStep, kindOf, headStep, skipStep, stStep, wrStep, cpStep, stA, appA, readSl, isSl, copyA, kill, AV.refs, hd, hdLoad, hdBin, intBin, hdUn, hdConv, hdIdxAddr, hdIdx, hdSlice, bnd, hdCall, hdCallF, hdLen, hdMin, argsA, mapA, partsOk, partsF, lk, look, addR, evA, constA, HOut.ok, hty, hfs, tyAll, List.map, List.all, List.getElem?_cons_zero, List.getElem?_cons_succ, Option.bind_some, Option.map_some, Option.map_none, Option.getD_some, AV.pureA, Nat.reduceEqDiff, ↓reduceIte, reduceCtorEq, Nat.reduceLT, Nat.reduceLeDiff, Nat.reduceAdd, Nat.reduceMul, Int.reduceToNat, IntKind.bits, BEq.rfl, beq_self_eq_true, bne_self_eq_false, Int.reduceBEq, Int.reduceBNe, Int.reduceEq, Int.reduceNe, ne_eq, Int.reduceLT, Int.reduceLE]; (repeat refine And.intro (by first | omega | assumption | (and_intros <;> first | omega | assumption) | fail) ?_); refine hK _ ?_; clear hK K)
    | (refine T_cond rfl (fun hc => ?_) (fun hc => ?_) <;> (try simp only [cnds, reduceCtorEq] at hc) <;> (try (first | (exact hc.elim) | (exfalso; omega))))
  · rw [hs] at hc
    refine hQ _ ?_
    simp (disch := omega) only [resOk, res1, retOk, eqs, lk, look, AV.pureA, kill, AV.refs, hty, tyAll, Nat.reduceEqDiff, ↓reduceIte, reduceCtorEq, Nat.reduceLT, Nat.reduceLeDiff, Nat.reduceAdd, Nat.reduceMul, Int.reduceToNat, ne_eq, sSmall, if_neg hc, hc]
  · rw [hs] at hc
    refine hQ _ ?_
    simp (disch := omega) only [resOk, res1, retOk, eqs, lk, look, AV.pureA, kill, AV.refs, hty, tyAll, Nat.reduceEqDiff, ↓reduceIte, reduceCtorEq, Nat.reduceLT, Nat.reduceLeDiff, Nat.reduceAdd, Nat.reduceMul, Int.reduceToNat, ne_eq, sSmall, if_pos hc, hc]
    exact small_val hp hc

def sNot : List AV → SOut
  | [.arr .u64 4 f] => ⟨W f, .arr .u64 4 (wl (-1 - wv f))⟩
  | _ => ⟨False, .und⟩
theorem xor_all {x : Int} (h : U x) : bitsA .xor .u64 (wholeI .u64) x = 18446744073709551615 - x := by
  have e : wholeI .u64 = 18446744073709551615 := by decide
  rw [e, bitsA_xor (by omega) (by omega) h.1 h.2]
  obtain ⟨h0, h1⟩ := h
  have hx : x.toNat < 2 ^ 64 := by omega
  have : (18446744073709551615 : Int).toNat ^^^ x.toNat = 2 ^ 64 - 1 - x.toNat := by
    rw [show (18446744073709551615 : Int).toNat = 2 ^ 64 - 1 from by decide, show 2 ^ 64 - 1 - x.toNat = 2 ^ 64 - (x.toNat + 1) from by omega]
    refine Nat.eq_of_testBit_eq fun i => ?_
    rw [Nat.testBit_xor, Nat.testBit_two_pow_sub_succ hx, Nat.testBit_two_pow_sub_one]
    by_cases hi : i < 64
    · simp [hi]
    · have : x.toNat.testBit i = false := Nat.testBit_lt_two_pow (Nat.lt_of_lt_of_le hx (Nat.pow_le_pow_right (by decide) (by omega)))
      simp [hi, this]
  rw [this]; omega
theorem c_Not : Contract Tryz.prog 80 sNot := by
  refine fun_ok [] trivial Tryz.func80 rfl (by kernel_rfl) Tryz.ntmps80 Tryz.results80 (fun E hE hty hfs xs hp => ?_)
  unfold sNot at hp
  split at hp
  case h_2 => exact hp.elim
  rename_i f
  refine ⟨by simp, fun Q hQ => ?_⟩
  simp only [params, Nat.reduceAdd]
  repeat' first
    | refine T_seq' ?_
    | refine T_block ?_
    | refine n_then ?_
    | refine x_then ?_
    | refine r_then ?_
    | refine n_block ?_
    | refine r_block ?_
    | refine x_block ?_
    | refine x_block' (by rfl) ?_
    | refine T_exit ?_
    | refine T_skip ?_
    | refine T_ret ?_
    | ((first | refine T_region hE (by rfl) (fun K hK => ?_) | refine T_draw hE (by rfl) (by kernel_rfl) (fun K hK => ?_)); simp (disch := omega) only [eqs, evs, stp, stepW, wantA, opStep, kindOf, headStep, skipStep, stStep, wrStep, cpStep, stA, appA, readSl, isSl, copyA, kill, AV.refs, hd, hdLoad, hdBin, intBin, hdUn, hdConv, hdIdxAddr, hdIdx, hdSlice, bnd, hdCall, hdCallF, hdLen, hdMin, argsA, mapA, partsOk, partsF, lk, look, addR, evA, constA, HOut.ok, hty, hfs, tyAll, List.map, List.all, List.getElem?_cons_zero, List.getElem?_cons_succ, Option.bind_some, Option.map_some, Option.map_none, Option.getD_some, AV.pureA, Nat.reduceEqDiff, ↓reduceIte, reduceCtorEq, Nat.reduceLT, Nat.reduceLeDiff, Nat.reduceAdd, Nat.reduceMul, Int.reduceToNat, IntKind.bits, BEq.rfl, beq_self_eq_true, bne_self_eq_false, Int.reduceBEq, Int.reduceBNe, Int.reduceEq, Int.reduceNe, ne_eq, Int.reduceLT, Int.reduceLE]; (repeat refine And.intro (by first | omega | assumption | (and_intros <;> first | omega | assumption) | fail) ?_); refine hK _ ?_; clear hK K)
    | (refine T_cond rfl (fun hc => ?_) (fun hc => ?_) <;> (try simp only [cnds, reduceCtorEq] at hc) <;> (try (first | (exact hc.elim) | (exfalso; omega))))
  refine hQ _ ?_
  simp (disch := omega) only [resOk, res1, retOk, eqs, lk, look, AV.pureA, kill, AV.refs, hty, tyAll, Nat.reduceEqDiff, ↓reduceIte, reduceCtorEq, Nat.reduceLT, Nat.reduceLeDiff, Nat.reduceAdd, Nat.reduceMul, Int.reduceToNat, ne_eq, sNot]
  have a0 := W_U hp 0 (by omega); have a1 := W_U hp 1 (by omega); have a2 := W_U hp 2 (by omega); have a3 := W_U hp 3 (by omega)
  rw [xor_all a0, xor_all a1, xor_all a2, xor_all a3]
  unfold U at a0 a1 a2 a3
  refine wl_of (W4 ?_ ?_ ?_ ?_) ?_
  · simp [updF, U]; omega
  · simp [updF, U]; omega
  · simp [updF, U]; omega
  · simp [updF, U]; omega
  · rw [wv_of, wv_of]; simp [updF]; unfold M; omega

def pz (f : Nat → Int) (i : Int) : Int := if 0 ≤ i ∧ i ≤ 3 then f i.toNat else 0
def sPart : List AV → SOut
  | [.arr .u64 4 f, .int .i64 i] => ⟨W f, .int .u64 (pz f i)⟩
  | _ => ⟨False, .und⟩
theorem c_part : Contract Tryz.prog 102 sPart := by
  refine fun_ok [] trivial Tryz.func102 rfl (by kernel_rfl) Tryz.ntmps102 Tryz.results102 (fun E hE hty hfs xs hp => ?_)
  unfold sPart at hp
  split at hp
  case h_2 => exact hp.elim
  rename_i f i
  refine ⟨by simp, fun Q hQ => ?_⟩
  simp only [params, Nat.reduceAdd]
  by_cases h0 : i < 0
  · repeat' first
      | refine T_seq' ?_
      | refine T_block ?_
      | refine n_then ?_
      | refine x_then ?_
      | refine r_then ?_
      | refine n_block ?_
      | refine r_block ?_
      | refine x_block ?_
      | refine x_block' (by rfl) ?_
      | refine T_exit ?_
      | refine T_skip ?_
      | refine T_ret ?_
      | ((first | refine T_region hE (by rfl) (fun K hK => ?_) | refine T_draw hE (by rfl) (by kernel_rfl) (fun K hK => ?_)); simp (disch := omega) only [eqs, evs, stp, stepW, wantA, opStep, kindOf, headStep, skipStep, stStep, wrStep, cpStep, stA, appA, readSl, isSl, copyA, kill, AV.refs, hd, hdLoad, hdBin, intBin, hdUn, hdConv, hdIdxAddr, hdIdx, hdSlice, bnd, hdCall, hdCallF, hdLen, hdMin, argsA, mapA, partsOk, partsF, lk, look, addR, evA, constA, HOut.ok, hty, hfs, tyAll, List.map, List.all, List.getElem?_cons_zero, List.getElem?_cons_succ, Option.bind_some, Option.map_some, Option.map_none, Option.getD_some, AV.pureA, Nat.reduceEqDiff, ↓reduceIte, reduceCtorEq, Nat.reduceLT, Nat.reduceLeDiff, Nat.reduceAdd, Nat.reduceMul, Int.reduceToNat, IntKind.bits, BEq.rfl, beq_self_eq_true, bne_self_eq_false, Int.reduceBEq, Int.reduceBNe, Int.reduceEq, Int.reduceNe, ne_eq, Int.reduceLT, Int.reduceLE, h0]; (repeat refine And.intro (by first | omega | assumption | (and_intros <;> first | omega | assumption) | fail) ?_); refine hK _ ?_; clear hK K)
      | (refine T_cond rfl (fun hc => ?_) (fun hc => ?_) <;> (try simp only [cnds, reduceCtorEq] at hc) <;> (try (first | (exact hc.elim) | (exfalso; omega))))
    refine hQ _ ?_
    simp (disch := omega) only [resOk, res1, retOk, eqs, lk, look, AV.pureA, kill, AV.refs, hty, tyAll, Nat.reduceEqDiff, ↓reduceIte, reduceCtorEq, Nat.reduceLT, Nat.reduceLeDiff, Nat.reduceAdd, Nat.reduceMul, Int.reduceToNat, ne_eq, sPart]
    unfold pz; rw [if_neg (by omega)]
  · by_cases h3 : 3 < i
    · repeat' first
        | refine T_seq' ?_
        | refine T_block ?_
        | refine n_then ?_
        | refine x_then ?_
        | refine r_then ?_
        | refine n_block ?_
        | refine r_block ?_
        | refine x_block ?_
        | refine x_block' (by rfl) ?_
        | refine T_exit ?_
        | refine T_skip ?_
        | refine T_ret ?_
        | ((first | refine T_region hE (by rfl) (fun K hK => ?_) | refine T_draw hE (by rfl) (by kernel_rfl) (fun K hK => ?_)); simp (disch := omega) only [eqs, evs, stp, stepW, wantA, opStep, kindOf, headStep, skipStep, stStep, wrStep, cpStep, stA, appA, readSl, isSl, copyA, kill, AV.refs, hd, hdLoad, hdBin, intBin, hdUn, hdConv, hdIdxAddr, hdIdx, hdSlice, bnd, hdCall, hdCallF, hdLen, hdMin, argsA, mapA, partsOk, partsF, lk, look, addR, evA, constA, HOut.ok, hty, hfs, tyAll, List.map, List.all, List.getElem?_cons_zero, List.getElem?_cons_succ, Option.bind_some, Option.map_some, Option.map_none, Option.getD_some, AV.pureA, Nat.reduceEqDiff, ↓reduceIte, reduceCtorEq, Nat.reduceLT, Nat.reduceLeDiff, Nat.reduceAdd, Nat.reduceMul, Int.reduceToNat, IntKind.bits, BEq.rfl, beq_self_eq_true, bne_self_eq_false, Int.reduceBEq, Int.reduceBNe, Int.reduceEq, Int.reduceNe, ne_eq, Int.reduceLT, Int.reduceLE, h0, h3]; (repeat refine And.intro (by first | omega | assumption | (and_intros <;> first | omega | assumption) | fail) ?_); refine hK _ ?_; clear hK K)
        | (refine T_cond rfl (fun hc => ?_) (fun hc => ?_) <;> (try simp only [cnds, reduceCtorEq] at hc) <;> (try (first | (exact hc.elim) | (exfalso; omega))))
      refine hQ _ ?_
      simp (disch := omega) only [resOk, res1, retOk, eqs, lk, look, AV.pureA, kill, AV.refs, hty, tyAll, Nat.reduceEqDiff, ↓reduceIte, reduceCtorEq, Nat.reduceLT, Nat.reduceLeDiff, Nat.reduceAdd, Nat.reduceMul, Int.reduceToNat, ne_eq, sPart]
      unfold pz; rw [if_neg (by omega)]
    · repeat' first
        | refine T_seq' ?_
        | refine T_block ?_
        | refine n_then ?_
        | refine x_then ?_
        | refine r_then ?_
        | refine n_block ?_
        | refine r_block ?_
        | refine x_block ?_
        | refine x_block' (by rfl) ?_
        | refine T_exit ?_
        | refine T_skip ?_
        | refine T_ret ?_
        | ((first | refine T_region hE (by rfl) (fun K hK => ?_) | refine T_draw hE (by rfl) (by kernel_rfl) (fun K hK => ?_)); simp (disch := omega) only [eqs, evs, stp, stepW, wantA, opStep, kindOf, headStep, skipStep, stStep, wrStep, cpStep, stA, appA, readSl, isSl, copyA, kill, AV.refs, hd, hdLoad, hdBin, intBin, hdUn, hdConv, hdIdxAddr, hdIdx, hdSlice, bnd, hdCall, hdCallF, hdLen, hdMin, argsA, mapA, partsOk, partsF, lk, look, addR, evA, constA, HOut.ok, hty, hfs, tyAll, List.map, List.all, List.getElem?_cons_zero, List.getElem?_cons_succ, Option.bind_some, Option.map_some, Option.map_none, Option.getD_some, AV.pureA, Nat.reduceEqDiff, ↓reduceIte, reduceCtorEq, Nat.reduceLT, Nat.reduceLeDiff, Nat.reduceAdd, Nat.reduceMul, Int.reduceToNat, IntKind.bits, BEq.rfl, beq_self_eq_true, bne_self_eq_false, Int.reduceBEq, Int.reduceBNe, Int.reduceEq, Int.reduceNe, ne_eq, Int.reduceLT, Int.reduceLE, h0, h3]; (repeat refine And.intro (by first | omega | assumption | (and_intros <;> first | omega | assumption) | fail) ?_); refine hK _ ?_; clear hK K)
        | (refine T_cond rfl (fun hc => ?_) (fun hc => ?_) <;> (try simp only [cnds, reduceCtorEq] at hc) <;> (try (first | (exact hc.elim) | (exfalso; omega))))
      refine hQ _ ?_
      simp (disch := omega) only [resOk, res1, retOk, eqs, lk, look, AV.pureA, kill, AV.refs, hty, tyAll, Nat.reduceEqDiff, ↓reduceIte, reduceCtorEq, Nat.reduceLT, Nat.reduceLeDiff, Nat.reduceAdd, Nat.reduceMul, Int.reduceToNat, ne_eq, sPart]
      unfold pz; rw [if_pos (by omega)]

end Go.Proofs.YtijoifajbmhgdaaGreat.Sym
