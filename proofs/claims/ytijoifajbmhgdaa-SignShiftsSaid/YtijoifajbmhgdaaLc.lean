/- The laws of wide words: quotients, products. -/
import Derived.Test.YtijoifajbmhgdaaVe
import Derived.Test.YtijoifajbmhgdaaNc
import Derived.Test.YtijoifajbmhgdaaLb
namespace Go.Proofs.Ytijoifajbmhgdaa.Sym
set_option linter.unusedVariables false
open Go Go.RowKit Num
set_option maxRecDepth 10000
set_option linter.unusedSimpArgs false

theorem nv32 (a : Int) : nv 32 (dl a) = a % M := dv_dl a
theorem nv_dl {a : Int} (h0 : 0 ≤ a) (h1 : a < M) : nv 32 (dl a) = a := by rw [nv32, modM h0 h1]
theorem nv_nd {R : Int} (h : 0 ≤ R) : nv (nd R) (dig 256 R) = R := by rw [nv_dig, Int.emod_eq_of_lt h (lt_nd h)]
theorem nv_of {a : Int} {n : Nat} (h0 : 0 ≤ a) (h1 : a < 256 ^ n) : nv n (dig 256 a) = a := by rw [nv_dig, Int.emod_eq_of_lt h0 h1]
theorem shF_dig (a : Int) (n : Nat) : shF (dig 256 a) n = dig 256 (a / 256 ^ n) := by
  funext j
  unfold shF dig
  rw [Int.ediv_ediv_of_nonneg (Int.pow_nonneg (by decide)), ← Int.pow_add]
theorem wv_small {x : Int} (h0 : 0 ≤ x) (h1 : x < M) : wv (wl x) = x := by rw [wv_wl, modM h0 h1]
theorem D32 (a : Int) : Dg 256 32 (dl a) := D_dl a
theorem nr_nn {a b : Int} (ha : 0 ≤ a) (hb : 0 ≤ b) : 0 ≤ nr a b := by
  unfold nr
  split
  · omega
  · exact Int.emod_nonneg _ (by omega)
theorem nr_lt {a b : Int} (hb : 0 ≤ b) (hM : b < M) : nr a b < M := by
  unfold nr
  split
  · decide
  · have := Int.emod_lt_of_pos a (show 0 < b by omega); omega

def top4 : Nat → Int := updF (updF (updF (updF (fun _ => 0) 0 0) 1 0) 2 0) 3 9223372036854775808
theorem top4_eq : updF (updF (updF (updF (fun _ => (0 : Int)) 0 0) 1 0) 2 0) 3 9223372036854775808 = top4 := rfl
theorem W_top : W top4 := W4 (by unfold U; decide) (by unfold U; decide) (by unfold U; decide) (by unfold U; decide)
theorem wv_top : wv top4 = 57896044618658097711785492504343953926634992332820282019728792003956564819968 := by decide

theorem c_fixed2 : Contract Try.prog 85 sFixed1 := by
  refine fun_ok [(84, sWDiv), (91, sMod3 (· + ·)), (92, sMod3 (· * ·)), (93, sWExp)] ⟨c_WDiv, c_AddMod, c_MulMod, c_WExp, trivial⟩ Try.func85 rfl (by kernel_rfl) Try.ntmps85 Try.results85 (fun E hE hty hfs xs hp => ?_)
  unfold sFixed1 at hp
  split at hp
  case h_2 => exact hp.elim
  have h0 := W0
  have h1 := W_ones
  have h2 := W_top
  have w7 := one_wl (x := 7) (by decide) (by decide)
  have w2 := one_wl (x := 2) (by decide) (by decide)
  have w3 := one_wl (x := 3) (by decide) (by decide)
  have w1 := one_wl (x := 1) (by decide) (by decide)
  have w255 := one_wl (x := 255) (by decide) (by decide)
  have v7 := wv_small (x := 7) (by decide) (by decide)
  have v2 := wv_small (x := 2) (by decide) (by decide)
  have v3 := wv_small (x := 3) (by decide) (by decide)
  have v255 := wv_small (x := 255) (by decide) (by decide)
  have e1 : eqA 4 (wl (7 / 2)) (wl 3) = true := eqW (by decide)
  have e2 : eqA 4 (wl (nr 7 2)) (wl 1) = true := eqW (by decide)
  have e3 : eqA 4 (wl (7 / 0)) (fun _ => 0) = true := eqW0 (by decide)
  have e4 : eqA 4 (wl (nr 7 0)) (fun _ => 0) = true := eqW0 (by decide)
  have e5 : eqA 4 (wl (nr (M - 1 + 2) 2)) (wl 1) = true := eqW (by decide)
  have e6 : eqA 4 (wl (nr (57896044618658097711785492504343953926634992332820282019728792003956564819968 * 2) 3)) (wl 1) = true := eqW (by decide)
  have e7 : eqA 4 (wl (2 ^ 255)) top4 = true := eqWf W_top (by rw [wv_top]; decide)
  refine ⟨by simp, fun Q hQ => ?_⟩
  simp only [params, Nat.reduceAdd]
  repeat' first
    | refine T_seq' ?_
    | refine T_block ?_
    | refine n_then ?_
    | refine x_then ?_
    | refine r_then ?_
    | refine n_block ?_
    | refine r_block ?_
    | refine x_block ?_
    | refine x_block' (by rfl) ?_
    | refine T_exit ?_
    | refine T_skip ?_
    | refine T_ret ?_
    | ((first | refine T_region hE (by rfl) (fun K hK => ?_) | refine T_draw hE (by rfl) (by kernel_rfl) (fun K hK => ?_)); simp (disch := omega) only [eqs, evs, stp, stepW, wantA, opStep, kindOf, headStep, skipStep, stStep, wrStep, cpStep, stA, appA, readSl, isSl, copyA, kill, AV.refs, hd, hdLoad, hdBin, intBin, hdUn, hdConv, hdIdxAddr, hdIdx, hdSlice, bnd, hdCall, hdCallF, hdLen, hdMin, argsA, mapA, partsOk, partsF, lk, look, addR, evA, constA, HOut.ok, hty, hfs, tyAll, List.map, List.all, List.getElem?_cons_zero, List.getElem?_cons_succ, Option.bind_some, Option.map_some, Option.map_none, Option.getD_some, AV.pureA, Nat.reduceEqDiff, ↓reduceIte, reduceCtorEq, Nat.reduceLT, Nat.reduceLeDiff, Nat.reduceAdd, Nat.reduceMul, Int.reduceToNat, IntKind.bits, BEq.rfl, beq_self_eq_true, bne_self_eq_false, Int.reduceBEq, Int.reduceBNe, Int.reduceEq, Int.reduceNe, ne_eq, Int.reduceLT, Int.reduceLE, sWDiv, sMod3, sWExp, ones4_eq, top4_eq, w7, w2, w3, w1, w255, W_wl, v7, v2, v3, v255, wv0, wv_ones, wv_top, e1, e2, e3, e4, e5, e6, e7]; (repeat refine And.intro (by first | omega | assumption | (and_intros <;> first | omega | assumption) | fail) ?_); refine hK _ ?_; clear hK K)
    | (refine T_cond rfl (fun hc => ?_) (fun hc => ?_) <;> (try simp only [cnds, reduceCtorEq] at hc) <;> (try (first | (exact hc.elim) | (exfalso; omega))))
  refine hQ _ ?_
  simp (disch := omega) only [resOk, res1, retOk, eqs, lk, look, AV.pureA, kill, AV.refs, hty, tyAll, Nat.reduceEqDiff, ↓reduceIte, reduceCtorEq, Nat.reduceLT, Nat.reduceLeDiff, Nat.reduceAdd, Nat.reduceMul, Int.reduceToNat, ne_eq, sFixed1]

theorem c_WideDivides : Contract Try.prog 20 sLaw2 := by
  refine fun_ok [(85, sFixed1), (84, sWDiv), (67, sNOf), (66, sNDiv), (86, sNWord)] ⟨c_fixed2, c_WDiv, c_NOf, c_NDiv, c_NWord, trivial⟩ Try.func20 rfl (by kernel_rfl) Try.ntmps20 Try.results20 (fun E hE hty hfs xs hp => ?_)
  unfold sLaw2 at hp
  split at hp
  case h_2 => exact hp.elim
  rename_i f g
  obtain ⟨hf, hg⟩ := hp
  have fb := wv_bd hf
  have gb := wv_bd hg
  have hr := nr_nn fb.1 gb.1 (b := wv g)
  have a1 := D32 (wv f)
  have a2 := D32 (wv g)
  have a3 := nv_dl fb.1 fb.2
  have a4 := nv_dl gb.1 gb.2
  have a5 := Dg_dig (wv f / wv g) 32
  have a6 := Dg_dig (nr (wv f) (wv g)) (nd (nr (wv f) (wv g)))
  have a7 : nd (nr (wv f) (wv g)) ≤ 32 := nd_le hr (by rw [M_256]; exact nr_lt gb.1 gb.2)
  have a8 := nv_nd hr
  refine ⟨by simp, fun Q hQ => ?_⟩
  simp only [params, Nat.reduceAdd]
  repeat' first
    | refine T_seq' ?_
    | refine T_block ?_
    | refine n_then ?_
    | refine x_then ?_
    | refine r_then ?_
    | refine n_block ?_
    | refine r_block ?_
    | refine x_block ?_
    | refine x_block' (by rfl) ?_
    | refine T_exit ?_
    | refine T_skip ?_
    | refine T_ret ?_
    | ((first | refine T_region hE (by rfl) (fun K hK => ?_) | refine T_draw hE (by rfl) (by kernel_rfl) (fun K hK => ?_)); simp (disch := omega) only [eqs, evs, stp, stepW, wantA, opStep, kindOf, headStep, skipStep, stStep, wrStep, cpStep, stA, appA, readSl, isSl, copyA, kill, AV.refs, hd, hdLoad, hdBin, intBin, hdUn, hdConv, hdIdxAddr, hdIdx, hdSlice, bnd, hdCall, hdCallF, hdLen, hdMin, argsA, mapA, partsOk, partsF, lk, look, addR, evA, constA, HOut.ok, hty, hfs, tyAll, List.map, List.all, List.getElem?_cons_zero, List.getElem?_cons_succ, Option.bind_some, Option.map_some, Option.map_none, Option.getD_some, AV.pureA, Nat.reduceEqDiff, ↓reduceIte, reduceCtorEq, Nat.reduceLT, Nat.reduceLeDiff, Nat.reduceAdd, Nat.reduceMul, Int.reduceToNat, IntKind.bits, BEq.rfl, beq_self_eq_true, bne_self_eq_false, Int.reduceBEq, Int.reduceBNe, Int.reduceEq, Int.reduceNe, ne_eq, Int.reduceLT, Int.reduceLE, sFixed1, sWDiv, sNOf, sNDiv, sNWord, a3, a4, a8, nv_dig, M_256, wl_mod, eqA_refl]; (repeat refine And.intro (by first | omega | assumption | (and_intros <;> first | omega | assumption) | fail) ?_); refine hK _ ?_; clear hK K)
    | (refine T_cond rfl (fun hc => ?_) (fun hc => ?_) <;> (try simp only [cnds, reduceCtorEq] at hc) <;> (try (first | (exact hc.elim) | (exfalso; omega))))
  refine hQ _ ?_
  simp (disch := omega) only [resOk, res1, retOk, eqs, lk, look, AV.pureA, kill, AV.refs, hty, tyAll, Nat.reduceEqDiff, ↓reduceIte, reduceCtorEq, Nat.reduceLT, Nat.reduceLeDiff, Nat.reduceAdd, Nat.reduceMul, Int.reduceToNat, ne_eq, sLaw2]

theorem c_WideTogether : Contract Try.prog 21 sLaw2 := by
  refine fun_ok [(85, sFixed1), (84, sWDiv), (67, sNOf), (87, sNTimes), (68, sNPlus), (69, sNLess), (86, sNWord), (89, sNHigh), (88, sNZero)] ⟨c_fixed2, c_WDiv, c_NOf, c_NTimes, c_NPlus, c_NLess, c_NWord, c_NHigh, c_NZero, trivial⟩ Try.func21 rfl (by kernel_rfl) Try.ntmps21 Try.results21 (fun E hE hty hfs xs hp => ?_)
  unfold sLaw2 at hp
  split at hp
  case h_2 => exact hp.elim
  rename_i f g
  obtain ⟨hf, hg⟩ := hp
  have fb := wv_bd hf
  have gb := wv_bd hg
  refine ⟨by simp, fun Q hQ => ?_⟩
  simp only [params, Nat.reduceAdd]
  by_cases hG : wv g = 0
  · have e1 : eqA 4 (wl (wv f / wv g)) g = true := eqWf hg (by rw [hG, Int.ediv_zero]; decide)
    have e2 : eqA 4 (wl (nr (wv f) (wv g))) g = true := eqWf hg (by rw [hG]; rfl)
    have e0 := eqA_zero hg
    rw [decide_eq_true hG] at e0
    repeat' first
      | refine T_seq' ?_
      | refine T_block ?_
      | refine n_then ?_
      | refine x_then ?_
      | refine r_then ?_
      | refine n_block ?_
      | refine r_block ?_
      | refine x_block ?_
      | refine x_block' (by rfl) ?_
      | refine T_exit ?_
      | refine T_skip ?_
      | refine T_ret ?_
      | ((first | refine T_region hE (by rfl) (fun K hK => ?_) | refine T_draw hE (by rfl) (by kernel_rfl) (fun K hK => ?_)); simp (disch := omega) only [eqs, evs, stp, stepW, wantA, opStep, kindOf, headStep, skipStep, stStep, wrStep, cpStep, stA, appA, readSl, isSl, copyA, kill, AV.refs, hd, hdLoad, hdBin, intBin, hdUn, hdConv, hdIdxAddr, hdIdx, hdSlice, bnd, hdCall, hdCallF, hdLen, hdMin, argsA, mapA, partsOk, partsF, lk, look, addR, evA, constA, HOut.ok, hty, hfs, tyAll, List.map, List.all, List.getElem?_cons_zero, List.getElem?_cons_succ, Option.bind_some, Option.map_some, Option.map_none, Option.getD_some, AV.pureA, Nat.reduceEqDiff, ↓reduceIte, reduceCtorEq, Nat.reduceLT, Nat.reduceLeDiff, Nat.reduceAdd, Nat.reduceMul, Int.reduceToNat, IntKind.bits, BEq.rfl, beq_self_eq_true, bne_self_eq_false, Int.reduceBEq, Int.reduceBNe, Int.reduceEq, Int.reduceNe, ne_eq, Int.reduceLT, Int.reduceLE, sFixed1, sWDiv, e0, e1, e2]; (repeat refine And.intro (by first | omega | assumption | (and_intros <;> first | omega | assumption) | fail) ?_); refine hK _ ?_; clear hK K)
      | (refine T_cond rfl (fun hc => ?_) (fun hc => ?_) <;> (try simp only [cnds, reduceCtorEq] at hc) <;> (try (first | (exact hc.elim) | (exfalso; omega))))
    refine hQ _ ?_
    simp (disch := omega) only [resOk, res1, retOk, eqs, lk, look, AV.pureA, kill, AV.refs, hty, tyAll, Nat.reduceEqDiff, ↓reduceIte, reduceCtorEq, Nat.reduceLT, Nat.reduceLeDiff, Nat.reduceAdd, Nat.reduceMul, Int.reduceToNat, ne_eq, sLaw2]
  · have e0 := eqA_zero hg
    rw [decide_eq_false hG] at e0
    have hq : 0 ≤ wv f / wv g ∧ wv f / wv g < M := ⟨Int.ediv_nonneg fb.1 gb.1, Int.lt_of_le_of_lt (Int.ediv_le_self _ fb.1) fb.2⟩
    have hr := nr_bd (a := wv f) (show 0 < wv g by omega)
    have e3 : wv f / wv g * wv g + nr (wv f) (wv g) = wv f := by
      unfold nr
      rw [if_neg hG, Int.mul_comm]
      exact Int.mul_ediv_add_emod _ _
    have hM65 : M < 256 ^ 65 := by decide
    have hM66 : M < 256 ^ 66 := by decide
    have hm0 : 0 ≤ wv f / wv g * wv g := Int.mul_nonneg hq.1 gb.1
    generalize hq1 : wv f / wv g = q at *
    generalize hr1 : nr (wv f) (wv g) = r at *
    have a1 := D32 q
    have a2 := D32 (wv g)
    have a3 := D32 r
    have b1 := nv_dl hq.1 hq.2
    have b2 := nv_dl gb.1 gb.2
    have b3 := nv_dl (a := r) (by omega) (by omega)
    have a4 := Dg_dig (q * wv g) 65
    have b4 := nv_of (a := q * wv g) (n := 65) hm0 (by omega)
    have m1 : max 65 32 + 1 = 66 := rfl
    have a5 := Dg_dig (wv f) 66
    have b5 := nv_of (a := wv f) (n := 66) fb.1 (by omega)
    have e4 : eqA 4 (wl (wv f)) f = true := eqWf hf (modM fb.1 fb.2)
    have e5 : wv f / 256 ^ 32 = 0 := by rw [M_256]; exact Int.ediv_eq_zero_of_lt fb.1 fb.2
    have a6 := Dg_dig 0 34
    have b6 : nv 34 (dig 256 0) = 0 := by rw [nv_dig]; decide
    have hlt : r < wv g := hr.2
    repeat' first
      | refine T_seq' ?_
      | refine T_block ?_
      | refine n_then ?_
      | refine x_then ?_
      | refine r_then ?_
      | refine n_block ?_
      | refine r_block ?_
      | refine x_block ?_
      | refine x_block' (by rfl) ?_
      | refine T_exit ?_
      | refine T_skip ?_
      | refine T_ret ?_
      | ((first | refine T_region hE (by rfl) (fun K hK => ?_) | refine T_draw hE (by rfl) (by kernel_rfl) (fun K hK => ?_)); simp (disch := omega) only [eqs, evs, stp, stepW, wantA, opStep, kindOf, headStep, skipStep, stStep, wrStep, cpStep, stA, appA, readSl, isSl, copyA, kill, AV.refs, hd, hdLoad, hdBin, intBin, hdUn, hdConv, hdIdxAddr, hdIdx, hdSlice, bnd, hdCall, hdCallF, hdLen, hdMin, argsA, mapA, partsOk, partsF, lk, look, addR, evA, constA, HOut.ok, hty, hfs, tyAll, List.map, List.all, List.getElem?_cons_zero, List.getElem?_cons_succ, Option.bind_some, Option.map_some, Option.map_none, Option.getD_some, AV.pureA, Nat.reduceEqDiff, ↓reduceIte, reduceCtorEq, Nat.reduceLT, Nat.reduceLeDiff, Nat.reduceAdd, Nat.reduceMul, Int.reduceToNat, IntKind.bits, BEq.rfl, beq_self_eq_true, bne_self_eq_false, Int.reduceBEq, Int.reduceBNe, Int.reduceEq, Int.reduceNe, ne_eq, Int.reduceLT, Int.reduceLE, sFixed1, sWDiv, e0, hq1, hr1, sNOf, wv_wl, dl_mod, W_wl, sNTimes, b1, b2, b3, b4, b5, sNPlus, m1, e3, sNLess, hlt, sNWord, e4, sNHigh, shF_dig, e5, Nat.reduceSub, sNZero, b6]; (repeat refine And.intro (by first | omega | assumption | (and_intros <;> first | omega | assumption) | fail) ?_); refine hK _ ?_; clear hK K)
      | (refine T_cond rfl (fun hc => ?_) (fun hc => ?_) <;> (try simp only [cnds, reduceCtorEq] at hc) <;> (try (first | (exact hc.elim) | (exfalso; omega))))
    refine hQ _ ?_
    simp (disch := omega) only [resOk, res1, retOk, eqs, lk, look, AV.pureA, kill, AV.refs, hty, tyAll, Nat.reduceEqDiff, ↓reduceIte, reduceCtorEq, Nat.reduceLT, Nat.reduceLeDiff, Nat.reduceAdd, Nat.reduceMul, Int.reduceToNat, ne_eq, sLaw2]

theorem c_WideProducts : Contract Try.prog 22 sLaw2 := by
  refine fun_ok [(85, sFixed1), (90, sProd), (67, sNOf), (87, sNTimes), (86, sNWord), (89, sNHigh)] ⟨c_fixed2, c_Product, c_NOf, c_NTimes, c_NWord, c_NHigh, trivial⟩ Try.func22 rfl (by kernel_rfl) Try.ntmps22 Try.results22 (fun E hE hty hfs xs hp => ?_)
  unfold sLaw2 at hp
  split at hp
  case h_2 => exact hp.elim
  rename_i f g
  obtain ⟨hf, hg⟩ := hp
  have fb := wv_bd hf
  have gb := wv_bd hg
  have a1 := D32 (wv f)
  have a2 := D32 (wv g)
  have b1 := nv_dl fb.1 fb.2
  have b2 := nv_dl gb.1 gb.2
  have hP : 0 ≤ wv f * wv g ∧ wv f * wv g < M * M := ⟨Int.mul_nonneg fb.1 gb.1, by
    have := Int.mul_le_mul (show wv f ≤ M - 1 by omega) (show wv g ≤ M - 1 by omega) gb.1 (by decide)
    have h2 : (M - 1) * (M - 1) < M * M := by decide
    omega⟩
  have hM65 : M * M < 256 ^ 65 := by decide
  have hM33 : M < 256 ^ 33 := by decide
  have a3 := Dg_dig (wv f * wv g) 65
  have b3 := nv_of (a := wv f * wv g) (n := 65) hP.1 (by omega)
  have a4 := Dg_dig (wv f * wv g / M) 33
  have hq : 0 ≤ wv f * wv g / M ∧ wv f * wv g / M < M := ⟨Int.ediv_nonneg hP.1 (by decide), Int.ediv_lt_of_lt_mul M_pos hP.2⟩
  have b4 := nv_of (a := wv f * wv g / M) (n := 33) hq.1 (by omega)
  refine ⟨by simp, fun Q hQ => ?_⟩
  simp only [params, Nat.reduceAdd]
  repeat' first
    | refine T_seq' ?_
    | refine T_block ?_
    | refine n_then ?_
    | refine x_then ?_
    | refine r_then ?_
    | refine n_block ?_
    | refine r_block ?_
    | refine x_block ?_
    | refine x_block' (by rfl) ?_
    | refine T_exit ?_
    | refine T_skip ?_
    | refine T_ret ?_
    | ((first | refine T_region hE (by rfl) (fun K hK => ?_) | refine T_draw hE (by rfl) (by kernel_rfl) (fun K hK => ?_)); simp (disch := omega) only [eqs, evs, stp, stepW, wantA, opStep, kindOf, headStep, skipStep, stStep, wrStep, cpStep, stA, appA, readSl, isSl, copyA, kill, AV.refs, hd, hdLoad, hdBin, intBin, hdUn, hdConv, hdIdxAddr, hdIdx, hdSlice, bnd, hdCall, hdCallF, hdLen, hdMin, argsA, mapA, partsOk, partsF, lk, look, addR, evA, constA, HOut.ok, hty, hfs, tyAll, List.map, List.all, List.getElem?_cons_zero, List.getElem?_cons_succ, Option.bind_some, Option.map_some, Option.map_none, Option.getD_some, AV.pureA, Nat.reduceEqDiff, ↓reduceIte, reduceCtorEq, Nat.reduceLT, Nat.reduceLeDiff, Nat.reduceAdd, Nat.reduceMul, Int.reduceToNat, IntKind.bits, BEq.rfl, beq_self_eq_true, bne_self_eq_false, Int.reduceBEq, Int.reduceBNe, Int.reduceEq, Int.reduceNe, ne_eq, Int.reduceLT, Int.reduceLE, sFixed1, sProd, sNOf, sNTimes, sNWord, sNHigh, Nat.reduceSub, shF_dig, M_256, b1, b2, b3, b4, eqA_refl]; (repeat refine And.intro (by first | omega | assumption | (and_intros <;> first | omega | assumption) | fail) ?_); refine hK _ ?_; clear hK K)
    | (refine T_cond rfl (fun hc => ?_) (fun hc => ?_) <;> (try simp only [cnds, reduceCtorEq] at hc) <;> (try (first | (exact hc.elim) | (exfalso; omega))))
  refine hQ _ ?_
  simp (disch := omega) only [resOk, res1, retOk, eqs, lk, look, AV.pureA, kill, AV.refs, hty, tyAll, Nat.reduceEqDiff, ↓reduceIte, reduceCtorEq, Nat.reduceLT, Nat.reduceLeDiff, Nat.reduceAdd, Nat.reduceMul, Int.reduceToNat, ne_eq, sLaw2]

end Go.Proofs.Ytijoifajbmhgdaa.Sym
