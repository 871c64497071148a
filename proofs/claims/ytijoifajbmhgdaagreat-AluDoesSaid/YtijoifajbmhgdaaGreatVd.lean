/- What is left of sums and products; whole products; powers. -/
import Derived.Test.YtijoifajbmhgdaaGreatVc
import Derived.Test.YtijoifajbmhgdaaGreatWg
namespace Go.Proofs.YtijoifajbmhgdaaGreat.Sym
set_option linter.unusedVariables false
open Go Go.RowKit Num
set_option maxRecDepth 10000
set_option linter.unusedSimpArgs false

/-! ### What is left of 512 bits -/
def sRest : List AV → SOut
  | [.arr .u64 4 f, .arr .u64 4 g, .arr .u64 4 h] => ⟨W f ∧ W g ∧ W h, .arr .u64 4 (wl (nr (wv f + wv g * M) (wv h)))⟩
  | _ => ⟨False, .und⟩
theorem dig2_low {F H : Int} {i : Nat} (hi : i < 256) : dig 2 (F + H * M) i = dig 2 F i := by
  rw [← dig_mod (B := 2) (by decide) (F + H * M) hi, ← dig_mod (B := 2) (by decide) F hi, M_2, Int.add_mul_emod_self_right]
theorem high_low {F H : Int} (h0 : 0 ≤ F) (h1 : F < M) : (F + H * M) / 2 ^ 256 = H := by
  rw [M_2, Int.add_mul_ediv_right _ _ (by decide), Int.ediv_eq_zero_of_lt h0 h1, Int.zero_add]
theorem c_rest : Contract Tryz.prog 27 sRest := by
  refine fun_ok [(66, sWDiv), (68, sBit), (67, sStep)] ⟨c_WDiv, c_Bit, c_step, trivial⟩ Tryz.func27 rfl (by kernel_rfl) Tryz.ntmps27 Tryz.results27 (fun E hE hty hfs xs hp => ?_)
  unfold sRest at hp
  split at hp
  case h_2 => exact hp.elim
  rename_i f g h
  obtain ⟨hf, hg, hh⟩ := hp
  have hp : True := trivial
  have fb := wv_bd hf
  have gb := wv_bd hg
  have hb := wv_bd hh
  refine ⟨by simp, fun Q hQ => ?_⟩
  simp only [params, Nat.reduceAdd]
  by_cases hG : wv h = 0
  · repeat' first
      | refine T_seq' ?_
      | refine T_block ?_
      | refine n_then ?_
      | refine x_then ?_
      | refine r_then ?_
      | refine n_block ?_
      | refine r_block ?_
      | refine x_block ?_
      | refine x_block' (by rfl) ?_
      | refine T_exit ?_
      | refine T_skip ?_
      | refine T_ret ?_
      | (refine T_region hE (by rfl) (fun K hK => ?_); simp (disch := omega) only [eqs, evs, stp, stepW, wantA, opStep, kindOf, headStep, skipStep, stStep, wrStep, cpStep, stA, appA, readSl, isSl, copyA, kill, AV.refs, hd, hdLoad, hdBin, intBin, hdUn, hdConv, hdIdxAddr, hdIdx, hdSlice, bnd, hdCall, hdCallF, hdLen, hdMin, argsA, mapA, partsOk, partsF, lk, look, addR, evA, constA, HOut.ok, hty, hfs, tyAll, List.map, List.all, List.getElem?_cons_zero, List.getElem?_cons_succ, Option.bind_some, Option.map_some, Option.map_none, Option.getD_some, AV.pureA, Nat.reduceEqDiff, ↓reduceIte, reduceCtorEq, Nat.reduceLT, Nat.reduceLeDiff, Nat.reduceAdd, Nat.reduceMul, Int.reduceToNat, IntKind.bits, BEq.rfl, beq_self_eq_true, bne_self_eq_false, Int.reduceBEq, Int.reduceBNe, Int.reduceEq, Int.reduceNe, ne_eq, Int.reduceLT, Int.reduceLE, eqA_zero hh, hG]; (repeat refine And.intro (by first | omega | assumption | (and_intros <;> first | omega | assumption) | fail) ?_); refine hK _ ?_; clear hK K)
      | (refine T_cond rfl (fun hc => ?_) (fun hc => ?_) <;> (try simp only [cnds, reduceCtorEq] at hc) <;> (try (first | (exact hc.elim) | (exfalso; omega))))
    refine hQ _ ?_
    simp (disch := omega) only [resOk, res1, retOk, eqs, lk, look, AV.pureA, kill, AV.refs, hty, tyAll, Nat.reduceEqDiff, ↓reduceIte, reduceCtorEq, Nat.reduceLT, Nat.reduceLeDiff, Nat.reduceAdd, Nat.reduceMul, Int.reduceToNat, ne_eq, sRest, hG, nr, wl_zero]
    intro j hj
    have := eqA_zero hh
    rw [decide_eq_true hG] at this
    exact eqA_eq.1 this j hj
  have hG0 : 0 < wv h := by omega
  generalize hF : wv f = F at *
  generalize hH : wv g = H at *
  generalize hGG : wv h = G at *
  obtain ⟨N, hN⟩ : ∃ N, N = F + H * M := ⟨_, rfl⟩
  have hRb : ∀ i : Nat, 0 ≤ N / 2 ^ i % G ∧ N / 2 ^ i % G < G := fun i => ⟨Int.emod_nonneg _ (by omega), Int.emod_lt_of_pos _ hG0⟩
  repeat' first
    | refine T_seq' ?_
    | refine T_block ?_
    | refine n_then ?_
    | refine x_then ?_
    | refine r_then ?_
    | refine n_block ?_
    | refine r_block ?_
    | refine x_block ?_
    | refine x_block' (by rfl) ?_
    | refine T_exit ?_
    | refine T_skip ?_
    | refine T_ret ?_
    | (refine T_region hE (by rfl) (fun K hK => ?_); simp (disch := omega) only [eqs, evs, stp, stepW, wantA, opStep, kindOf, headStep, skipStep, stStep, wrStep, cpStep, stA, appA, readSl, isSl, copyA, kill, AV.refs, hd, hdLoad, hdBin, intBin, hdUn, hdConv, hdIdxAddr, hdIdx, hdSlice, bnd, hdCall, hdCallF, hdLen, hdMin, argsA, mapA, partsOk, partsF, lk, look, addR, evA, constA, HOut.ok, hty, hfs, tyAll, List.map, List.all, List.getElem?_cons_zero, List.getElem?_cons_succ, Option.bind_some, Option.map_some, Option.map_none, Option.getD_some, AV.pureA, Nat.reduceEqDiff, ↓reduceIte, reduceCtorEq, Nat.reduceLT, Nat.reduceLeDiff, Nat.reduceAdd, Nat.reduceMul, Int.reduceToNat, IntKind.bits, BEq.rfl, beq_self_eq_true, bne_self_eq_false, Int.reduceBEq, Int.reduceBNe, Int.reduceEq, Int.reduceNe, ne_eq, Int.reduceLT, Int.reduceLE, eqA_zero hh, hG, hGG, hH, sWDiv]; (repeat refine And.intro (by first | omega | assumption | (and_intros <;> first | omega | assumption) | fail) ?_); refine hK _ ?_; clear hK K)
    | (refine T_cond rfl (fun hc => ?_) (fun hc => ?_) <;> (try simp only [cnds, reduceCtorEq] at hc) <;> (try (first | (exact hc.elim) | (exfalso; omega))))
  refine T_for (ι := Nat) (fun i => ⟨[(3, .elt 3 0), (5, .elt 5 0), (6, .elt 6 0), (8, .elt 8 0), (9, .int .i64 ((i : Int) - 1))], [(3, ⟨.u64, 4, f⟩), (5, ⟨.u64, 4, h⟩), (6, ⟨.u64, 4, fun _ => 0⟩), (8, ⟨.u64, 4, wl (N / 2 ^ i % G)⟩)]⟩)
    (fun i => i ≤ 256) (fun i => i) ⟨256, Nat.le_refl _, ?_⟩ (fun i hi => ?_)
  · rw [hN, high_low fb.1 fb.2]
    (simp (disch := omega) only [Le, AllF, AllR, slotLe, rowLe, refsIn, Option.isSome_some, implies_true, forall_const, AV.int.injEq, AV.bool.injEq, AV.elt.injEq, Int.natCast_add, Int.cast_ofNat_Int, eqs, lk, look, AV.pureA, kill, AV.refs, hty, tyAll, Nat.reduceEqDiff, ↓reduceIte, reduceCtorEq, Nat.reduceLT, Nat.reduceLeDiff, Nat.reduceAdd, Nat.reduceMul, Int.reduceToNat, ne_eq, nr, hG, if_false] <;> repeat' (first | rfl | apply And.intro | omega))
  · cases i with
    | zero =>
      repeat' first
        | refine T_seq' ?_
        | refine T_block ?_
        | refine n_then ?_
        | refine x_then ?_
        | refine r_then ?_
        | refine n_block ?_
        | refine r_block ?_
        | refine x_block ?_
        | refine x_block' (by rfl) ?_
        | refine T_exit ?_
        | refine T_skip ?_
        | refine T_ret ?_
        | (refine T_region hE (by rfl) (fun K hK => ?_); simp (disch := omega) only [eqs, evs, stp, stepW, wantA, opStep, kindOf, headStep, skipStep, stStep, wrStep, cpStep, stA, appA, readSl, isSl, copyA, kill, AV.refs, hd, hdLoad, hdBin, intBin, hdUn, hdConv, hdIdxAddr, hdIdx, hdSlice, bnd, hdCall, hdCallF, hdLen, hdMin, argsA, mapA, partsOk, partsF, lk, look, addR, evA, constA, HOut.ok, hty, hfs, tyAll, List.map, List.all, List.getElem?_cons_zero, List.getElem?_cons_succ, Option.bind_some, Option.map_some, Option.map_none, Option.getD_some, AV.pureA, Nat.reduceEqDiff, ↓reduceIte, reduceCtorEq, Nat.reduceLT, Nat.reduceLeDiff, Nat.reduceAdd, Nat.reduceMul, Int.reduceToNat, IntKind.bits, BEq.rfl, beq_self_eq_true, bne_self_eq_false, Int.reduceBEq, Int.reduceBNe, Int.reduceEq, Int.reduceNe, ne_eq, Int.reduceLT, Int.reduceLE]; (repeat refine And.intro (by first | omega | assumption | (and_intros <;> first | omega | assumption) | fail) ?_); refine hK _ ?_; clear hK K)
        | (refine T_cond rfl (fun hc => ?_) (fun hc => ?_) <;> (try simp only [cnds, reduceCtorEq] at hc) <;> (try (first | (exact hc.elim) | (exfalso; omega))))
      refine hQ _ ?_
      simp (disch := omega) only [resOk, res1, retOk, eqs, lk, look, AV.pureA, kill, AV.refs, hty, tyAll, Nat.reduceEqDiff, ↓reduceIte, reduceCtorEq, Nat.reduceLT, Nat.reduceLeDiff, Nat.reduceAdd, Nat.reduceMul, Int.reduceToNat, ne_eq, sRest]
      rw [hF, hH, hGG, ← hN]
      unfold nr
      rw [if_neg hG, Int.pow_zero, Int.ediv_one]
      exact fun _ _ => rfl
    | succ i =>
      have e0 : (((i + 1 : Nat) : Int) - 1) = i := by omega
      rw [e0]
      have hR := hRb (i + 1)
      obtain ⟨hst, hqt⟩ := half_step (F := N) (G := G) (i := i) hG0
      have hdig : dig 2 F i = dig 2 N i := by rw [hN, dig2_low (by omega)]
      have eR : wv (wl (N / 2 ^ (i + 1) % G)) = N / 2 ^ (i + 1) % G := by rw [wv_wl]; exact modM (by omega) (by omega)
      repeat' first
        | refine T_seq' ?_
        | refine T_block ?_
        | refine n_then ?_
        | refine x_then ?_
        | refine r_then ?_
        | refine n_block ?_
        | refine r_block ?_
        | refine x_block ?_
        | refine x_block' (by rfl) ?_
        | refine T_exit ?_
        | refine T_skip ?_
        | refine T_ret ?_
        | (refine T_region hE (by rfl) (fun K hK => ?_); simp (disch := omega) only [eqs, evs, stp, stepW, wantA, opStep, kindOf, headStep, skipStep, stStep, wrStep, cpStep, stA, appA, readSl, isSl, copyA, kill, AV.refs, hd, hdLoad, hdBin, intBin, hdUn, hdConv, hdIdxAddr, hdIdx, hdSlice, bnd, hdCall, hdCallF, hdLen, hdMin, argsA, mapA, partsOk, partsF, lk, look, addR, evA, constA, HOut.ok, hty, hfs, tyAll, List.map, List.all, List.getElem?_cons_zero, List.getElem?_cons_succ, Option.bind_some, Option.map_some, Option.map_none, Option.getD_some, AV.pureA, Nat.reduceEqDiff, ↓reduceIte, reduceCtorEq, Nat.reduceLT, Nat.reduceLeDiff, Nat.reduceAdd, Nat.reduceMul, Int.reduceToNat, IntKind.bits, BEq.rfl, beq_self_eq_true, bne_self_eq_false, Int.reduceBEq, Int.reduceBNe, Int.reduceEq, Int.reduceNe, ne_eq, Int.reduceLT, Int.reduceLE]; (repeat refine And.intro (by first | omega | assumption | (and_intros <;> first | omega | assumption) | fail) ?_); refine hK _ ?_; clear hK K)
        | (refine T_cond rfl (fun hc => ?_) (fun hc => ?_) <;> (try simp only [cnds, reduceCtorEq] at hc) <;> (try (first | (exact hc.elim) | (exfalso; omega))))
      refine T_drawP [(24, 8)] hE (by rfl) (by kernel_rfl) (fun K hK => ?_)
      simp (disch := omega) only [disj, noSh, eqs, evs, stp, stepW, wantA, opStep, kindOf, headStep, skipStep, stStep, wrStep, cpStep, stA, appA, readSl, isSl, copyA, kill, AV.refs, hd, hdLoad, hdBin, intBin, hdUn, hdConv, hdIdxAddr, hdIdx, hdSlice, bnd, hdCall, hdCallF, hdLen, hdMin, argsA, mapA, partsOk, partsF, lk, look, addR, evA, constA, HOut.ok, hty, hfs, tyAll, List.map, List.all, List.getElem?_cons_zero, List.getElem?_cons_succ, Option.bind_some, Option.map_some, Option.map_none, Option.getD_some, AV.pureA, Nat.reduceEqDiff, ↓reduceIte, reduceCtorEq, Nat.reduceLT, Nat.reduceLeDiff, Nat.reduceAdd, Nat.reduceMul, Int.reduceToNat, IntKind.bits, BEq.rfl, beq_self_eq_true, bne_self_eq_false, Int.reduceBEq, Int.reduceBNe, Int.reduceEq, Int.reduceNe, ne_eq, Int.reduceLT, Int.reduceLE, sStep, sBit, W_wl, hF, hGG, eR, hdig, ← hst]
      (repeat refine And.intro (by first | omega | assumption | (and_intros <;> first | omega | assumption) | fail) ?_); refine hK _ (by simp only [disj, noSh, lk, AV.pureA, Bool.and_self, true_and, ne_eq, Nat.reduceEqDiff, not_false_eq_true, ↓reduceIte, and_self]) ?_
      clear hK K
      repeat' first
        | refine T_seq' ?_
        | refine T_block ?_
        | refine n_then ?_
        | refine x_then ?_
        | refine r_then ?_
        | refine n_block ?_
        | refine r_block ?_
        | refine x_block ?_
        | refine x_block' (by rfl) ?_
        | refine T_exit ?_
        | refine T_skip ?_
        | refine T_ret ?_
        | (refine T_region hE (by rfl) (fun K hK => ?_); simp (disch := omega) only [eqs, evs, stp, stepW, wantA, opStep, kindOf, headStep, skipStep, stStep, wrStep, cpStep, stA, appA, readSl, isSl, copyA, kill, AV.refs, hd, hdLoad, hdBin, intBin, hdUn, hdConv, hdIdxAddr, hdIdx, hdSlice, bnd, hdCall, hdCallF, hdLen, hdMin, argsA, mapA, partsOk, partsF, lk, look, addR, evA, constA, HOut.ok, hty, hfs, tyAll, List.map, List.all, List.getElem?_cons_zero, List.getElem?_cons_succ, Option.bind_some, Option.map_some, Option.map_none, Option.getD_some, AV.pureA, Nat.reduceEqDiff, ↓reduceIte, reduceCtorEq, Nat.reduceLT, Nat.reduceLeDiff, Nat.reduceAdd, Nat.reduceMul, Int.reduceToNat, IntKind.bits, BEq.rfl, beq_self_eq_true, bne_self_eq_false, Int.reduceBEq, Int.reduceBNe, Int.reduceEq, Int.reduceNe, ne_eq, Int.reduceLT, Int.reduceLE]; (repeat refine And.intro (by first | omega | assumption | (and_intros <;> first | omega | assumption) | fail) ?_); refine hK _ ?_; clear hK K)
        | (refine T_cond rfl (fun hc => ?_) (fun hc => ?_) <;> (try simp only [cnds, reduceCtorEq] at hc) <;> (try (first | (exact hc.elim) | (exfalso; omega))))
      refine ⟨i, by omega, by omega, ?_⟩
      (simp (disch := omega) only [Le, AllF, AllR, slotLe, rowLe, refsIn, Option.isSome_some, implies_true, forall_const, AV.int.injEq, AV.bool.injEq, AV.elt.injEq, Int.natCast_add, Int.cast_ofNat_Int, eqs, lk, look, AV.pureA, kill, AV.refs, hty, tyAll, Nat.reduceEqDiff, ↓reduceIte, reduceCtorEq, Nat.reduceLT, Nat.reduceLeDiff, Nat.reduceAdd, Nat.reduceMul, Int.reduceToNat, ne_eq] <;> repeat' (first | rfl | apply And.intro | omega))

/-! ### Whole products -/
def sProd : List AV → SOut
  | [.arr .u64 4 f, .arr .u64 4 g] => ⟨W f ∧ W g, .pair (.arr .u64 4 (wl (wv f * wv g))) (.arr .u64 4 (wl (wv f * wv g / M)))⟩
  | _ => ⟨False, .und⟩
theorem Dg8_upd {B : Int} {L : Nat} {o : Nat → Int} {m : Nat} {v : Int} (h : Dg B L o) (h0 : 0 ≤ v) (h1 : v < B) : Dg B L (updF o m v) := fun j hj => by
  by_cases e : m = j
  · subst e; rw [updF_same]; exact ⟨h0, h1⟩
  · rw [updF_ne _ _ e]; exact h j hj
theorem wl_low (a : Int) (j : Nat) (hj : j < 4) : wl a j = dig B64 a j := by
  unfold wl
  rw [← B64_pow4]
  exact dig_mod B64_pos a hj
theorem wl_high (a : Int) (j : Nat) (hj : j < 4) : wl (a / M) j = dig B64 a (4 + j) := by
  rw [wl_low _ _ hj]
  unfold dig
  rw [← B64_pow4, Int.ediv_ediv_of_nonneg (Int.pow_nonneg (by decide)), ← Int.pow_add]
theorem c_Product : Contract Tryz.prog 28 sProd := by
  refine fun_ok [(69, sMul64), (65, sAdd64)] ⟨c_Mul64, c_Add64, trivial⟩ Tryz.func28 rfl (by kernel_rfl) Tryz.ntmps28 Tryz.results28 (fun E hE hty hfs xs hp => ?_)
  unfold sProd at hp
  split at hp
  case h_2 => exact hp.elim
  rename_i f g
  obtain ⟨hf, hg⟩ := hp
  refine ⟨by simp, fun Q hQ => ?_⟩
  simp only [params, Nat.reduceAdd]
  repeat' first
    | refine T_seq' ?_
    | refine T_block ?_
    | refine n_then ?_
    | refine x_then ?_
    | refine r_then ?_
    | refine n_block ?_
    | refine r_block ?_
    | refine x_block ?_
    | refine x_block' (by rfl) ?_
    | refine T_exit ?_
    | refine T_skip ?_
    | refine T_ret ?_
    | (refine T_region hE (by rfl) (fun K hK => ?_); simp (disch := omega) only [eqs, evs, stp, stepW, wantA, opStep, kindOf, headStep, skipStep, stStep, wrStep, cpStep, stA, appA, readSl, isSl, copyA, kill, AV.refs, hd, hdLoad, hdBin, intBin, hdUn, hdConv, hdIdxAddr, hdIdx, hdSlice, bnd, hdCall, hdCallF, hdLen, hdMin, argsA, mapA, partsOk, partsF, lk, look, addR, evA, constA, HOut.ok, hty, hfs, tyAll, List.map, List.all, List.getElem?_cons_zero, List.getElem?_cons_succ, Option.bind_some, Option.map_some, Option.map_none, Option.getD_some, AV.pureA, Nat.reduceEqDiff, ↓reduceIte, reduceCtorEq, Nat.reduceLT, Nat.reduceLeDiff, Nat.reduceAdd, Nat.reduceMul, Int.reduceToNat, IntKind.bits, BEq.rfl, beq_self_eq_true, bne_self_eq_false, Int.reduceBEq, Int.reduceBNe, Int.reduceEq, Int.reduceNe, ne_eq, Int.reduceLT, Int.reduceLE]; (repeat refine And.intro (by first | omega | assumption | (and_intros <;> first | omega | assumption) | fail) ?_); refine hK _ ?_; clear hK K)
    | (refine T_cond rfl (fun hc => ?_) (fun hc => ?_) <;> (try simp only [cnds, reduceCtorEq] at hc) <;> (try (first | (exact hc.elim) | (exfalso; omega))))
  refine T_for (ι := Nat × (Nat → Int)) (fun i => ⟨[(2, .elt 2 0), (3, .elt 3 0), (4, .elt 4 0), (5, .elt 5 0), (6, .elt 6 0), (13, .int .i64 i.1)],
      [(2, ⟨.u64, 4, f⟩), (3, ⟨.u64, 4, g⟩), (4, ⟨.u64, 4, fun _ => 0⟩), (5, ⟨.u64, 4, fun _ => 0⟩), (6, ⟨.u64, 8, i.2⟩)]⟩)
    (fun i => i.1 ≤ 4 ∧ Dg B64 8 i.2 ∧ (∀ j, i.1 + 4 ≤ j → i.2 j = 0) ∧ wsum B64 i.2 8 = wsum B64 f i.1 * wv g) (fun i => 4 - i.1)
    ⟨(0, fun _ => 0), ⟨by simp, fun j hj => by simp [B64], fun _ _ => rfl, by simp [wsum]⟩, ?_⟩ (fun i hi => ?_)
  · (simp (disch := omega) only [Le, AllF, AllR, slotLe, rowLe, refsIn, Option.isSome_some, implies_true, forall_const, AV.int.injEq, AV.bool.injEq, AV.elt.injEq, Int.natCast_add, Int.cast_ofNat_Int, eqs, lk, look, AV.pureA, kill, AV.refs, hty, tyAll, Nat.reduceEqDiff, ↓reduceIte, reduceCtorEq, Nat.reduceLT, Nat.reduceLeDiff, Nat.reduceAdd, Nat.reduceMul, Int.reduceToNat, ne_eq] <;> repeat' (first | rfl | apply And.intro | omega))
  · obtain ⟨i, o0⟩ := i
    obtain ⟨hi, ho0, ht0, hz⟩ := hi
    simp only at hi ho0 ht0 hz ⊢
    by_cases hlt : i < 4
    · have fi := W_U hf i hlt
      unfold U at fi
      have h1 : (i : Int) < 4 := by omega
      repeat' first
        | refine T_seq' ?_
        | refine T_block ?_
        | refine n_then ?_
        | refine x_then ?_
        | refine r_then ?_
        | refine n_block ?_
        | refine r_block ?_
        | refine x_block ?_
        | refine x_block' (by rfl) ?_
        | refine T_exit ?_
        | refine T_skip ?_
        | refine T_ret ?_
        | (refine T_region hE (by rfl) (fun K hK => ?_); simp (disch := omega) only [eqs, evs, stp, stepW, wantA, opStep, kindOf, headStep, skipStep, stStep, wrStep, cpStep, stA, appA, readSl, isSl, copyA, kill, AV.refs, hd, hdLoad, hdBin, intBin, hdUn, hdConv, hdIdxAddr, hdIdx, hdSlice, bnd, hdCall, hdCallF, hdLen, hdMin, argsA, mapA, partsOk, partsF, lk, look, addR, evA, constA, HOut.ok, hty, hfs, tyAll, List.map, List.all, List.getElem?_cons_zero, List.getElem?_cons_succ, Option.bind_some, Option.map_some, Option.map_none, Option.getD_some, AV.pureA, Nat.reduceEqDiff, ↓reduceIte, reduceCtorEq, Nat.reduceLT, Nat.reduceLeDiff, Nat.reduceAdd, Nat.reduceMul, Int.reduceToNat, IntKind.bits, BEq.rfl, beq_self_eq_true, bne_self_eq_false, Int.reduceBEq, Int.reduceBNe, Int.reduceEq, Int.reduceNe, ne_eq, Int.reduceLT, Int.reduceLE, h1]; (repeat refine And.intro (by first | omega | assumption | (and_intros <;> first | omega | assumption) | fail) ?_); refine hK _ ?_; clear hK K)
        | (refine T_cond rfl (fun hc => ?_) (fun hc => ?_) <;> (try simp only [cnds, reduceCtorEq] at hc) <;> (try (first | (exact hc.elim) | (exfalso; omega))))
      refine T_for (ι := Nat × (Nat → Int) × Int) (fun k => ⟨[(2, .elt 2 0), (3, .elt 3 0), (4, .elt 4 0), (5, .elt 5 0), (6, .elt 6 0), (13, .int .i64 i), (7, .int .i64 i), (8, .int .u64 k.2.2), (16, .int .i64 k.1)],
          [(2, ⟨.u64, 4, f⟩), (3, ⟨.u64, 4, g⟩), (4, ⟨.u64, 4, fun _ => 0⟩), (5, ⟨.u64, 4, fun _ => 0⟩), (6, ⟨.u64, 8, k.2.1⟩)]⟩)
        (fun k => k.1 ≤ 4 ∧ Dg B64 8 k.2.1 ∧ (∀ j, i + 4 ≤ j → k.2.1 j = 0) ∧ U k.2.2 ∧ wsum B64 k.2.1 8 + k.2.2 * B64 ^ (i + k.1) = wsum B64 f i * wv g + f i * B64 ^ i * wsum B64 g k.1) (fun k => 4 - k.1)
        ⟨(0, o0, 0), ⟨by simp, ho0, ht0, ⟨by simp, by simp⟩, by simp only; rw [show wsum B64 g 0 = 0 from rfl, Int.mul_zero, Int.zero_mul, Int.add_zero, Int.add_zero]; exact hz⟩, ?_⟩ (fun k hk => ?_)
      · (simp (disch := omega) only [Le, AllF, AllR, slotLe, rowLe, refsIn, Option.isSome_some, implies_true, forall_const, AV.int.injEq, AV.bool.injEq, AV.elt.injEq, Int.natCast_add, Int.cast_ofNat_Int, eqs, lk, look, AV.pureA, kill, AV.refs, hty, tyAll, Nat.reduceEqDiff, ↓reduceIte, reduceCtorEq, Nat.reduceLT, Nat.reduceLeDiff, Nat.reduceAdd, Nat.reduceMul, Int.reduceToNat, ne_eq] <;> repeat' (first | rfl | apply And.intro | omega))
      · obtain ⟨k, o, c⟩ := k
        obtain ⟨hk, ho, ht, hc, hs⟩ := hk
        simp only at hk ho ht hc hs ⊢
        by_cases hkl : k < 4
        · have gk := W_U hg k (by omega)
          have oik : U (o (i + k)) := ho (i + k) (by omega)
          unfold U at gk oik hc
          have h2 : (k : Int) < 4 := by omega
          have hP : 0 ≤ f i * g k ∧ f i * g k ≤ 340282366920938463426481119284349108225 := ⟨Int.mul_nonneg fi.1 gk.1, by
            have := Int.mul_le_mul (show f i ≤ 18446744073709551615 by omega) (show g k ≤ 18446744073709551615 by omega) gk.1 (by decide)
            simpa using this⟩
          have e0 : ((i : Int) + (k : Int)).toNat = i + k := by omega
          have e1 : ((f i * g k % 18446744073709551616 + o (i + k) + 0) % 18446744073709551616 + c + 0) % 18446744073709551616 = (f i * g k + o (i + k) + c) % 18446744073709551616 := by omega
          have e2 : f i * g k / 18446744073709551616 + (f i * g k % 18446744073709551616 + o (i + k) + 0) / 18446744073709551616 + ((f i * g k % 18446744073709551616 + o (i + k) + 0) % 18446744073709551616 + c + 0) / 18446744073709551616 = (f i * g k + o (i + k) + c) / 18446744073709551616 := by omega
          have hround := mul_roundB (B := B64) (N := 8) (T := f i * g k + o (i + k) + c) (show i + k < 8 by omega) hs (by omega)
          repeat' first
            | refine T_seq' ?_
            | refine T_block ?_
            | refine n_then ?_
            | refine x_then ?_
            | refine r_then ?_
            | refine n_block ?_
            | refine r_block ?_
            | refine x_block ?_
            | refine x_block' (by rfl) ?_
            | refine T_exit ?_
            | refine T_skip ?_
            | refine T_ret ?_
            | ((first | refine T_region hE (by rfl) (fun K hK => ?_) | refine T_draw hE (by rfl) (by kernel_rfl) (fun K hK => ?_)); simp (disch := omega) only [eqs, evs, stp, stepW, wantA, opStep, kindOf, headStep, skipStep, stStep, wrStep, cpStep, stA, appA, readSl, isSl, copyA, kill, AV.refs, hd, hdLoad, hdBin, intBin, hdUn, hdConv, hdIdxAddr, hdIdx, hdSlice, bnd, hdCall, hdCallF, hdLen, hdMin, argsA, mapA, partsOk, partsF, lk, look, addR, evA, constA, HOut.ok, hty, hfs, tyAll, List.map, List.all, List.getElem?_cons_zero, List.getElem?_cons_succ, Option.bind_some, Option.map_some, Option.map_none, Option.getD_some, AV.pureA, Nat.reduceEqDiff, ↓reduceIte, reduceCtorEq, Nat.reduceLT, Nat.reduceLeDiff, Nat.reduceAdd, Nat.reduceMul, Int.reduceToNat, IntKind.bits, BEq.rfl, beq_self_eq_true, bne_self_eq_false, Int.reduceBEq, Int.reduceBNe, Int.reduceEq, Int.reduceNe, ne_eq, Int.reduceLT, Int.reduceLE, h2, sMul64, sAdd64, e0, e1, e2]; (repeat refine And.intro (by first | omega | assumption | (and_intros <;> first | omega | assumption) | fail) ?_); refine hK _ ?_; clear hK K)
            | (refine T_cond rfl (fun hc => ?_) (fun hc => ?_) <;> (try simp only [cnds, reduceCtorEq] at hc) <;> (try (first | (exact hc.elim) | (exfalso; omega))))
          refine ⟨(k + 1, updF o (i + k) ((f i * g k + o (i + k) + c) % 18446744073709551616), (f i * g k + o (i + k) + c) / 18446744073709551616), ⟨by simp only; omega, Dg8_upd ho (Int.emod_nonneg _ (by decide)) (Int.emod_lt_of_pos _ (by decide)), fun j hj => by simp only; rw [updF_ne _ _ (by omega)]; exact ht j hj, ⟨by simp only; omega, by simp only; omega⟩, hround⟩, by simp only; omega, ?_⟩
          (simp (disch := omega) only [Le, AllF, AllR, slotLe, rowLe, refsIn, Option.isSome_some, implies_true, forall_const, AV.int.injEq, AV.bool.injEq, AV.elt.injEq, Int.natCast_add, Int.cast_ofNat_Int, eqs, lk, look, AV.pureA, kill, AV.refs, hty, tyAll, Nat.reduceEqDiff, ↓reduceIte, reduceCtorEq, Nat.reduceLT, Nat.reduceLeDiff, Nat.reduceAdd, Nat.reduceMul, Int.reduceToNat, ne_eq] <;> repeat' (first | rfl | apply And.intro | omega))
        · have h2 : ¬ (k : Int) < 4 := by omega
          obtain rfl : k = 4 := by omega
          have e1 : ((i : Int) + 4).toNat = i + 4 := by omega
          have hcU := hc
          unfold U at hc hcU
          repeat' first
            | refine T_seq' ?_
            | refine T_block ?_
            | refine n_then ?_
            | refine x_then ?_
            | refine r_then ?_
            | refine n_block ?_
            | refine r_block ?_
            | refine x_block ?_
            | refine x_block' (by rfl) ?_
            | refine T_exit ?_
            | refine T_skip ?_
            | refine T_ret ?_
            | (refine T_region hE (by rfl) (fun K hK => ?_); simp (disch := omega) only [eqs, evs, stp, stepW, wantA, opStep, kindOf, headStep, skipStep, stStep, wrStep, cpStep, stA, appA, readSl, isSl, copyA, kill, AV.refs, hd, hdLoad, hdBin, intBin, hdUn, hdConv, hdIdxAddr, hdIdx, hdSlice, bnd, hdCall, hdCallF, hdLen, hdMin, argsA, mapA, partsOk, partsF, lk, look, addR, evA, constA, HOut.ok, hty, hfs, tyAll, List.map, List.all, List.getElem?_cons_zero, List.getElem?_cons_succ, Option.bind_some, Option.map_some, Option.map_none, Option.getD_some, AV.pureA, Nat.reduceEqDiff, ↓reduceIte, reduceCtorEq, Nat.reduceLT, Nat.reduceLeDiff, Nat.reduceAdd, Nat.reduceMul, Int.reduceToNat, IntKind.bits, BEq.rfl, beq_self_eq_true, bne_self_eq_false, Int.reduceBEq, Int.reduceBNe, Int.reduceEq, Int.reduceNe, ne_eq, Int.reduceLT, Int.reduceLE, h2, e1]; (repeat refine And.intro (by first | omega | assumption | (and_intros <;> first | omega | assumption) | fail) ?_); refine hK _ ?_; clear hK K)
            | (refine T_cond rfl (fun hc => ?_) (fun hc => ?_) <;> (try simp only [cnds, reduceCtorEq] at hc) <;> (try (first | (exact hc.elim) | (exfalso; omega))))
          refine ⟨(i + 1, updF o (i + 4) c), ⟨by simp only; omega, Dg8_upd ho hcU.1 hcU.2, fun j hj => by simp only at hj ⊢; rw [updF_ne _ _ (by omega)]; exact ht j (by omega), ?_⟩, by simp only; omega, ?_⟩
          · simp only
            rw [wsum_upd B64 o (i + 4) c 8 (by omega), ht (i + 4) (Nat.le_refl _), Int.sub_zero, hs, wsum_succ B64 f i, Int.add_mul]
            rfl
          · (simp (disch := omega) only [Le, AllF, AllR, slotLe, rowLe, refsIn, Option.isSome_some, implies_true, forall_const, AV.int.injEq, AV.bool.injEq, AV.elt.injEq, Int.natCast_add, Int.cast_ofNat_Int, eqs, lk, look, AV.pureA, kill, AV.refs, hty, tyAll, Nat.reduceEqDiff, ↓reduceIte, reduceCtorEq, Nat.reduceLT, Nat.reduceLeDiff, Nat.reduceAdd, Nat.reduceMul, Int.reduceToNat, ne_eq] <;> repeat' (first | rfl | apply And.intro | omega))
    · have h1 : ¬ (i : Int) < 4 := by omega
      obtain rfl : i = 4 := by omega
      repeat' first
        | refine T_seq' ?_
        | refine T_block ?_
        | refine n_then ?_
        | refine x_then ?_
        | refine r_then ?_
        | refine n_block ?_
        | refine r_block ?_
        | refine x_block ?_
        | refine x_block' (by rfl) ?_
        | refine T_exit ?_
        | refine T_skip ?_
        | refine T_ret ?_
        | (refine T_region hE (by rfl) (fun K hK => ?_); simp (disch := omega) only [eqs, evs, stp, stepW, wantA, opStep, kindOf, headStep, skipStep, stStep, wrStep, cpStep, stA, appA, readSl, isSl, copyA, kill, AV.refs, hd, hdLoad, hdBin, intBin, hdUn, hdConv, hdIdxAddr, hdIdx, hdSlice, bnd, hdCall, hdCallF, hdLen, hdMin, argsA, mapA, partsOk, partsF, lk, look, addR, evA, constA, HOut.ok, hty, hfs, tyAll, List.map, List.all, List.getElem?_cons_zero, List.getElem?_cons_succ, Option.bind_some, Option.map_some, Option.map_none, Option.getD_some, AV.pureA, Nat.reduceEqDiff, ↓reduceIte, reduceCtorEq, Nat.reduceLT, Nat.reduceLeDiff, Nat.reduceAdd, Nat.reduceMul, Int.reduceToNat, IntKind.bits, BEq.rfl, beq_self_eq_true, bne_self_eq_false, Int.reduceBEq, Int.reduceBNe, Int.reduceEq, Int.reduceNe, ne_eq, Int.reduceLT, Int.reduceLE, h1]; (repeat refine And.intro (by first | omega | assumption | (and_intros <;> first | omega | assumption) | fail) ?_); refine hK _ ?_; clear hK K)
        | (refine T_cond rfl (fun hc => ?_) (fun hc => ?_) <;> (try simp only [cnds, reduceCtorEq] at hc) <;> (try (first | (exact hc.elim) | (exfalso; omega))))
      refine T_drawP [(6, 4), (65, 4), (66, 4)] hE (by rfl) (by kernel_rfl) (fun K hK => ?_)
      simp (disch := omega) only [disj, noSh, eqs, evs, stp, stepW, wantA, opStep, kindOf, headStep, skipStep, stStep, wrStep, cpStep, stA, appA, readSl, isSl, copyA, kill, AV.refs, hd, hdLoad, hdBin, intBin, hdUn, hdConv, hdIdxAddr, hdIdx, hdSlice, bnd, hdCall, hdCallF, hdLen, hdMin, argsA, mapA, partsOk, partsF, lk, look, addR, evA, constA, HOut.ok, hty, hfs, tyAll, List.map, List.all, List.getElem?_cons_zero, List.getElem?_cons_succ, Option.bind_some, Option.map_some, Option.map_none, Option.getD_some, AV.pureA, Nat.reduceEqDiff, ↓reduceIte, reduceCtorEq, Nat.reduceLT, Nat.reduceLeDiff, Nat.reduceAdd, Nat.reduceMul, Int.reduceToNat, IntKind.bits, BEq.rfl, beq_self_eq_true, bne_self_eq_false, Int.reduceBEq, Int.reduceBNe, Int.reduceEq, Int.reduceNe, ne_eq, Int.reduceLT, Int.reduceLE]
      (repeat refine And.intro (by first | omega | assumption | (and_intros <;> first | omega | assumption) | fail) ?_); refine hK _ (by simp only [disj, noSh, lk, AV.pureA, Bool.and_self, true_and, ne_eq, Nat.reduceEqDiff, not_false_eq_true, ↓reduceIte, and_self]) ?_
      clear hK K
      repeat' first
        | refine T_seq' ?_
        | refine T_block ?_
        | refine n_then ?_
        | refine x_then ?_
        | refine r_then ?_
        | refine n_block ?_
        | refine r_block ?_
        | refine x_block ?_
        | refine x_block' (by rfl) ?_
        | refine T_exit ?_
        | refine T_skip ?_
        | refine T_ret ?_
        | (refine T_region hE (by rfl) (fun K hK => ?_); simp (disch := omega) only [eqs, evs, stp, stepW, wantA, opStep, kindOf, headStep, skipStep, stStep, wrStep, cpStep, stA, appA, readSl, isSl, copyA, kill, AV.refs, hd, hdLoad, hdBin, intBin, hdUn, hdConv, hdIdxAddr, hdIdx, hdSlice, bnd, hdCall, hdCallF, hdLen, hdMin, argsA, mapA, partsOk, partsF, lk, look, addR, evA, constA, HOut.ok, hty, hfs, tyAll, List.map, List.all, List.getElem?_cons_zero, List.getElem?_cons_succ, Option.bind_some, Option.map_some, Option.map_none, Option.getD_some, AV.pureA, Nat.reduceEqDiff, ↓reduceIte, reduceCtorEq, Nat.reduceLT, Nat.reduceLeDiff, Nat.reduceAdd, Nat.reduceMul, Int.reduceToNat, IntKind.bits, BEq.rfl, beq_self_eq_true, bne_self_eq_false, Int.reduceBEq, Int.reduceBNe, Int.reduceEq, Int.reduceNe, ne_eq, Int.reduceLT, Int.reduceLE]; (repeat refine And.intro (by first | omega | assumption | (and_intros <;> first | omega | assumption) | fail) ?_); refine hK _ ?_; clear hK K)
        | (refine T_cond rfl (fun hc => ?_) (fun hc => ?_) <;> (try simp only [cnds, reduceCtorEq] at hc) <;> (try (first | (exact hc.elim) | (exfalso; omega))))
      refine hQ _ ?_
      simp (disch := omega) only [resOk, res1, retOk, eqs, lk, look, AV.pureA, kill, AV.refs, hty, tyAll, Nat.reduceEqDiff, ↓reduceIte, reduceCtorEq, Nat.reduceLT, Nat.reduceLeDiff, Nat.reduceAdd, Nat.reduceMul, Int.reduceToNat, ne_eq, sProd]
      have hz' : wsum B64 o0 8 = wv f * wv g := hz
      have hdg : ∀ j, j < 8 → o0 j = dig B64 (wv f * wv g) j := fun j hj => by rw [← hz']; exact (dig_wsum B64_pos ho0 hj).symm
      exact ⟨fun j hj => by rw [wl_low _ _ hj, hdg j (by omega)], fun j hj => by rw [wl_high _ _ hj, ← hdg (4 + j) (by omega)]; rfl⟩

/-! ### Sums and products, and what is left of them -/
def sMod3 (op : Int → Int → Int) : List AV → SOut
  | [.arr .u64 4 f, .arr .u64 4 g, .arr .u64 4 h] => ⟨W f ∧ W g ∧ W h, .arr .u64 4 (wl (nr (op (wv f) (wv g)) (wv h)))⟩
  | _ => ⟨False, .und⟩
theorem c_MulMod : Contract Tryz.prog 10 (sMod3 (· * ·)) := by
  refine fun_ok [(28, sProd), (27, sRest)] ⟨c_Product, c_rest, trivial⟩ Tryz.func10 rfl (by kernel_rfl) Tryz.ntmps10 Tryz.results10 (fun E hE hty hfs xs hp => ?_)
  unfold sMod3 at hp
  split at hp
  case h_2 => exact hp.elim
  rename_i f g h
  obtain ⟨hf, hg, hh⟩ := hp
  have fb := wv_bd hf
  have gb := wv_bd hg
  have e : wv (wl (wv f * wv g)) + wv (wl (wv f * wv g / M)) * M = wv f * wv g := by
    have h0 : 0 ≤ wv f * wv g := Int.mul_nonneg fb.1 gb.1
    have h1 : wv f * wv g < M * M := by
      have := Int.mul_le_mul (show wv f ≤ M - 1 by omega) (show wv g ≤ M - 1 by omega) gb.1 (by decide)
      have h2 : (M - 1) * (M - 1) < M * M := by decide
      omega
    have h2 : 0 ≤ wv f * wv g / M ∧ wv f * wv g / M < M := ⟨Int.ediv_nonneg h0 (by decide), Int.ediv_lt_of_lt_mul M_pos h1⟩
    rw [wv_wl, wv_wl, Int.emod_eq_of_lt h2.1 h2.2]
    have := Int.mul_ediv_add_emod (wv f * wv g) M
    rw [Int.mul_comm] at this
    omega
  refine ⟨by simp, fun Q hQ => ?_⟩
  simp only [params, Nat.reduceAdd]
  repeat' first
    | refine T_seq' ?_
    | refine T_block ?_
    | refine n_then ?_
    | refine x_then ?_
    | refine r_then ?_
    | refine n_block ?_
    | refine r_block ?_
    | refine x_block ?_
    | refine x_block' (by rfl) ?_
    | refine T_exit ?_
    | refine T_skip ?_
    | refine T_ret ?_
    | ((first | refine T_region hE (by rfl) (fun K hK => ?_) | refine T_draw hE (by rfl) (by kernel_rfl) (fun K hK => ?_)); simp (disch := omega) only [eqs, evs, stp, stepW, wantA, opStep, kindOf, headStep, skipStep, stStep, wrStep, cpStep, stA, appA, readSl, isSl, copyA, kill, AV.refs, hd, hdLoad, hdBin, intBin, hdUn, hdConv, hdIdxAddr, hdIdx, hdSlice, bnd, hdCall, hdCallF, hdLen, hdMin, argsA, mapA, partsOk, partsF, lk, look, addR, evA, constA, HOut.ok, hty, hfs, tyAll, List.map, List.all, List.getElem?_cons_zero, List.getElem?_cons_succ, Option.bind_some, Option.map_some, Option.map_none, Option.getD_some, AV.pureA, Nat.reduceEqDiff, ↓reduceIte, reduceCtorEq, Nat.reduceLT, Nat.reduceLeDiff, Nat.reduceAdd, Nat.reduceMul, Int.reduceToNat, IntKind.bits, BEq.rfl, beq_self_eq_true, bne_self_eq_false, Int.reduceBEq, Int.reduceBNe, Int.reduceEq, Int.reduceNe, ne_eq, Int.reduceLT, Int.reduceLE, sProd, sRest, W_wl, e]; (repeat refine And.intro (by first | omega | assumption | (and_intros <;> first | omega | assumption) | fail) ?_); refine hK _ ?_; clear hK K)
    | (refine T_cond rfl (fun hc => ?_) (fun hc => ?_) <;> (try simp only [cnds, reduceCtorEq] at hc) <;> (try (first | (exact hc.elim) | (exfalso; omega))))
  refine hQ _ ?_
  simp (disch := omega) only [resOk, res1, retOk, eqs, lk, look, AV.pureA, kill, AV.refs, hty, tyAll, Nat.reduceEqDiff, ↓reduceIte, reduceCtorEq, Nat.reduceLT, Nat.reduceLeDiff, Nat.reduceAdd, Nat.reduceMul, Int.reduceToNat, ne_eq, sMod3, implies_true]
theorem c_AddMod : Contract Tryz.prog 9 (sMod3 (· + ·)) := by
  refine fun_ok [(25, sWAdd), (26, sCompare), (27, sRest)] ⟨c_WAdd, c_Compare, c_rest, trivial⟩ Tryz.func9 rfl (by kernel_rfl) Tryz.ntmps9 Tryz.results9 (fun E hE hty hfs xs hp => ?_)
  unfold sMod3 at hp
  split at hp
  case h_2 => exact hp.elim
  rename_i f g h
  obtain ⟨hf, hg, hh⟩ := hp
  have fb := wv_bd hf
  have gb := wv_bd hg
  have h1 : (fun (_ : Nat) => (0 : Int)) = wl 0 := wl_zero.symm
  have h2 : updF (wl 0) 0 1 = wl 1 := by
    funext j
    by_cases hj : j < 4
    · rw [← wl_one (x := 1) (by decide) (by decide) j hj, wl_zero]
    · rw [wl_hi _ _ (by omega), updF_ne _ _ (by omega), wl_hi _ _ (by omega)]
  refine ⟨by simp, fun Q hQ => ?_⟩
  simp only [params, Nat.reduceAdd]
  by_cases hc : wv f + wv g < M
  · have e : (wv f + wv g) % M = wv f + wv g := Int.emod_eq_of_lt (by omega) hc
    have e2 : ¬ (wv f + wv g < wv f) := by omega
    repeat' first
      | refine T_seq' ?_
      | refine T_block ?_
      | refine n_then ?_
      | refine x_then ?_
      | refine r_then ?_
      | refine n_block ?_
      | refine r_block ?_
      | refine x_block ?_
      | refine x_block' (by rfl) ?_
      | refine T_exit ?_
      | refine T_skip ?_
      | refine T_ret ?_
      | ((first | refine T_region hE (by rfl) (fun K hK => ?_) | refine T_draw hE (by rfl) (by kernel_rfl) (fun K hK => ?_)); simp (disch := omega) only [eqs, evs, stp, stepW, wantA, opStep, kindOf, headStep, skipStep, stStep, wrStep, cpStep, stA, appA, readSl, isSl, copyA, kill, AV.refs, hd, hdLoad, hdBin, intBin, hdUn, hdConv, hdIdxAddr, hdIdx, hdSlice, bnd, hdCall, hdCallF, hdLen, hdMin, argsA, mapA, partsOk, partsF, lk, look, addR, evA, constA, HOut.ok, hty, hfs, tyAll, List.map, List.all, List.getElem?_cons_zero, List.getElem?_cons_succ, Option.bind_some, Option.map_some, Option.map_none, Option.getD_some, AV.pureA, Nat.reduceEqDiff, ↓reduceIte, reduceCtorEq, Nat.reduceLT, Nat.reduceLeDiff, Nat.reduceAdd, Nat.reduceMul, Int.reduceToNat, IntKind.bits, BEq.rfl, beq_self_eq_true, bne_self_eq_false, Int.reduceBEq, Int.reduceBNe, Int.reduceEq, Int.reduceNe, ne_eq, Int.reduceLT, Int.reduceLE, sWAdd, sCompare, sRest, W_wl, wv_wl, e, cmp_lt, e2, h1, Int.zero_emod, Int.zero_mul, Int.add_zero]; (repeat refine And.intro (by first | omega | assumption | (and_intros <;> first | omega | assumption) | fail) ?_); refine hK _ ?_; clear hK K)
      | (refine T_cond rfl (fun hc => ?_) (fun hc => ?_) <;> (try simp only [cnds, reduceCtorEq] at hc) <;> (try (first | (exact hc.elim) | (exfalso; omega))))
    refine hQ _ ?_
    simp (disch := omega) only [resOk, res1, retOk, eqs, lk, look, AV.pureA, kill, AV.refs, hty, tyAll, Nat.reduceEqDiff, ↓reduceIte, reduceCtorEq, Nat.reduceLT, Nat.reduceLeDiff, Nat.reduceAdd, Nat.reduceMul, Int.reduceToNat, ne_eq, sMod3, implies_true]
  · have e : (wv f + wv g) % M = wv f + wv g - M := by
      rw [← Int.sub_emod_right]; exact Int.emod_eq_of_lt (by omega) (by omega)
    have e2 : wv f + wv g - M < wv f := by omega
    have e3 : wv f + wv g - M + 1 % M * M = wv f + wv g := by rw [show (1 : Int) % M = 1 from by decide]; omega
    repeat' first
      | refine T_seq' ?_
      | refine T_block ?_
      | refine n_then ?_
      | refine x_then ?_
      | refine r_then ?_
      | refine n_block ?_
      | refine r_block ?_
      | refine x_block ?_
      | refine x_block' (by rfl) ?_
      | refine T_exit ?_
      | refine T_skip ?_
      | refine T_ret ?_
      | ((first | refine T_region hE (by rfl) (fun K hK => ?_) | refine T_draw hE (by rfl) (by kernel_rfl) (fun K hK => ?_)); simp (disch := omega) only [eqs, evs, stp, stepW, wantA, opStep, kindOf, headStep, skipStep, stStep, wrStep, cpStep, stA, appA, readSl, isSl, copyA, kill, AV.refs, hd, hdLoad, hdBin, intBin, hdUn, hdConv, hdIdxAddr, hdIdx, hdSlice, bnd, hdCall, hdCallF, hdLen, hdMin, argsA, mapA, partsOk, partsF, lk, look, addR, evA, constA, HOut.ok, hty, hfs, tyAll, List.map, List.all, List.getElem?_cons_zero, List.getElem?_cons_succ, Option.bind_some, Option.map_some, Option.map_none, Option.getD_some, AV.pureA, Nat.reduceEqDiff, ↓reduceIte, reduceCtorEq, Nat.reduceLT, Nat.reduceLeDiff, Nat.reduceAdd, Nat.reduceMul, Int.reduceToNat, IntKind.bits, BEq.rfl, beq_self_eq_true, bne_self_eq_false, Int.reduceBEq, Int.reduceBNe, Int.reduceEq, Int.reduceNe, ne_eq, Int.reduceLT, Int.reduceLE, sWAdd, sCompare, sRest, W_wl, wv_wl, e, cmp_lt, e2, h1, h2, e3]; (repeat refine And.intro (by first | omega | assumption | (and_intros <;> first | omega | assumption) | fail) ?_); refine hK _ ?_; clear hK K)
      | (refine T_cond rfl (fun hc => ?_) (fun hc => ?_) <;> (try simp only [cnds, reduceCtorEq] at hc) <;> (try (first | (exact hc.elim) | (exfalso; omega))))
    refine hQ _ ?_
    simp (disch := omega) only [resOk, res1, retOk, eqs, lk, look, AV.pureA, kill, AV.refs, hty, tyAll, Nat.reduceEqDiff, ↓reduceIte, reduceCtorEq, Nat.reduceLT, Nat.reduceLeDiff, Nat.reduceAdd, Nat.reduceMul, Int.reduceToNat, ne_eq, sMod3, implies_true]

end Go.Proofs.YtijoifajbmhgdaaGreat.Sym
