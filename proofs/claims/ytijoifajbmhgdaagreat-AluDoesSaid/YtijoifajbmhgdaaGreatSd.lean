/- Words with signs, shifted down. -/
import Derived.Test.YtijoifajbmhgdaaGreatSc
namespace Go.Proofs.YtijoifajbmhgdaaGreat.Sym
set_option linter.unusedVariables false
open Go Go.RowKit Num
set_option maxRecDepth 10000
set_option linter.unusedSimpArgs false

def sarV (a : Int) (n : Nat) : Int := sv a / 2 ^ n
theorem sar_pos {a : Int} {n : Nat} (h : ng a = false) : sarV a n = a / 2 ^ n := by unfold sarV sv; rw [h]; rfl
theorem sar_neg {a : Int} {n : Nat} (h : ng a = true) (hn : n ≤ 256) : sarV a n = a / 2 ^ n - 2 ^ (256 - n) := by
  obtain ⟨p0, p1, p2⟩ := pow_M hn
  unfold sarV sv
  rw [if_pos h, ← p2, show a - 2 ^ n * 2 ^ (256 - n) = a + 2 ^ n * (-2 ^ (256 - n)) from by rw [Int.mul_neg]; omega, Int.add_mul_ediv_left _ _ (by omega)]
  omega
theorem sar_all {a : Int} {n : Nat} (h : ng a = true) (h0 : 0 ≤ a) (h1 : a < M) (hn : 256 ≤ n) : sarV a n = -1 := by
  have hp : (0 : Int) < 2 ^ n := Int.pow_pos (by decide)
  have hM : M ≤ 2 ^ n := by rw [← M_2]; exact ipow_le hn
  unfold sarV sv
  rw [if_pos h, show a - M = (a - M + 2 ^ n) + 2 ^ n * (-1) from by omega, Int.add_mul_ediv_left _ _ (by omega), Int.ediv_eq_zero_of_lt (by omega) (by omega)]
  rfl
theorem div_small {a : Int} {n : Nat} (h0 : 0 ≤ a) (h1 : a < M) (hn : n ≤ 256) : 0 ≤ a / 2 ^ n ∧ a / 2 ^ n < 2 ^ (256 - n) := by
  obtain ⟨p0, p1, p2⟩ := pow_M hn
  exact ⟨Int.ediv_nonneg h0 (by omega), Int.ediv_lt_of_lt_mul p0 (by rw [Int.mul_comm, p2]; exact h1)⟩
theorem wl_addM {a : Int} : wl (a + M) = wl a := wl_congr (by rw [Int.add_emod_right])

def sSar : List AV → SOut
  | [.arr .u64 4 f, .int .u64 n] => ⟨W f ∧ 0 ≤ n ∧ n < 18446744073709551616, .arr .u64 4 (wl (sarV (wv f) n.toNat))⟩
  | _ => ⟨False, .und⟩
theorem c_Sar : Contract Tryz.prog 86 sSar := by
  refine fun_ok [(85, sShr), (99, sBelow), (80, sNot), (83, sShl), (78, sOr)] ⟨c_Shr, c_Below, c_Not, c_Shl, c_Or, trivial⟩ Tryz.func86 rfl (by kernel_rfl) Tryz.ntmps86 Tryz.results86 (fun E hE hty hfs xs hp => ?_)
  unfold sSar at hp
  split at hp
  case h_2 => exact hp.elim
  rename_i f n
  obtain ⟨hf, n0, n1⟩ := hp
  have hp : True := trivial
  have fb := wv_bd hf
  have h0 := W0
  refine ⟨by simp, fun Q hQ => ?_⟩
  simp only [params, Nat.reduceAdd]
  cases hn : ng (wv f)
  · repeat' first
      | refine T_seq' ?_
      | refine T_block ?_
      | refine n_then ?_
      | refine x_then ?_
      | refine r_then ?_
      | refine n_block ?_
      | refine r_block ?_
      | refine x_block ?_
      | refine x_block' (by rfl) ?_
      | refine T_exit ?_
      | refine T_skip ?_
      | refine T_ret ?_
      | ((first | refine T_region hE (by rfl) (fun K hK => ?_) | refine T_draw hE (by rfl) (by kernel_rfl) (fun K hK => ?_)); simp (disch := omega) only [eqs, evs, stp, stepW, wantA, opStep, kindOf, headStep, skipStep, stStep, wrStep, cpStep, stA, appA, readSl, isSl, copyA, kill, AV.refs, hd, hdLoad, hdBin, intBin, hdUn, hdConv, hdIdxAddr, hdIdx, hdSlice, bnd, hdCall, hdCallF, hdLen, hdMin, argsA, mapA, partsOk, partsF, lk, look, addR, evA, constA, HOut.ok, hty, hfs, tyAll, List.map, List.all, List.getElem?_cons_zero, List.getElem?_cons_succ, Option.bind_some, Option.map_some, Option.map_none, Option.getD_some, AV.pureA, Nat.reduceEqDiff, ↓reduceIte, reduceCtorEq, Nat.reduceLT, Nat.reduceLeDiff, Nat.reduceAdd, Nat.reduceMul, Int.reduceToNat, IntKind.bits, BEq.rfl, beq_self_eq_true, bne_self_eq_false, Int.reduceBEq, Int.reduceBNe, Int.reduceEq, Int.reduceNe, ne_eq, Int.reduceLT, Int.reduceLE, sShr, sBelow, hn]; (repeat refine And.intro (by first | omega | assumption | (and_intros <;> first | omega | assumption) | fail) ?_); refine hK _ ?_; clear hK K)
      | (refine T_cond rfl (fun hc => ?_) (fun hc => ?_) <;> (try simp only [cnds, reduceCtorEq] at hc) <;> (try (first | (exact hc.elim) | (exfalso; omega))))
    refine hQ _ ?_
    simp (disch := omega) only [resOk, res1, retOk, eqs, lk, look, AV.pureA, kill, AV.refs, hty, tyAll, Nat.reduceEqDiff, ↓reduceIte, reduceCtorEq, Nat.reduceLT, Nat.reduceLeDiff, Nat.reduceAdd, Nat.reduceMul, Int.reduceToNat, ne_eq, sSar, sar_pos hn, implies_true]
  · by_cases h256 : 256 ≤ n
    · have e := sar_all (n := n.toNat) hn fb.1 fb.2 (by omega)
      have w1 : wl (-1 - wv (fun _ => 0)) = wl (-1) := by rw [wv0]; rfl
      repeat' first
        | refine T_seq' ?_
        | refine T_block ?_
        | refine n_then ?_
        | refine x_then ?_
        | refine r_then ?_
        | refine n_block ?_
        | refine r_block ?_
        | refine x_block ?_
        | refine x_block' (by rfl) ?_
        | refine T_exit ?_
        | refine T_skip ?_
        | refine T_ret ?_
        | ((first | refine T_region hE (by rfl) (fun K hK => ?_) | refine T_draw hE (by rfl) (by kernel_rfl) (fun K hK => ?_)); simp (disch := omega) only [eqs, evs, stp, stepW, wantA, opStep, kindOf, headStep, skipStep, stStep, wrStep, cpStep, stA, appA, readSl, isSl, copyA, kill, AV.refs, hd, hdLoad, hdBin, intBin, hdUn, hdConv, hdIdxAddr, hdIdx, hdSlice, bnd, hdCall, hdCallF, hdLen, hdMin, argsA, mapA, partsOk, partsF, lk, look, addR, evA, constA, HOut.ok, hty, hfs, tyAll, List.map, List.all, List.getElem?_cons_zero, List.getElem?_cons_succ, Option.bind_some, Option.map_some, Option.map_none, Option.getD_some, AV.pureA, Nat.reduceEqDiff, ↓reduceIte, reduceCtorEq, Nat.reduceLT, Nat.reduceLeDiff, Nat.reduceAdd, Nat.reduceMul, Int.reduceToNat, IntKind.bits, BEq.rfl, beq_self_eq_true, bne_self_eq_false, Int.reduceBEq, Int.reduceBNe, Int.reduceEq, Int.reduceNe, ne_eq, Int.reduceLT, Int.reduceLE, sShr, sBelow, hn, h256, sNot, w1]; (repeat refine And.intro (by first | omega | assumption | (and_intros <;> first | omega | assumption) | fail) ?_); refine hK _ ?_; clear hK K)
        | (refine T_cond rfl (fun hc => ?_) (fun hc => ?_) <;> (try simp only [cnds, reduceCtorEq] at hc) <;> (try (first | (exact hc.elim) | (exfalso; omega))))
      refine hQ _ ?_
      simp (disch := omega) only [resOk, res1, retOk, eqs, lk, look, AV.pureA, kill, AV.refs, hty, tyAll, Nat.reduceEqDiff, ↓reduceIte, reduceCtorEq, Nat.reduceLT, Nat.reduceLeDiff, Nat.reduceAdd, Nat.reduceMul, Int.reduceToNat, ne_eq, sSar, e, implies_true]
    · obtain ⟨N, hN⟩ := Int.eq_ofNat_of_zero_le n0
      have hN256 : N ≤ 256 := by omega
      have e1 : (256 - (N : Int)).toNat = 256 - N := by omega
      have w1 : wv (wl (-1 - wv (fun _ => 0))) = M - 1 := by rw [wv0, wv_wl]; decide
      have hX := div_small fb.1 fb.2 hN256
      obtain ⟨q0, q1, q2⟩ := pow_M (h := 256 - N) (by omega)
      have w2 : wv (wl ((M - 1) * 2 ^ (256 - N))) = M - 2 ^ (256 - N) := by rw [wv_wl, ones_up (by omega)]
      have w3 : wv (wl (wv f / 2 ^ N)) = wv f / 2 ^ N := wv_small hX.1 (by omega)
      have o1 := or_ones (h := 256 - N) hX.1 (show wv f / 2 ^ N < M by omega) (by omega)
      rw [Int.emod_eq_of_lt hX.1 hX.2] at o1
      subst hN
      repeat' first
        | refine T_seq' ?_
        | refine T_block ?_
        | refine n_then ?_
        | refine x_then ?_
        | refine r_then ?_
        | refine n_block ?_
        | refine r_block ?_
        | refine x_block ?_
        | refine x_block' (by rfl) ?_
        | refine T_exit ?_
        | refine T_skip ?_
        | refine T_ret ?_
        | ((first | refine T_region hE (by rfl) (fun K hK => ?_) | refine T_draw hE (by rfl) (by kernel_rfl) (fun K hK => ?_)); simp (disch := omega) only [eqs, evs, stp, stepW, wantA, opStep, kindOf, headStep, skipStep, stStep, wrStep, cpStep, stA, appA, readSl, isSl, copyA, kill, AV.refs, hd, hdLoad, hdBin, intBin, hdUn, hdConv, hdIdxAddr, hdIdx, hdSlice, bnd, hdCall, hdCallF, hdLen, hdMin, argsA, mapA, partsOk, partsF, lk, look, addR, evA, constA, HOut.ok, hty, hfs, tyAll, List.map, List.all, List.getElem?_cons_zero, List.getElem?_cons_succ, Option.bind_some, Option.map_some, Option.map_none, Option.getD_some, AV.pureA, Nat.reduceEqDiff, ↓reduceIte, reduceCtorEq, Nat.reduceLT, Nat.reduceLeDiff, Nat.reduceAdd, Nat.reduceMul, Int.reduceToNat, IntKind.bits, BEq.rfl, beq_self_eq_true, bne_self_eq_false, Int.reduceBEq, Int.reduceBNe, Int.reduceEq, Int.reduceNe, ne_eq, Int.reduceLT, Int.reduceLE, sShr, sBelow, hn, h256, sNot, W_wl, w1, sShl, e1, sOr, w2, w3, o1]; (repeat refine And.intro (by first | omega | assumption | (and_intros <;> first | omega | assumption) | fail) ?_); refine hK _ ?_; clear hK K)
        | (refine T_cond rfl (fun hc => ?_) (fun hc => ?_) <;> (try simp only [cnds, reduceCtorEq] at hc) <;> (try (first | (exact hc.elim) | (exfalso; omega))))
      refine hQ _ ?_
      simp (disch := omega) only [resOk, res1, retOk, eqs, lk, look, AV.pureA, kill, AV.refs, hty, tyAll, Nat.reduceEqDiff, ↓reduceIte, reduceCtorEq, Nat.reduceLT, Nat.reduceLeDiff, Nat.reduceAdd, Nat.reduceMul, Int.reduceToNat, ne_eq, sSar]
      rw [sar_neg hn hN256, show wv f / 2 ^ N + (M - 2 ^ (256 - N)) = wv f / 2 ^ N - 2 ^ (256 - N) + M from by omega, wl_addM]
      exact fun _ _ => rfl

theorem sar_bits {A : Int} {N : Nat} {o : Nat → Int} (h0 : 0 ≤ A) (h1 : A < M) (ho : ∀ j, j < 256 → o j = if j + N < 256 then dig 2 A (j + N) else dig 2 A 255) : wl (wsum 2 o 256) = wl (sarV A N) := by
  have hs : dig 2 A 255 = if ng A = true then 1 else 0 := by
    have hd := dig_bd (B := 2) (by decide) A 255
    have e := dig2_255 h0 h1
    split
    · rename_i h; rw [e, ← ng_true]; exact h
    · rename_i h; rw [ng_true, ← e] at h; omega
  by_cases hN : N ≤ 256
  · have e := wsum_split 2 o (256 - N) N
    have hX := div_small h0 h1 hN
    obtain ⟨p0, p1, p2⟩ := pow_M hN
    rw [show 256 - N + N = 256 from by omega, wsum_congr (g := dig 2 (A / 2 ^ N)) (n := 256 - N) (fun j hj => by
      rw [ho j (by omega), if_pos (by omega)]
      unfold dig
      rw [Int.ediv_ediv_of_nonneg (by omega), ← Int.pow_add, Nat.add_comm j N]), wsum_dig (by decide), Int.emod_eq_of_lt hX.1 hX.2, wsum_congr (g := fun _ => dig 2 A 255) (n := N) (fun j hj => by rw [ho _ (by omega), if_neg (by omega)])] at e
    have e2 := wsum_same 2 (dig 2 A 255) N
    rw [show (2 : Int) - 1 = 1 from rfl, Int.mul_one] at e2
    rw [e2, hs] at e
    cases hn : ng A
    · rw [e, hn, if_neg (by decide), Int.zero_mul, Int.mul_zero, Int.add_zero, sar_pos hn]
    · rw [e, hn, if_pos rfl, Int.one_mul, sar_neg hn hN, Int.mul_sub, Int.mul_one, Int.mul_comm, p2, show A / 2 ^ N + (M - 2 ^ (256 - N)) = A / 2 ^ N - 2 ^ (256 - N) + M from by omega, wl_addM]
  · rw [wsum_congr (g := fun _ => dig 2 A 255) (n := 256) (fun j hj => by rw [ho _ (by omega), if_neg (by omega)])]
    have e2 := wsum_same 2 (dig 2 A 255) 256
    rw [show (2 : Int) - 1 = 1 from rfl, Int.mul_one] at e2
    rw [e2, hs, M_2]
    cases hn : ng A
    · rw [if_neg (by decide), Int.zero_mul, sar_pos hn, Int.ediv_eq_zero_of_lt h0 (Int.lt_of_lt_of_le h1 (by rw [← M_2]; exact ipow_le (by omega)))]
    · rw [if_pos rfl, Int.one_mul, sar_all hn h0 h1 (by omega), show M - 1 = -1 + M from by omega, wl_addM]

def sRSar : List AV → SOut
  | [.arr .u64 4 f, .int .i64 n] => ⟨W f ∧ 0 ≤ n ∧ n ≤ 300, .arr .u64 4 (wl (sarV (wv f) n.toNat))⟩
  | _ => ⟨False, .und⟩
theorem c_RSar : Contract Tryz.prog 24 sRSar := by
  refine fun_ok [(14, sROf), (63, sRBit), (64, sRBits), (21, sRWord)] ⟨c_ROf, c_RBit, c_RBits, c_RWord, trivial⟩ Tryz.func24 rfl (by kernel_rfl) Tryz.ntmps24 Tryz.results24 (fun E hE hty hfs xs hp => ?_)
  unfold sRSar at hp
  split at hp
  case h_2 => exact hp.elim
  rename_i f n
  obtain ⟨hf, n0, n1⟩ := hp
  have hp : True := trivial
  have fb := wv_bd hf
  obtain ⟨N, rfl⟩ := Int.eq_ofNat_of_zero_le n0
  have d1 := dvdl hf
  have r255 : rbit (wv f) 255 = dig 2 (wv f) 255 := rfl
  refine ⟨by simp, fun Q hQ => ?_⟩
  simp only [params, Nat.reduceAdd]
  repeat' first
    | refine T_seq' ?_
    | refine T_block ?_
    | refine n_then ?_
    | refine x_then ?_
    | refine r_then ?_
    | refine n_block ?_
    | refine r_block ?_
    | refine x_block ?_
    | refine x_block' (by rfl) ?_
    | refine T_exit ?_
    | refine T_skip ?_
    | refine T_ret ?_
    | ((first | refine T_region hE (by rfl) (fun K hK => ?_) | refine T_draw hE (by rfl) (by kernel_rfl) (fun K hK => ?_)); simp (disch := omega) only [eqs, evs, stp, stepW, wantA, opStep, kindOf, headStep, skipStep, stStep, wrStep, cpStep, stA, appA, readSl, isSl, copyA, kill, AV.refs, hd, hdLoad, hdBin, intBin, hdUn, hdConv, hdIdxAddr, hdIdx, hdSlice, bnd, hdCall, hdCallF, hdLen, hdMin, argsA, mapA, partsOk, partsF, lk, look, addR, evA, constA, HOut.ok, hty, hfs, tyAll, List.map, List.all, List.getElem?_cons_zero, List.getElem?_cons_succ, Option.bind_some, Option.map_some, Option.map_none, Option.getD_some, AV.pureA, Nat.reduceEqDiff, ↓reduceIte, reduceCtorEq, Nat.reduceLT, Nat.reduceLeDiff, Nat.reduceAdd, Nat.reduceMul, Int.reduceToNat, IntKind.bits, BEq.rfl, beq_self_eq_true, bne_self_eq_false, Int.reduceBEq, Int.reduceBNe, Int.reduceEq, Int.reduceNe, ne_eq, Int.reduceLT, Int.reduceLE, sROf]; (repeat refine And.intro (by first | omega | assumption | (and_intros <;> first | omega | assumption) | fail) ?_); refine hK _ ?_; clear hK K)
    | (refine T_cond rfl (fun hc => ?_) (fun hc => ?_) <;> (try simp only [cnds, reduceCtorEq] at hc) <;> (try (first | (exact hc.elim) | (exfalso; omega))))
  refine T_for (ι := Nat × (Nat → Int)) (fun i => ⟨[(1, .int .i64 N), (4, .elt 4 0), (5, .elt 5 0), (6, .elt 6 0), (7, .int .i64 i.1)], [(4, ⟨.u64, 4, fun _ => 0⟩), (5, ⟨.i64, 32, dl (wv f)⟩), (6, ⟨.i64, 256, i.2⟩)]⟩)
    (fun i => i.1 ≤ 256 ∧ ∀ j, j < i.1 → i.2 j = if j + N < 256 then dig 2 (wv f) (j + N) else dig 2 (wv f) 255) (fun i => 256 - i.1)
    ⟨(0, fun _ => 0), ⟨by simp, fun j hj => by simp at hj⟩, ?_⟩ (fun i hi => ?_)
  · (simp (disch := omega) only [Le, AllF, AllR, slotLe, rowLe, refsIn, Option.isSome_some, implies_true, forall_const, AV.int.injEq, AV.bool.injEq, AV.elt.injEq, Int.natCast_add, Int.cast_ofNat_Int, eqs, lk, look, AV.pureA, kill, AV.refs, hty, tyAll, Nat.reduceEqDiff, ↓reduceIte, reduceCtorEq, Nat.reduceLT, Nat.reduceLeDiff, Nat.reduceAdd, Nat.reduceMul, Int.reduceToNat, ne_eq] <;> repeat' (first | rfl | apply And.intro | omega))
  · obtain ⟨i, o⟩ := i
    obtain ⟨i0, ho⟩ := hi
    simp only at i0 ho ⊢
    by_cases hlt : i < 256
    · have h1 : (i : Int) < 256 := by omega
      by_cases hin : i + N < 256
      · have h2 : (i : Int) + (N : Int) < 256 := by omega
        have hr : rbit (wv f) ((i : Int) + (N : Int)) = dig 2 (wv f) (i + N) := by
          unfold rbit
          rw [if_pos (by omega)]
          congr 1
        repeat' first
          | refine T_seq' ?_
          | refine T_block ?_
          | refine n_then ?_
          | refine x_then ?_
          | refine r_then ?_
          | refine n_block ?_
          | refine r_block ?_
          | refine x_block ?_
          | refine x_block' (by rfl) ?_
          | refine T_exit ?_
          | refine T_skip ?_
          | refine T_ret ?_
          | ((first | refine T_region hE (by rfl) (fun K hK => ?_) | refine T_draw hE (by rfl) (by kernel_rfl) (fun K hK => ?_)); simp (disch := omega) only [eqs, evs, stp, stepW, wantA, opStep, kindOf, headStep, skipStep, stStep, wrStep, cpStep, stA, appA, readSl, isSl, copyA, kill, AV.refs, hd, hdLoad, hdBin, intBin, hdUn, hdConv, hdIdxAddr, hdIdx, hdSlice, bnd, hdCall, hdCallF, hdLen, hdMin, argsA, mapA, partsOk, partsF, lk, look, addR, evA, constA, HOut.ok, hty, hfs, tyAll, List.map, List.all, List.getElem?_cons_zero, List.getElem?_cons_succ, Option.bind_some, Option.map_some, Option.map_none, Option.getD_some, AV.pureA, Nat.reduceEqDiff, ↓reduceIte, reduceCtorEq, Nat.reduceLT, Nat.reduceLeDiff, Nat.reduceAdd, Nat.reduceMul, Int.reduceToNat, IntKind.bits, BEq.rfl, beq_self_eq_true, bne_self_eq_false, Int.reduceBEq, Int.reduceBNe, Int.reduceEq, Int.reduceNe, ne_eq, Int.reduceLT, Int.reduceLE, h1, h2, sRBit, D_dl, d1, r255, hr]; (repeat refine And.intro (by first | omega | assumption | (and_intros <;> first | omega | assumption) | fail) ?_); refine hK _ ?_; clear hK K)
          | (refine T_cond rfl (fun hc => ?_) (fun hc => ?_) <;> (try simp only [cnds, reduceCtorEq] at hc) <;> (try (first | (exact hc.elim) | (exfalso; omega))))
        refine ⟨(i + 1, updF o i (dig 2 (wv f) (i + N))), ⟨by simp only; omega, upd_ok ho (by rw [if_pos hin])⟩, by simp only; omega, ?_⟩
        (simp (disch := omega) only [Le, AllF, AllR, slotLe, rowLe, refsIn, Option.isSome_some, implies_true, forall_const, AV.int.injEq, AV.bool.injEq, AV.elt.injEq, Int.natCast_add, Int.cast_ofNat_Int, eqs, lk, look, AV.pureA, kill, AV.refs, hty, tyAll, Nat.reduceEqDiff, ↓reduceIte, reduceCtorEq, Nat.reduceLT, Nat.reduceLeDiff, Nat.reduceAdd, Nat.reduceMul, Int.reduceToNat, ne_eq, updF_two] <;> repeat' (first | rfl | apply And.intro | omega))
      · have h2 : ¬ (i : Int) + (N : Int) < 256 := by omega
        repeat' first
          | refine T_seq' ?_
          | refine T_block ?_
          | refine n_then ?_
          | refine x_then ?_
          | refine r_then ?_
          | refine n_block ?_
          | refine r_block ?_
          | refine x_block ?_
          | refine x_block' (by rfl) ?_
          | refine T_exit ?_
          | refine T_skip ?_
          | refine T_ret ?_
          | ((first | refine T_region hE (by rfl) (fun K hK => ?_) | refine T_draw hE (by rfl) (by kernel_rfl) (fun K hK => ?_)); simp (disch := omega) only [eqs, evs, stp, stepW, wantA, opStep, kindOf, headStep, skipStep, stStep, wrStep, cpStep, stA, appA, readSl, isSl, copyA, kill, AV.refs, hd, hdLoad, hdBin, intBin, hdUn, hdConv, hdIdxAddr, hdIdx, hdSlice, bnd, hdCall, hdCallF, hdLen, hdMin, argsA, mapA, partsOk, partsF, lk, look, addR, evA, constA, HOut.ok, hty, hfs, tyAll, List.map, List.all, List.getElem?_cons_zero, List.getElem?_cons_succ, Option.bind_some, Option.map_some, Option.map_none, Option.getD_some, AV.pureA, Nat.reduceEqDiff, ↓reduceIte, reduceCtorEq, Nat.reduceLT, Nat.reduceLeDiff, Nat.reduceAdd, Nat.reduceMul, Int.reduceToNat, IntKind.bits, BEq.rfl, beq_self_eq_true, bne_self_eq_false, Int.reduceBEq, Int.reduceBNe, Int.reduceEq, Int.reduceNe, ne_eq, Int.reduceLT, Int.reduceLE, h1, h2, sRBit, D_dl, d1, r255]; (repeat refine And.intro (by first | omega | assumption | (and_intros <;> first | omega | assumption) | fail) ?_); refine hK _ ?_; clear hK K)
          | (refine T_cond rfl (fun hc => ?_) (fun hc => ?_) <;> (try simp only [cnds, reduceCtorEq] at hc) <;> (try (first | (exact hc.elim) | (exfalso; omega))))
        refine ⟨(i + 1, updF o i (dig 2 (wv f) 255)), ⟨by simp only; omega, upd_ok ho (by rw [if_neg hin])⟩, by simp only; omega, ?_⟩
        (simp (disch := omega) only [Le, AllF, AllR, slotLe, rowLe, refsIn, Option.isSome_some, implies_true, forall_const, AV.int.injEq, AV.bool.injEq, AV.elt.injEq, Int.natCast_add, Int.cast_ofNat_Int, eqs, lk, look, AV.pureA, kill, AV.refs, hty, tyAll, Nat.reduceEqDiff, ↓reduceIte, reduceCtorEq, Nat.reduceLT, Nat.reduceLeDiff, Nat.reduceAdd, Nat.reduceMul, Int.reduceToNat, ne_eq] <;> repeat' (first | rfl | apply And.intro | omega))
    · have h1 : ¬ (i : Int) < 256 := by omega
      obtain rfl : i = 256 := by omega
      have hD : Dg 2 256 o := fun j hj => by rw [ho j hj]; split <;> exact dig_bd (by decide) _ _
      have fin := sar_bits fb.1 fb.2 ho
      repeat' first
        | refine T_seq' ?_
        | refine T_block ?_
        | refine n_then ?_
        | refine x_then ?_
        | refine r_then ?_
        | refine n_block ?_
        | refine r_block ?_
        | refine x_block ?_
        | refine x_block' (by rfl) ?_
        | refine T_exit ?_
        | refine T_skip ?_
        | refine T_ret ?_
        | ((first | refine T_region hE (by rfl) (fun K hK => ?_) | refine T_draw hE (by rfl) (by kernel_rfl) (fun K hK => ?_)); simp (disch := omega) only [eqs, evs, stp, stepW, wantA, opStep, kindOf, headStep, skipStep, stStep, wrStep, cpStep, stA, appA, readSl, isSl, copyA, kill, AV.refs, hd, hdLoad, hdBin, intBin, hdUn, hdConv, hdIdxAddr, hdIdx, hdSlice, bnd, hdCall, hdCallF, hdLen, hdMin, argsA, mapA, partsOk, partsF, lk, look, addR, evA, constA, HOut.ok, hty, hfs, tyAll, List.map, List.all, List.getElem?_cons_zero, List.getElem?_cons_succ, Option.bind_some, Option.map_some, Option.map_none, Option.getD_some, AV.pureA, Nat.reduceEqDiff, ↓reduceIte, reduceCtorEq, Nat.reduceLT, Nat.reduceLeDiff, Nat.reduceAdd, Nat.reduceMul, Int.reduceToNat, IntKind.bits, BEq.rfl, beq_self_eq_true, bne_self_eq_false, Int.reduceBEq, Int.reduceBNe, Int.reduceEq, Int.reduceNe, ne_eq, Int.reduceLT, Int.reduceLE, h1, sRBits, sRWord, D_dl, dv_dl, wl_mod, fin]; (repeat refine And.intro (by first | omega | assumption | (and_intros <;> first | omega | assumption) | fail) ?_); refine hK _ ?_; clear hK K)
        | (refine T_cond rfl (fun hc => ?_) (fun hc => ?_) <;> (try simp only [cnds, reduceCtorEq] at hc) <;> (try (first | (exact hc.elim) | (exfalso; omega))))
      refine hQ _ ?_
      simp (disch := omega) only [resOk, res1, retOk, eqs, lk, look, AV.pureA, kill, AV.refs, hty, tyAll, Nat.reduceEqDiff, ↓reduceIte, reduceCtorEq, Nat.reduceLT, Nat.reduceLeDiff, Nat.reduceAdd, Nat.reduceMul, Int.reduceToNat, ne_eq, sRSar, implies_true]

end Go.Proofs.YtijoifajbmhgdaaGreat.Sym
