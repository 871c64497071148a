/- Powers of words. -/
import Derived.Test.YtijoifajbmhgdaaGreatVd
import Derived.Test.YtijoifajbmhgdaaGreatRb
namespace Go.Proofs.YtijoifajbmhgdaaGreat.Sym
set_option linter.unusedVariables false
open Go Go.RowKit Num
set_option maxRecDepth 10000
set_option linter.unusedSimpArgs false

theorem one_wl {x : Int} (h0 : 0 ≤ x) (h1 : x < 18446744073709551616) : updF (fun _ => 0) 0 x = wl x := by
  funext j
  by_cases hj : j < 4
  · exact wl_one h0 h1 j hj
  · rw [wl_hi _ _ (by omega), updF_ne _ _ (by omega)]
theorem one_dl : updF (fun _ => 0) 0 1 = dl 1 := by
  funext j
  cases j with
  | zero => decide
  | succ j =>
    rw [updF_ne _ _ (by omega)]
    refine (dig_zero (by decide) (by decide) (Int.lt_of_lt_of_le ?_ (ipowB_le (b := 256) (m := 1) (by decide) (by omega)))).symm
    decide
theorem wlm {a b : Int} : wl (wv (wl a) * wv (wl b)) = wl (a * b) := wl_congr (by rw [wv_wl, wv_wl, Int.mul_emod, Int.emod_emod, Int.emod_emod, ← Int.mul_emod])
theorem wlm1 {a b : Int} : wl (wv (wl a) * b) = wl (a * b) := wl_congr (by rw [wv_wl, Int.mul_emod, Int.emod_emod, ← Int.mul_emod])
theorem dlm {a b : Int} : dl (dv (dl a) * dv (dl b)) = dl (a * b) := dl_congr (by rw [dv_dl, dv_dl, Int.mul_emod, Int.emod_emod, Int.emod_emod, ← Int.mul_emod])
theorem half_nat {N : Int} (h : 0 ≤ N) (i : Nat) : (N / 2 ^ i).toNat = 2 * (N / 2 ^ (i + 1)).toNat + (dig 2 N i).toNat := by
  have e1 : N / 2 ^ (i + 1) = N / 2 ^ i / 2 := by rw [Int.pow_succ, Int.ediv_ediv_of_nonneg (Int.pow_nonneg (by decide))]
  have h0 : 0 ≤ N / 2 ^ i := Int.ediv_nonneg h (Int.pow_nonneg (by decide))
  unfold dig
  rw [e1]
  omega
theorem low_nat {N : Int} (h : 0 ≤ N) (i : Nat) : (N % 2 ^ (i + 1)).toNat = (N % 2 ^ i).toNat + (dig 2 N i).toNat * 2 ^ i := by
  have hp : (0 : Int) < 2 ^ i := Int.pow_pos (by decide)
  have e := wsum_succ 2 (dig 2 N) i
  rw [wsum_dig (by decide), wsum_dig (by decide)] at e
  have d := dig_bd (B := 2) (by decide) N i
  have r := Int.emod_nonneg N (show (2 : Int) ^ i ≠ 0 by omega)
  rw [e, Int.toNat_add r (Int.mul_nonneg d.1 (by omega)), Int.toNat_mul d.1 (by omega)]
  congr 2

def sWExp : List AV → SOut
  | [.arr .u64 4 f, .arr .u64 4 g] => ⟨W f ∧ W g, .arr .u64 4 (wl (wv f ^ (wv g).toNat))⟩
  | _ => ⟨False, .und⟩
theorem c_WExp : Contract Tryz.prog 73 sWExp := by
  refine fun_ok [(94, sOf), (96, sLen), (70, sMul), (68, sBit)] ⟨c_Of, c_Len, c_WMul, c_Bit, trivial⟩ Tryz.func73 rfl (by kernel_rfl) Tryz.ntmps73 Tryz.results73 (fun E hE hty hfs xs hp => ?_)
  unfold sWExp at hp
  split at hp
  case h_2 => exact hp.elim
  rename_i f g
  obtain ⟨hf, hg⟩ := hp
  have fb := wv_bd hf
  have gb := wv_bd hg
  have hL := bl_W hg
  refine ⟨by simp, fun Q hQ => ?_⟩
  simp only [params, Nat.reduceAdd]
  generalize hA : wv f = A at *
  generalize hN : wv g = N at *
  obtain ⟨n, hn⟩ : ∃ n : Nat, bl N = n := ⟨(bl N).toNat, by omega⟩
  have hNn : N < 2 ^ n := by
    have := lt_bl gb.1
    rw [hn] at this
    exact this
  have z1 : N / 2 ^ n = 0 := Int.ediv_eq_zero_of_lt gb.1 hNn
  repeat' first
    | refine T_seq' ?_
    | refine T_block ?_
    | refine n_then ?_
    | refine x_then ?_
    | refine r_then ?_
    | refine n_block ?_
    | refine r_block ?_
    | refine x_block ?_
    | refine x_block' (by rfl) ?_
    | refine T_exit ?_
    | refine T_skip ?_
    | refine T_ret ?_
    | ((first | refine T_region hE (by rfl) (fun K hK => ?_) | refine T_draw hE (by rfl) (by kernel_rfl) (fun K hK => ?_)); simp (disch := omega) only [eqs, evs, stp, stepW, wantA, opStep, kindOf, headStep, skipStep, stStep, wrStep, cpStep, stA, appA, readSl, isSl, copyA, kill, AV.refs, hd, hdLoad, hdBin, intBin, hdUn, hdConv, hdIdxAddr, hdIdx, hdSlice, bnd, hdCall, hdCallF, hdLen, hdMin, argsA, mapA, partsOk, partsF, lk, look, addR, evA, constA, HOut.ok, hty, hfs, tyAll, List.map, List.all, List.getElem?_cons_zero, List.getElem?_cons_succ, Option.bind_some, Option.map_some, Option.map_none, Option.getD_some, AV.pureA, Nat.reduceEqDiff, ↓reduceIte, reduceCtorEq, Nat.reduceLT, Nat.reduceLeDiff, Nat.reduceAdd, Nat.reduceMul, Int.reduceToNat, IntKind.bits, BEq.rfl, beq_self_eq_true, bne_self_eq_false, Int.reduceBEq, Int.reduceBNe, Int.reduceEq, Int.reduceNe, ne_eq, Int.reduceLT, Int.reduceLE, sOf, sLen, hN, hn]; (repeat refine And.intro (by first | omega | assumption | (and_intros <;> first | omega | assumption) | fail) ?_); refine hK _ ?_; clear hK K)
    | (refine T_cond rfl (fun hc => ?_) (fun hc => ?_) <;> (try simp only [cnds, reduceCtorEq] at hc) <;> (try (first | (exact hc.elim) | (exfalso; omega))))
  refine T_for (ι := Nat) (fun i => ⟨[(2, .elt 2 0), (3, .elt 3 0), (4, .elt 4 0), (5, .elt 5 0), (6, .int .i64 ((i : Int) - 1))], [(2, ⟨.u64, 4, f⟩), (3, ⟨.u64, 4, g⟩), (4, ⟨.u64, 4, fun _ => 0⟩), (5, ⟨.u64, 4, wl (A ^ (N / 2 ^ i).toNat)⟩)]⟩)
    (fun i => i ≤ n) (fun i => i) ⟨n, Nat.le_refl _, ?_⟩ (fun i hi => ?_)
  · rw [z1, Int.toNat_zero, Int.pow_zero]
    (simp (disch := omega) only [Le, AllF, AllR, slotLe, rowLe, refsIn, Option.isSome_some, implies_true, forall_const, AV.int.injEq, AV.bool.injEq, AV.elt.injEq, Int.natCast_add, Int.cast_ofNat_Int, eqs, lk, look, AV.pureA, kill, AV.refs, hty, tyAll, Nat.reduceEqDiff, ↓reduceIte, reduceCtorEq, Nat.reduceLT, Nat.reduceLeDiff, Nat.reduceAdd, Nat.reduceMul, Int.reduceToNat, ne_eq] <;> repeat' (first | rfl | apply And.intro | omega))
  · cases i with
    | zero =>
      repeat' first
        | refine T_seq' ?_
        | refine T_block ?_
        | refine n_then ?_
        | refine x_then ?_
        | refine r_then ?_
        | refine n_block ?_
        | refine r_block ?_
        | refine x_block ?_
        | refine x_block' (by rfl) ?_
        | refine T_exit ?_
        | refine T_skip ?_
        | refine T_ret ?_
        | ((first | refine T_region hE (by rfl) (fun K hK => ?_) | refine T_draw hE (by rfl) (by kernel_rfl) (fun K hK => ?_)); simp (disch := omega) only [eqs, evs, stp, stepW, wantA, opStep, kindOf, headStep, skipStep, stStep, wrStep, cpStep, stA, appA, readSl, isSl, copyA, kill, AV.refs, hd, hdLoad, hdBin, intBin, hdUn, hdConv, hdIdxAddr, hdIdx, hdSlice, bnd, hdCall, hdCallF, hdLen, hdMin, argsA, mapA, partsOk, partsF, lk, look, addR, evA, constA, HOut.ok, hty, hfs, tyAll, List.map, List.all, List.getElem?_cons_zero, List.getElem?_cons_succ, Option.bind_some, Option.map_some, Option.map_none, Option.getD_some, AV.pureA, Nat.reduceEqDiff, ↓reduceIte, reduceCtorEq, Nat.reduceLT, Nat.reduceLeDiff, Nat.reduceAdd, Nat.reduceMul, Int.reduceToNat, IntKind.bits, BEq.rfl, beq_self_eq_true, bne_self_eq_false, Int.reduceBEq, Int.reduceBNe, Int.reduceEq, Int.reduceNe, ne_eq, Int.reduceLT, Int.reduceLE]; (repeat refine And.intro (by first | omega | assumption | (and_intros <;> first | omega | assumption) | fail) ?_); refine hK _ ?_; clear hK K)
        | (refine T_cond rfl (fun hc => ?_) (fun hc => ?_) <;> (try simp only [cnds, reduceCtorEq] at hc) <;> (try (first | (exact hc.elim) | (exfalso; omega))))
      refine hQ _ ?_
      simp (disch := omega) only [resOk, res1, retOk, eqs, lk, look, AV.pureA, kill, AV.refs, hty, tyAll, Nat.reduceEqDiff, ↓reduceIte, reduceCtorEq, Nat.reduceLT, Nat.reduceLeDiff, Nat.reduceAdd, Nat.reduceMul, Int.reduceToNat, ne_eq, sWExp]
      rw [hA, hN, Int.pow_zero, Int.ediv_one]
      exact fun _ _ => rfl
    | succ i =>
      have e0 : (((i + 1 : Nat) : Int) - 1) = i := by omega
      rw [e0]
      have hh := half_nat gb.1 i
      have d := dig_bd (B := 2) (by decide) N i
      generalize (N / 2 ^ (i + 1)).toNat = E' at *
      by_cases hb : dig 2 N i = 1
      · have e : A ^ E' * A ^ E' * A = A ^ (N / 2 ^ i).toNat := by rw [hh, hb, ← Int.pow_add, show E' + E' = 2 * E' from by omega, show Int.toNat 1 = 1 from rfl, Int.pow_succ]
        repeat' first
          | refine T_seq' ?_
          | refine T_block ?_
          | refine n_then ?_
          | refine x_then ?_
          | refine r_then ?_
          | refine n_block ?_
          | refine r_block ?_
          | refine x_block ?_
          | refine x_block' (by rfl) ?_
          | refine T_exit ?_
          | refine T_skip ?_
          | refine T_ret ?_
          | ((first | refine T_region hE (by rfl) (fun K hK => ?_) | refine T_draw hE (by rfl) (by kernel_rfl) (fun K hK => ?_)); simp (disch := omega) only [eqs, evs, stp, stepW, wantA, opStep, kindOf, headStep, skipStep, stStep, wrStep, cpStep, stA, appA, readSl, isSl, copyA, kill, AV.refs, hd, hdLoad, hdBin, intBin, hdUn, hdConv, hdIdxAddr, hdIdx, hdSlice, bnd, hdCall, hdCallF, hdLen, hdMin, argsA, mapA, partsOk, partsF, lk, look, addR, evA, constA, HOut.ok, hty, hfs, tyAll, List.map, List.all, List.getElem?_cons_zero, List.getElem?_cons_succ, Option.bind_some, Option.map_some, Option.map_none, Option.getD_some, AV.pureA, Nat.reduceEqDiff, ↓reduceIte, reduceCtorEq, Nat.reduceLT, Nat.reduceLeDiff, Nat.reduceAdd, Nat.reduceMul, Int.reduceToNat, IntKind.bits, BEq.rfl, beq_self_eq_true, bne_self_eq_false, Int.reduceBEq, Int.reduceBNe, Int.reduceEq, Int.reduceNe, ne_eq, Int.reduceLT, Int.reduceLE, sMul, sBit, W_wl, hN, hA, wlm (a := A ^ E') (b := A ^ E'), wlm1 (a := A ^ E' * A ^ E') (b := A), hb, e]; (repeat refine And.intro (by first | omega | assumption | (and_intros <;> first | omega | assumption) | fail) ?_); refine hK _ ?_; clear hK K)
          | (refine T_cond rfl (fun hc => ?_) (fun hc => ?_) <;> (try simp only [cnds, reduceCtorEq] at hc) <;> (try (first | (exact hc.elim) | (exfalso; omega))))
        refine ⟨i, by omega, by omega, ?_⟩
        (simp (disch := omega) only [Le, AllF, AllR, slotLe, rowLe, refsIn, Option.isSome_some, implies_true, forall_const, AV.int.injEq, AV.bool.injEq, AV.elt.injEq, Int.natCast_add, Int.cast_ofNat_Int, eqs, lk, look, AV.pureA, kill, AV.refs, hty, tyAll, Nat.reduceEqDiff, ↓reduceIte, reduceCtorEq, Nat.reduceLT, Nat.reduceLeDiff, Nat.reduceAdd, Nat.reduceMul, Int.reduceToNat, ne_eq] <;> repeat' (first | rfl | apply And.intro | omega))
      · have hb0 : dig 2 N i = 0 := by omega
        have e : A ^ E' * A ^ E' = A ^ (N / 2 ^ i).toNat := by rw [hh, hb0, ← Int.pow_add, show E' + E' = 2 * E' from by omega]; rfl
        repeat' first
          | refine T_seq' ?_
          | refine T_block ?_
          | refine n_then ?_
          | refine x_then ?_
          | refine r_then ?_
          | refine n_block ?_
          | refine r_block ?_
          | refine x_block ?_
          | refine x_block' (by rfl) ?_
          | refine T_exit ?_
          | refine T_skip ?_
          | refine T_ret ?_
          | ((first | refine T_region hE (by rfl) (fun K hK => ?_) | refine T_draw hE (by rfl) (by kernel_rfl) (fun K hK => ?_)); simp (disch := omega) only [eqs, evs, stp, stepW, wantA, opStep, kindOf, headStep, skipStep, stStep, wrStep, cpStep, stA, appA, readSl, isSl, copyA, kill, AV.refs, hd, hdLoad, hdBin, intBin, hdUn, hdConv, hdIdxAddr, hdIdx, hdSlice, bnd, hdCall, hdCallF, hdLen, hdMin, argsA, mapA, partsOk, partsF, lk, look, addR, evA, constA, HOut.ok, hty, hfs, tyAll, List.map, List.all, List.getElem?_cons_zero, List.getElem?_cons_succ, Option.bind_some, Option.map_some, Option.map_none, Option.getD_some, AV.pureA, Nat.reduceEqDiff, ↓reduceIte, reduceCtorEq, Nat.reduceLT, Nat.reduceLeDiff, Nat.reduceAdd, Nat.reduceMul, Int.reduceToNat, IntKind.bits, BEq.rfl, beq_self_eq_true, bne_self_eq_false, Int.reduceBEq, Int.reduceBNe, Int.reduceEq, Int.reduceNe, ne_eq, Int.reduceLT, Int.reduceLE, sMul, sBit, W_wl, hN, hA, wlm (a := A ^ E') (b := A ^ E'), wlm1 (a := A ^ E' * A ^ E') (b := A), hb, e]; (repeat refine And.intro (by first | omega | assumption | (and_intros <;> first | omega | assumption) | fail) ?_); refine hK _ ?_; clear hK K)
          | (refine T_cond rfl (fun hc => ?_) (fun hc => ?_) <;> (try simp only [cnds, reduceCtorEq] at hc) <;> (try (first | (exact hc.elim) | (exfalso; omega))))
        refine ⟨i, by omega, by omega, ?_⟩
        (simp (disch := omega) only [Le, AllF, AllR, slotLe, rowLe, refsIn, Option.isSome_some, implies_true, forall_const, AV.int.injEq, AV.bool.injEq, AV.elt.injEq, Int.natCast_add, Int.cast_ofNat_Int, eqs, lk, look, AV.pureA, kill, AV.refs, hty, tyAll, Nat.reduceEqDiff, ↓reduceIte, reduceCtorEq, Nat.reduceLT, Nat.reduceLeDiff, Nat.reduceAdd, Nat.reduceMul, Int.reduceToNat, ne_eq] <;> repeat' (first | rfl | apply And.intro | omega))

def sNExp : List AV → SOut := sWExp
theorem c_NExp : Contract Tryz.prog 61 sNExp := by
  refine fun_ok [(14, sROf), (63, sRBit), (54, sRMul), (21, sRWord)] ⟨c_ROf, c_RBit, c_RMul, c_RWord, trivial⟩ Tryz.func61 rfl (by kernel_rfl) Tryz.ntmps61 Tryz.results61 (fun E hE hty hfs xs hp => ?_)
  unfold sNExp sWExp at hp
  split at hp
  case h_2 => exact hp.elim
  rename_i f g
  obtain ⟨hf, hg⟩ := hp
  have fb := wv_bd hf
  have gb := wv_bd hg
  have dN : dv (dl (wv g)) = wv g := by rw [dv_dl, modM gb.1 gb.2]
  refine ⟨by simp, fun Q hQ => ?_⟩
  simp only [params, Nat.reduceAdd]
  generalize hA : wv f = A at *
  generalize hN : wv g = N at *
  repeat' first
    | refine T_seq' ?_
    | refine T_block ?_
    | refine n_then ?_
    | refine x_then ?_
    | refine r_then ?_
    | refine n_block ?_
    | refine r_block ?_
    | refine x_block ?_
    | refine x_block' (by rfl) ?_
    | refine T_exit ?_
    | refine T_skip ?_
    | refine T_ret ?_
    | ((first | refine T_region hE (by rfl) (fun K hK => ?_) | refine T_draw hE (by rfl) (by kernel_rfl) (fun K hK => ?_)); simp (disch := omega) only [eqs, evs, stp, stepW, wantA, opStep, kindOf, headStep, skipStep, stStep, wrStep, cpStep, stA, appA, readSl, isSl, copyA, kill, AV.refs, hd, hdLoad, hdBin, intBin, hdUn, hdConv, hdIdxAddr, hdIdx, hdSlice, bnd, hdCall, hdCallF, hdLen, hdMin, argsA, mapA, partsOk, partsF, lk, look, addR, evA, constA, HOut.ok, hty, hfs, tyAll, List.map, List.all, List.getElem?_cons_zero, List.getElem?_cons_succ, Option.bind_some, Option.map_some, Option.map_none, Option.getD_some, AV.pureA, Nat.reduceEqDiff, ↓reduceIte, reduceCtorEq, Nat.reduceLT, Nat.reduceLeDiff, Nat.reduceAdd, Nat.reduceMul, Int.reduceToNat, IntKind.bits, BEq.rfl, beq_self_eq_true, bne_self_eq_false, Int.reduceBEq, Int.reduceBNe, Int.reduceEq, Int.reduceNe, ne_eq, Int.reduceLT, Int.reduceLE, sROf, hA, hN]; (repeat refine And.intro (by first | omega | assumption | (and_intros <;> first | omega | assumption) | fail) ?_); refine hK _ ?_; clear hK K)
    | (refine T_cond rfl (fun hc => ?_) (fun hc => ?_) <;> (try simp only [cnds, reduceCtorEq] at hc) <;> (try (first | (exact hc.elim) | (exfalso; omega))))
  refine T_for (ι := Nat) (fun i => ⟨[(4, .elt 4 0), (5, .elt 5 0), (6, .elt 6 0), (7, .elt 7 0), (8, .int .i64 i)], [(4, ⟨.u64, 4, fun _ => 0⟩), (5, ⟨.i64, 32, dl N⟩), (6, ⟨.i64, 32, dl (A ^ (2 ^ i))⟩), (7, ⟨.i64, 32, dl (A ^ (N % 2 ^ i).toNat)⟩)]⟩)
    (fun i => i ≤ 256) (fun i => 256 - i) ⟨0, by omega, ?_⟩ (fun i hi => ?_)
  · rw [one_dl, Int.pow_zero, Int.emod_one, Int.toNat_zero, Int.pow_zero, Nat.pow_zero, Int.pow_one]
    (simp (disch := omega) only [Le, AllF, AllR, slotLe, rowLe, refsIn, Option.isSome_some, implies_true, forall_const, AV.int.injEq, AV.bool.injEq, AV.elt.injEq, Int.natCast_add, Int.cast_ofNat_Int, eqs, lk, look, AV.pureA, kill, AV.refs, hty, tyAll, Nat.reduceEqDiff, ↓reduceIte, reduceCtorEq, Nat.reduceLT, Nat.reduceLeDiff, Nat.reduceAdd, Nat.reduceMul, Int.reduceToNat, ne_eq] <;> repeat' (first | rfl | apply And.intro | omega))
  · by_cases hlt : i < 256
    · have h1 : (i : Int) < 256 := by omega
      have hh := low_nat gb.1 i
      have d := dig_bd (B := 2) (by decide) N i
      have e2 : A ^ 2 ^ i * A ^ 2 ^ i = A ^ 2 ^ (i + 1) := by rw [← Int.pow_add, Nat.pow_succ, show 2 ^ i + 2 ^ i = 2 ^ i * 2 from by omega]
      have hrb : rbit N (i : Int) = dig 2 N i := by unfold rbit; rw [if_pos (by omega)]; rfl
      by_cases hb : dig 2 N i = 1
      · have e : A ^ (N % 2 ^ i).toNat * A ^ 2 ^ i = A ^ (N % 2 ^ (i + 1)).toNat := by
          rw [hh, hb, ← Int.pow_add, show Int.toNat 1 = 1 from rfl, Nat.one_mul]
        repeat' first
          | refine T_seq' ?_
          | refine T_block ?_
          | refine n_then ?_
          | refine x_then ?_
          | refine r_then ?_
          | refine n_block ?_
          | refine r_block ?_
          | refine x_block ?_
          | refine x_block' (by rfl) ?_
          | refine T_exit ?_
          | refine T_skip ?_
          | refine T_ret ?_
          | ((first | refine T_region hE (by rfl) (fun K hK => ?_) | refine T_draw hE (by rfl) (by kernel_rfl) (fun K hK => ?_)); simp (disch := omega) only [eqs, evs, stp, stepW, wantA, opStep, kindOf, headStep, skipStep, stStep, wrStep, cpStep, stA, appA, readSl, isSl, copyA, kill, AV.refs, hd, hdLoad, hdBin, intBin, hdUn, hdConv, hdIdxAddr, hdIdx, hdSlice, bnd, hdCall, hdCallF, hdLen, hdMin, argsA, mapA, partsOk, partsF, lk, look, addR, evA, constA, HOut.ok, hty, hfs, tyAll, List.map, List.all, List.getElem?_cons_zero, List.getElem?_cons_succ, Option.bind_some, Option.map_some, Option.map_none, Option.getD_some, AV.pureA, Nat.reduceEqDiff, ↓reduceIte, reduceCtorEq, Nat.reduceLT, Nat.reduceLeDiff, Nat.reduceAdd, Nat.reduceMul, Int.reduceToNat, IntKind.bits, BEq.rfl, beq_self_eq_true, bne_self_eq_false, Int.reduceBEq, Int.reduceBNe, Int.reduceEq, Int.reduceNe, ne_eq, Int.reduceLT, Int.reduceLE, h1, sRBit, sRMul, D_dl, dN, hrb, hb, dlm, e, e2]; (repeat refine And.intro (by first | omega | assumption | (and_intros <;> first | omega | assumption) | fail) ?_); refine hK _ ?_; clear hK K)
          | (refine T_cond rfl (fun hc => ?_) (fun hc => ?_) <;> (try simp only [cnds, reduceCtorEq] at hc) <;> (try (first | (exact hc.elim) | (exfalso; omega))))
        refine ⟨i + 1, by omega, by omega, ?_⟩
        (simp (disch := omega) only [Le, AllF, AllR, slotLe, rowLe, refsIn, Option.isSome_some, implies_true, forall_const, AV.int.injEq, AV.bool.injEq, AV.elt.injEq, Int.natCast_add, Int.cast_ofNat_Int, eqs, lk, look, AV.pureA, kill, AV.refs, hty, tyAll, Nat.reduceEqDiff, ↓reduceIte, reduceCtorEq, Nat.reduceLT, Nat.reduceLeDiff, Nat.reduceAdd, Nat.reduceMul, Int.reduceToNat, ne_eq] <;> repeat' (first | rfl | apply And.intro | omega))
      · have hb0 : dig 2 N i = 0 := by omega
        have e : A ^ (N % 2 ^ i).toNat = A ^ (N % 2 ^ (i + 1)).toNat := by
          rw [hh, hb0, show Int.toNat 0 = 0 from rfl, Nat.zero_mul, Nat.add_zero]
        rw [e]
        repeat' first
          | refine T_seq' ?_
          | refine T_block ?_
          | refine n_then ?_
          | refine x_then ?_
          | refine r_then ?_
          | refine n_block ?_
          | refine r_block ?_
          | refine x_block ?_
          | refine x_block' (by rfl) ?_
          | refine T_exit ?_
          | refine T_skip ?_
          | refine T_ret ?_
          | ((first | refine T_region hE (by rfl) (fun K hK => ?_) | refine T_draw hE (by rfl) (by kernel_rfl) (fun K hK => ?_)); simp (disch := omega) only [eqs, evs, stp, stepW, wantA, opStep, kindOf, headStep, skipStep, stStep, wrStep, cpStep, stA, appA, readSl, isSl, copyA, kill, AV.refs, hd, hdLoad, hdBin, intBin, hdUn, hdConv, hdIdxAddr, hdIdx, hdSlice, bnd, hdCall, hdCallF, hdLen, hdMin, argsA, mapA, partsOk, partsF, lk, look, addR, evA, constA, HOut.ok, hty, hfs, tyAll, List.map, List.all, List.getElem?_cons_zero, List.getElem?_cons_succ, Option.bind_some, Option.map_some, Option.map_none, Option.getD_some, AV.pureA, Nat.reduceEqDiff, ↓reduceIte, reduceCtorEq, Nat.reduceLT, Nat.reduceLeDiff, Nat.reduceAdd, Nat.reduceMul, Int.reduceToNat, IntKind.bits, BEq.rfl, beq_self_eq_true, bne_self_eq_false, Int.reduceBEq, Int.reduceBNe, Int.reduceEq, Int.reduceNe, ne_eq, Int.reduceLT, Int.reduceLE, h1, sRBit, sRMul, D_dl, dN, hrb, hb, dlm, e2]; (repeat refine And.intro (by first | omega | assumption | (and_intros <;> first | omega | assumption) | fail) ?_); refine hK _ ?_; clear hK K)
          | (refine T_cond rfl (fun hc => ?_) (fun hc => ?_) <;> (try simp only [cnds, reduceCtorEq] at hc) <;> (try (first | (exact hc.elim) | (exfalso; omega))))
        refine ⟨i + 1, by omega, by omega, ?_⟩
        (simp (disch := omega) only [Le, AllF, AllR, slotLe, rowLe, refsIn, Option.isSome_some, implies_true, forall_const, AV.int.injEq, AV.bool.injEq, AV.elt.injEq, Int.natCast_add, Int.cast_ofNat_Int, eqs, lk, look, AV.pureA, kill, AV.refs, hty, tyAll, Nat.reduceEqDiff, ↓reduceIte, reduceCtorEq, Nat.reduceLT, Nat.reduceLeDiff, Nat.reduceAdd, Nat.reduceMul, Int.reduceToNat, ne_eq] <;> repeat' (first | rfl | apply And.intro | omega))
    · have h1 : ¬ (i : Int) < 256 := by omega
      obtain rfl : i = 256 := by omega
      repeat' first
        | refine T_seq' ?_
        | refine T_block ?_
        | refine n_then ?_
        | refine x_then ?_
        | refine r_then ?_
        | refine n_block ?_
        | refine r_block ?_
        | refine x_block ?_
        | refine x_block' (by rfl) ?_
        | refine T_exit ?_
        | refine T_skip ?_
        | refine T_ret ?_
        | ((first | refine T_region hE (by rfl) (fun K hK => ?_) | refine T_draw hE (by rfl) (by kernel_rfl) (fun K hK => ?_)); simp (disch := omega) only [eqs, evs, stp, stepW, wantA, opStep, kindOf, headStep, skipStep, stStep, wrStep, cpStep, stA, appA, readSl, isSl, copyA, kill, AV.refs, hd, hdLoad, hdBin, intBin, hdUn, hdConv, hdIdxAddr, hdIdx, hdSlice, bnd, hdCall, hdCallF, hdLen, hdMin, argsA, mapA, partsOk, partsF, lk, look, addR, evA, constA, HOut.ok, hty, hfs, tyAll, List.map, List.all, List.getElem?_cons_zero, List.getElem?_cons_succ, Option.bind_some, Option.map_some, Option.map_none, Option.getD_some, AV.pureA, Nat.reduceEqDiff, ↓reduceIte, reduceCtorEq, Nat.reduceLT, Nat.reduceLeDiff, Nat.reduceAdd, Nat.reduceMul, Int.reduceToNat, IntKind.bits, BEq.rfl, beq_self_eq_true, bne_self_eq_false, Int.reduceBEq, Int.reduceBNe, Int.reduceEq, Int.reduceNe, ne_eq, Int.reduceLT, Int.reduceLE, h1, sRWord, D_dl]; (repeat refine And.intro (by first | omega | assumption | (and_intros <;> first | omega | assumption) | fail) ?_); refine hK _ ?_; clear hK K)
        | (refine T_cond rfl (fun hc => ?_) (fun hc => ?_) <;> (try simp only [cnds, reduceCtorEq] at hc) <;> (try (first | (exact hc.elim) | (exfalso; omega))))
      refine hQ _ ?_
      simp (disch := omega) only [resOk, res1, retOk, eqs, lk, look, AV.pureA, kill, AV.refs, hty, tyAll, Nat.reduceEqDiff, ↓reduceIte, reduceCtorEq, Nat.reduceLT, Nat.reduceLeDiff, Nat.reduceAdd, Nat.reduceMul, Int.reduceToNat, ne_eq, sNExp, sWExp]
      rw [hA, hN, M_2, modM gb.1 gb.2, dv_dl, wl_mod]
      exact fun _ _ => rfl

end Go.Proofs.YtijoifajbmhgdaaGreat.Sym
