/- Quotients of words: a step, quotients by a limb, quotients. -/
import Derived.Test.YtijoifajbmhgdaaGreatDb
import Derived.Test.YtijoifajbmhgdaaGreatNb
import Derived.Test.YtijoifajbmhgdaaGreatWe
import Derived.Test.YtijoifajbmhgdaaGreatWf
namespace Go.Proofs.YtijoifajbmhgdaaGreat.Sym
set_option linter.unusedVariables false
open Go Go.RowKit Num
set_option maxRecDepth 10000
set_option linter.unusedSimpArgs false

def bI (b : Bool) : Int := if b = true then 1 else 0
def stV (l m : Int) (b : Bool) : Int := if m ≤ 2 * l + bI b then 2 * l + bI b - m else 2 * l + bI b
theorem bI_bd (b : Bool) : 0 ≤ bI b ∧ bI b ≤ 1 := by cases b <;> simp [bI]
theorem wl_zero : wl 0 = fun _ => 0 := by
  funext j
  exact dig_zero B64_pos (by decide) (Int.pow_pos B64_pos)
theorem wl_hi (a : Int) (j : Nat) (hj : 4 ≤ j) : wl a j = 0 := by
  refine dig_zero B64_pos (Int.emod_nonneg _ (by decide)) (Int.lt_of_lt_of_le (Int.emod_lt_of_pos _ M_pos) ?_)
  rw [← B64_pow4]
  exact ipowB_le (by decide) hj

/-- One bit more of a number of which nothing stands below. -/
theorem or_bit {k : Int} {i : Nat} (hk : 0 ≤ k) (hi : i < 256) : updF (wl (k * 2 ^ (i + 1))) (i / 64) (bitsA .or .u64 (wl (k * 2 ^ (i + 1)) (i / 64)) (2 ^ (i % 64))) = wl (k * 2 ^ (i + 1) + 2 ^ i) := by
  have hi4 : i / 64 < 4 := by omega
  have h2 : U (2 ^ (i % 64)) := by
    have h1 : (2 : Int) ^ (i % 64) ≤ 2 ^ 63 := ipow_le (by omega)
    have h0 : (0 : Int) < 2 ^ (i % 64) := Int.pow_pos (by decide)
    exact ⟨by omega, by omega⟩
  have hb : ∀ t, bt (k * 2 ^ (i + 1) + 2 ^ i) t = (bt (k * 2 ^ (i + 1)) t || decide (i = t)) := fun t => by
    obtain ⟨n, rfl⟩ := Int.eq_ofNat_of_zero_le hk
    rw [show ((n : Int) * 2 ^ (i + 1) + 2 ^ i) = ((2 ^ (i + 1) * n + 2 ^ i : Nat) : Int) from by simp [Int.mul_comm], show ((n : Int) * 2 ^ (i + 1)) = ((2 ^ (i + 1) * n : Nat) : Int) from by simp [Int.mul_comm]]
    rw [bt_nat, bt_nat, Nat.two_pow_add_eq_or_of_lt (Nat.pow_lt_pow_right (by decide) (Nat.lt_succ_self i)), Nat.testBit_or, Nat.testBit_two_pow]
  have hb2 : ∀ t, bt (2 ^ (i % 64)) t = decide (i % 64 = t) := fun t => by
    rw [show ((2 : Int) ^ (i % 64)) = ((2 ^ (i % 64) : Nat) : Int) from by simp, bt_nat, Nat.testBit_two_pow]
  have hn0 : 0 ≤ k * 2 ^ (i + 1) := Int.mul_nonneg hk (Int.pow_nonneg (by decide))
  have hn1 : 0 ≤ k * 2 ^ (i + 1) + 2 ^ i := Int.add_nonneg hn0 (Int.pow_nonneg (by decide))
  funext j
  by_cases hj : i / 64 = j
  · subst hj
    rw [updF_same]
    refine bt_ext (or_bd (wl_U _ _ hi4) h2).1 (wl_U _ _ hi4).1 fun t => ?_
    rw [bt_or (wl_U _ _ hi4) h2, bt_wl _ _ _ hi4, bt_wl _ _ _ hi4, bt_modM hn0, bt_modM hn1, hb, hb2]
    by_cases ht : t < 64
    · have e : (i = 64 * (i / 64) + t) = (i % 64 = t) := by apply propext; omega
      have e3 : 64 * (i / 64) + t < 256 := by omega
      simp [ht, e, e3]
    · have e : ¬ (i % 64 = t) := by omega
      simp [ht, e]
  · rw [updF_ne _ _ hj]
    by_cases h4 : j < 4
    · refine bt_ext (wl_U _ _ h4).1 (wl_U _ _ h4).1 fun t => ?_
      rw [bt_wl _ _ _ h4, bt_wl _ _ _ h4, bt_modM hn0, bt_modM hn1, hb]
      by_cases ht : t < 64
      · have e : ¬ (i = 64 * j + t) := by omega
        simp [ht, e]
      · simp [ht]
    · rw [wl_hi _ _ (by omega), wl_hi _ _ (by omega)]

theorem or_one {x : Int} (hx : 0 ≤ x) : updF (wl (x * 2 ^ 1)) 0 (bitsA .or .u64 (wl (x * 2 ^ 1) 0) 1) = wl (2 * x + 1) := by
  have := or_bit (k := x) (i := 0) hx (by decide)
  simp only [Nat.zero_add, Nat.zero_div, Nat.zero_mod, Int.pow_zero] at this
  rw [this, show x * 2 ^ 1 + 1 = 2 * x + 1 from by omega]
theorem dig2_255 {x : Int} (h0 : 0 ≤ x) (h1 : x < M) : (dig 2 x 255 = 1) = (M ≤ 2 * x) := by
  have e : (2 : Int) ^ 255 = 57896044618658097711785492504343953926634992332820282019728792003956564819968 := by decide
  unfold dig
  rw [e]
  unfold M at *
  apply propext
  omega
theorem cmp_ge {a b : Int} : (0 ≤ cmpI a b) = (b ≤ a) := by
  unfold cmpI
  apply propext
  split
  · omega
  · split <;> omega
theorem cmp_lt {a b : Int} : (cmpI a b < 0) = (a < b) := by
  unfold cmpI
  apply propext
  split
  · omega
  · split <;> omega
theorem cmp_gt {a b : Int} : (0 < cmpI a b) = (b < a) := by
  unfold cmpI
  apply propext
  split
  · omega
  · split <;> omega

/-! ### A step -/
def sStep : List AV → SOut
  | [.arr .u64 4 f, .arr .u64 4 g, .bool b] => ⟨W f ∧ W g ∧ wv f < wv g, .pair (.arr .u64 4 (wl (stV (wv f) (wv g) b))) (.bool (decide (wv g ≤ 2 * wv f + bI b)))⟩
  | _ => ⟨False, .und⟩
theorem c_step : Contract Tryz.prog 67 sStep := by
  refine fun_ok [(68, sBit), (83, sShl), (26, sCompare), (71, sWSub)] ⟨c_Bit, c_Shl, c_Compare, c_WSub, trivial⟩ Tryz.func67 rfl (by kernel_rfl) Tryz.ntmps67 Tryz.results67 (fun E hE hty hfs xs hp => ?_)
  unfold sStep at hp
  split at hp
  case h_2 => exact hp.elim
  rename_i f g b
  obtain ⟨hf, hg, hlt⟩ := hp
  have hp : True := trivial
  have fb := wv_bd hf
  have gb := wv_bd hg
  refine ⟨by simp, fun Q hQ => ?_⟩
  simp only [params, Nat.reduceAdd]
  obtain ⟨T, hT⟩ : ∃ T, T = 2 * wv f + bI b := ⟨_, rfl⟩
  have hb := bI_bd b
  have hW := W_wl T
  have eT : wv (wl T) = T % M := wv_wl T
  have fin : wl (T % M - wv g) = wl (T - wv g) := wl_congr (by rw [Int.emod_sub_emod])
  cases b with
  | true =>
    simp only [bI, if_true] at hT
    by_cases ho : M ≤ 2 * wv f
    · have hle : wv g ≤ T := by omega
      repeat' first
        | refine T_seq' ?_
        | refine T_block ?_
        | refine n_then ?_
        | refine x_then ?_
        | refine r_then ?_
        | refine n_block ?_
        | refine r_block ?_
        | refine x_block ?_
        | refine x_block' (by rfl) ?_
        | refine T_exit ?_
        | refine T_skip ?_
        | refine T_ret ?_
        | ((first | refine T_region hE (by rfl) (fun K hK => ?_) | refine T_draw hE (by rfl) (by kernel_rfl) (fun K hK => ?_)); simp (disch := omega) only [eqs, evs, stp, stepW, wantA, opStep, kindOf, headStep, skipStep, stStep, wrStep, cpStep, stA, appA, readSl, isSl, copyA, kill, AV.refs, hd, hdLoad, hdBin, intBin, hdUn, hdConv, hdIdxAddr, hdIdx, hdSlice, bnd, hdCall, hdCallF, hdLen, hdMin, argsA, mapA, partsOk, partsF, lk, look, addR, evA, constA, HOut.ok, hty, hfs, tyAll, List.map, List.all, List.getElem?_cons_zero, List.getElem?_cons_succ, Option.bind_some, Option.map_some, Option.map_none, Option.getD_some, AV.pureA, Nat.reduceEqDiff, ↓reduceIte, reduceCtorEq, Nat.reduceLT, Nat.reduceLeDiff, Nat.reduceAdd, Nat.reduceMul, Int.reduceToNat, IntKind.bits, BEq.rfl, beq_self_eq_true, bne_self_eq_false, Int.reduceBEq, Int.reduceBNe, Int.reduceEq, Int.reduceNe, ne_eq, Int.reduceLT, Int.reduceLE, sBit, sShl, sCompare, sWSub, dig2_255 fb.1 fb.2, W_wl, or_one fb.1, ← hT, eT, fin, ho]; (repeat refine And.intro (by first | omega | assumption | (and_intros <;> first | omega | assumption) | fail) ?_); refine hK _ ?_; clear hK K)
        | (refine T_cond rfl (fun hc => ?_) (fun hc => ?_) <;> (try simp only [cnds, reduceCtorEq] at hc) <;> (try (first | (exact hc.elim) | (exfalso; omega))))
      refine hQ _ ?_
      simp (disch := omega) only [resOk, res1, retOk, eqs, lk, look, AV.pureA, kill, AV.refs, hty, tyAll, Nat.reduceEqDiff, ↓reduceIte, reduceCtorEq, Nat.reduceLT, Nat.reduceLeDiff, Nat.reduceAdd, Nat.reduceMul, Int.reduceToNat, ne_eq, implies_true, sStep, stV, bI, ← hT, hle, if_true]
    · have eM : T % M = T := Int.emod_eq_of_lt (by omega) (by unfold M at *; omega)
      rw [eM] at eT
      by_cases hle : wv g ≤ T
      · repeat' first
          | refine T_seq' ?_
          | refine T_block ?_
          | refine n_then ?_
          | refine x_then ?_
          | refine r_then ?_
          | refine n_block ?_
          | refine r_block ?_
          | refine x_block ?_
          | refine x_block' (by rfl) ?_
          | refine T_exit ?_
          | refine T_skip ?_
          | refine T_ret ?_
          | ((first | refine T_region hE (by rfl) (fun K hK => ?_) | refine T_draw hE (by rfl) (by kernel_rfl) (fun K hK => ?_)); simp (disch := omega) only [eqs, evs, stp, stepW, wantA, opStep, kindOf, headStep, skipStep, stStep, wrStep, cpStep, stA, appA, readSl, isSl, copyA, kill, AV.refs, hd, hdLoad, hdBin, intBin, hdUn, hdConv, hdIdxAddr, hdIdx, hdSlice, bnd, hdCall, hdCallF, hdLen, hdMin, argsA, mapA, partsOk, partsF, lk, look, addR, evA, constA, HOut.ok, hty, hfs, tyAll, List.map, List.all, List.getElem?_cons_zero, List.getElem?_cons_succ, Option.bind_some, Option.map_some, Option.map_none, Option.getD_some, AV.pureA, Nat.reduceEqDiff, ↓reduceIte, reduceCtorEq, Nat.reduceLT, Nat.reduceLeDiff, Nat.reduceAdd, Nat.reduceMul, Int.reduceToNat, IntKind.bits, BEq.rfl, beq_self_eq_true, bne_self_eq_false, Int.reduceBEq, Int.reduceBNe, Int.reduceEq, Int.reduceNe, ne_eq, Int.reduceLT, Int.reduceLE, sBit, sShl, sCompare, sWSub, dig2_255 fb.1 fb.2, W_wl, or_one fb.1, ← hT, eT, ho, cmp_ge, hle]; (repeat refine And.intro (by first | omega | assumption | (and_intros <;> first | omega | assumption) | fail) ?_); refine hK _ ?_; clear hK K)
          | (refine T_cond rfl (fun hc => ?_) (fun hc => ?_) <;> (try simp only [cnds, reduceCtorEq] at hc) <;> (try (first | (exact hc.elim) | (exfalso; omega))))
        refine hQ _ ?_
        simp (disch := omega) only [resOk, res1, retOk, eqs, lk, look, AV.pureA, kill, AV.refs, hty, tyAll, Nat.reduceEqDiff, ↓reduceIte, reduceCtorEq, Nat.reduceLT, Nat.reduceLeDiff, Nat.reduceAdd, Nat.reduceMul, Int.reduceToNat, ne_eq, implies_true, sStep, stV, bI, ← hT, hle, if_true]
      · repeat' first
          | refine T_seq' ?_
          | refine T_block ?_
          | refine n_then ?_
          | refine x_then ?_
          | refine r_then ?_
          | refine n_block ?_
          | refine r_block ?_
          | refine x_block ?_
          | refine x_block' (by rfl) ?_
          | refine T_exit ?_
          | refine T_skip ?_
          | refine T_ret ?_
          | ((first | refine T_region hE (by rfl) (fun K hK => ?_) | refine T_draw hE (by rfl) (by kernel_rfl) (fun K hK => ?_)); simp (disch := omega) only [eqs, evs, stp, stepW, wantA, opStep, kindOf, headStep, skipStep, stStep, wrStep, cpStep, stA, appA, readSl, isSl, copyA, kill, AV.refs, hd, hdLoad, hdBin, intBin, hdUn, hdConv, hdIdxAddr, hdIdx, hdSlice, bnd, hdCall, hdCallF, hdLen, hdMin, argsA, mapA, partsOk, partsF, lk, look, addR, evA, constA, HOut.ok, hty, hfs, tyAll, List.map, List.all, List.getElem?_cons_zero, List.getElem?_cons_succ, Option.bind_some, Option.map_some, Option.map_none, Option.getD_some, AV.pureA, Nat.reduceEqDiff, ↓reduceIte, reduceCtorEq, Nat.reduceLT, Nat.reduceLeDiff, Nat.reduceAdd, Nat.reduceMul, Int.reduceToNat, IntKind.bits, BEq.rfl, beq_self_eq_true, bne_self_eq_false, Int.reduceBEq, Int.reduceBNe, Int.reduceEq, Int.reduceNe, ne_eq, Int.reduceLT, Int.reduceLE, sBit, sShl, sCompare, sWSub, dig2_255 fb.1 fb.2, W_wl, or_one fb.1, ← hT, eT, ho, cmp_ge, hle]; (repeat refine And.intro (by first | omega | assumption | (and_intros <;> first | omega | assumption) | fail) ?_); refine hK _ ?_; clear hK K)
          | (refine T_cond rfl (fun hc => ?_) (fun hc => ?_) <;> (try simp only [cnds, reduceCtorEq] at hc) <;> (try (first | (exact hc.elim) | (exfalso; omega))))
        refine hQ _ ?_
        simp (disch := omega) only [resOk, res1, retOk, eqs, lk, look, AV.pureA, kill, AV.refs, hty, tyAll, Nat.reduceEqDiff, ↓reduceIte, reduceCtorEq, Nat.reduceLT, Nat.reduceLeDiff, Nat.reduceAdd, Nat.reduceMul, Int.reduceToNat, ne_eq, implies_true, sStep, stV, bI, ← hT, hle, if_true, if_false]
  | false =>
    simp only [bI, Bool.false_eq_true, if_false, Int.add_zero] at hT
    have e2 : wv f * 2 ^ 1 = T := by omega
    by_cases ho : M ≤ 2 * wv f
    · have hle : wv g ≤ T := by omega
      repeat' first
        | refine T_seq' ?_
        | refine T_block ?_
        | refine n_then ?_
        | refine x_then ?_
        | refine r_then ?_
        | refine n_block ?_
        | refine r_block ?_
        | refine x_block ?_
        | refine x_block' (by rfl) ?_
        | refine T_exit ?_
        | refine T_skip ?_
        | refine T_ret ?_
        | ((first | refine T_region hE (by rfl) (fun K hK => ?_) | refine T_draw hE (by rfl) (by kernel_rfl) (fun K hK => ?_)); simp (disch := omega) only [eqs, evs, stp, stepW, wantA, opStep, kindOf, headStep, skipStep, stStep, wrStep, cpStep, stA, appA, readSl, isSl, copyA, kill, AV.refs, hd, hdLoad, hdBin, intBin, hdUn, hdConv, hdIdxAddr, hdIdx, hdSlice, bnd, hdCall, hdCallF, hdLen, hdMin, argsA, mapA, partsOk, partsF, lk, look, addR, evA, constA, HOut.ok, hty, hfs, tyAll, List.map, List.all, List.getElem?_cons_zero, List.getElem?_cons_succ, Option.bind_some, Option.map_some, Option.map_none, Option.getD_some, AV.pureA, Nat.reduceEqDiff, ↓reduceIte, reduceCtorEq, Nat.reduceLT, Nat.reduceLeDiff, Nat.reduceAdd, Nat.reduceMul, Int.reduceToNat, IntKind.bits, BEq.rfl, beq_self_eq_true, bne_self_eq_false, Int.reduceBEq, Int.reduceBNe, Int.reduceEq, Int.reduceNe, ne_eq, Int.reduceLT, Int.reduceLE, sBit, sShl, sCompare, sWSub, dig2_255 fb.1 fb.2, W_wl, e2, eT, fin, ho]; (repeat refine And.intro (by first | omega | assumption | (and_intros <;> first | omega | assumption) | fail) ?_); refine hK _ ?_; clear hK K)
        | (refine T_cond rfl (fun hc => ?_) (fun hc => ?_) <;> (try simp only [cnds, reduceCtorEq] at hc) <;> (try (first | (exact hc.elim) | (exfalso; omega))))
      refine hQ _ ?_
      simp (disch := omega) only [resOk, res1, retOk, eqs, lk, look, AV.pureA, kill, AV.refs, hty, tyAll, Nat.reduceEqDiff, ↓reduceIte, reduceCtorEq, Nat.reduceLT, Nat.reduceLeDiff, Nat.reduceAdd, Nat.reduceMul, Int.reduceToNat, ne_eq, implies_true, sStep, stV, bI, Int.add_zero, Bool.false_eq_true, ← hT, hle, if_true, if_false]
    · have eM : T % M = T := Int.emod_eq_of_lt (by omega) (by unfold M at *; omega)
      rw [eM] at eT
      by_cases hle : wv g ≤ T
      · repeat' first
          | refine T_seq' ?_
          | refine T_block ?_
          | refine n_then ?_
          | refine x_then ?_
          | refine r_then ?_
          | refine n_block ?_
          | refine r_block ?_
          | refine x_block ?_
          | refine x_block' (by rfl) ?_
          | refine T_exit ?_
          | refine T_skip ?_
          | refine T_ret ?_
          | ((first | refine T_region hE (by rfl) (fun K hK => ?_) | refine T_draw hE (by rfl) (by kernel_rfl) (fun K hK => ?_)); simp (disch := omega) only [eqs, evs, stp, stepW, wantA, opStep, kindOf, headStep, skipStep, stStep, wrStep, cpStep, stA, appA, readSl, isSl, copyA, kill, AV.refs, hd, hdLoad, hdBin, intBin, hdUn, hdConv, hdIdxAddr, hdIdx, hdSlice, bnd, hdCall, hdCallF, hdLen, hdMin, argsA, mapA, partsOk, partsF, lk, look, addR, evA, constA, HOut.ok, hty, hfs, tyAll, List.map, List.all, List.getElem?_cons_zero, List.getElem?_cons_succ, Option.bind_some, Option.map_some, Option.map_none, Option.getD_some, AV.pureA, Nat.reduceEqDiff, ↓reduceIte, reduceCtorEq, Nat.reduceLT, Nat.reduceLeDiff, Nat.reduceAdd, Nat.reduceMul, Int.reduceToNat, IntKind.bits, BEq.rfl, beq_self_eq_true, bne_self_eq_false, Int.reduceBEq, Int.reduceBNe, Int.reduceEq, Int.reduceNe, ne_eq, Int.reduceLT, Int.reduceLE, sBit, sShl, sCompare, sWSub, dig2_255 fb.1 fb.2, W_wl, e2, eT, ho, cmp_ge, hle]; (repeat refine And.intro (by first | omega | assumption | (and_intros <;> first | omega | assumption) | fail) ?_); refine hK _ ?_; clear hK K)
          | (refine T_cond rfl (fun hc => ?_) (fun hc => ?_) <;> (try simp only [cnds, reduceCtorEq] at hc) <;> (try (first | (exact hc.elim) | (exfalso; omega))))
        refine hQ _ ?_
        simp (disch := omega) only [resOk, res1, retOk, eqs, lk, look, AV.pureA, kill, AV.refs, hty, tyAll, Nat.reduceEqDiff, ↓reduceIte, reduceCtorEq, Nat.reduceLT, Nat.reduceLeDiff, Nat.reduceAdd, Nat.reduceMul, Int.reduceToNat, ne_eq, implies_true, sStep, stV, bI, Int.add_zero, Bool.false_eq_true, ← hT, hle, if_true, if_false]
      · repeat' first
          | refine T_seq' ?_
          | refine T_block ?_
          | refine n_then ?_
          | refine x_then ?_
          | refine r_then ?_
          | refine n_block ?_
          | refine r_block ?_
          | refine x_block ?_
          | refine x_block' (by rfl) ?_
          | refine T_exit ?_
          | refine T_skip ?_
          | refine T_ret ?_
          | ((first | refine T_region hE (by rfl) (fun K hK => ?_) | refine T_draw hE (by rfl) (by kernel_rfl) (fun K hK => ?_)); simp (disch := omega) only [eqs, evs, stp, stepW, wantA, opStep, kindOf, headStep, skipStep, stStep, wrStep, cpStep, stA, appA, readSl, isSl, copyA, kill, AV.refs, hd, hdLoad, hdBin, intBin, hdUn, hdConv, hdIdxAddr, hdIdx, hdSlice, bnd, hdCall, hdCallF, hdLen, hdMin, argsA, mapA, partsOk, partsF, lk, look, addR, evA, constA, HOut.ok, hty, hfs, tyAll, List.map, List.all, List.getElem?_cons_zero, List.getElem?_cons_succ, Option.bind_some, Option.map_some, Option.map_none, Option.getD_some, AV.pureA, Nat.reduceEqDiff, ↓reduceIte, reduceCtorEq, Nat.reduceLT, Nat.reduceLeDiff, Nat.reduceAdd, Nat.reduceMul, Int.reduceToNat, IntKind.bits, BEq.rfl, beq_self_eq_true, bne_self_eq_false, Int.reduceBEq, Int.reduceBNe, Int.reduceEq, Int.reduceNe, ne_eq, Int.reduceLT, Int.reduceLE, sBit, sShl, sCompare, sWSub, dig2_255 fb.1 fb.2, W_wl, e2, eT, ho, cmp_ge, hle]; (repeat refine And.intro (by first | omega | assumption | (and_intros <;> first | omega | assumption) | fail) ?_); refine hK _ ?_; clear hK K)
          | (refine T_cond rfl (fun hc => ?_) (fun hc => ?_) <;> (try simp only [cnds, reduceCtorEq] at hc) <;> (try (first | (exact hc.elim) | (exfalso; omega))))
        refine hQ _ ?_
        simp (disch := omega) only [resOk, res1, retOk, eqs, lk, look, AV.pureA, kill, AV.refs, hty, tyAll, Nat.reduceEqDiff, ↓reduceIte, reduceCtorEq, Nat.reduceLT, Nat.reduceLeDiff, Nat.reduceAdd, Nat.reduceMul, Int.reduceToNat, ne_eq, implies_true, sStep, stV, bI, Int.add_zero, Bool.false_eq_true, ← hT, hle, if_true, if_false]

end Go.Proofs.YtijoifajbmhgdaaGreat.Sym
