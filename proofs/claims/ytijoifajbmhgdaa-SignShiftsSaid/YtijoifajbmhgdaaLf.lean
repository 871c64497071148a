/- The laws of words with signs: extended, shifted down. -/
import Derived.Test.YtijoifajbmhgdaaLe
namespace Go.Proofs.Ytijoifajbmhgdaa.Sym
set_option linter.unusedVariables false
open Go Go.RowKit Num
set_option maxRecDepth 10000
set_option linter.unusedSimpArgs false

theorem exV_bd {h : Nat} {a : Int} (hh : h ≤ 256) : 0 ≤ exV h a ∧ exV h a < M := by
  obtain ⟨p0, p1, p2⟩ := pow_M hh
  have r0 := Int.emod_nonneg a (show (2 : Int) ^ h ≠ 0 by omega)
  have r1 := Int.emod_lt_of_pos a p0
  unfold exV
  split <;> omega
theorem exV_low {h : Nat} {a : Int} (hh : h ≤ 256) : exV h a % 2 ^ h = a % 2 ^ h := by
  obtain ⟨p0, p1, p2⟩ := pow_M hh
  unfold exV
  split
  · rw [← p2, show a % 2 ^ h + (2 ^ h * 2 ^ (256 - h) - 2 ^ h) = a % 2 ^ h + 2 ^ h * (2 ^ (256 - h) - 1) from by rw [Int.mul_sub, Int.mul_one], Int.add_mul_emod_self_left, Int.emod_emod]
  · rw [Int.emod_emod]
theorem exV_two {h : Nat} {a : Int} (hh : h ≤ 256) (h0 : 0 < h) : exV h (exV h a) = exV h a := by
  have e : dig 2 (exV h a) (h - 1) = dig 2 a (h - 1) := by
    rw [← dig_mod (B := 2) (by decide) (exV h a) (show h - 1 < h by omega), exV_low hh, dig_mod (B := 2) (by decide) a (by omega)]
  rw [exV, exV_low hh, e]
  rfl
theorem extV_two {n a : Int} (n0 : 0 ≤ n) : extV n (extV n a) = extV n a := by
  unfold extV
  split
  · exact exV_two (by omega) (by omega)
  · rfl
theorem extV_bd {n a : Int} (h0 : 0 ≤ a) (h1 : a < M) : 0 ≤ extV n a ∧ extV n a < M := by
  unfold extV
  split
  · exact exV_bd (by omega)
  · exact ⟨h0, h1⟩

theorem c_SignExtends : Contract Try.prog 18 sLaw2 := by
  refine fun_ok [(72, sFixed1), (80, sExt), (81, sExt)] ⟨c_fixed3, c_Ext, c_RExt, trivial⟩ Try.func18 rfl (by kernel_rfl) Try.ntmps18 Try.results18 (fun E hE hty hfs xs hp => ?_)
  unfold sLaw2 at hp
  split at hp
  case h_2 => exact hp.elim
  rename_i f g
  obtain ⟨hf, hg⟩ := hp
  have fb := wv_bd hf
  have gb := wv_bd hg
  have xb := extV_bd (n := wv f) gb.1 gb.2
  have v1 := wv_small xb.1 xb.2
  have e1 := extV_two (a := wv g) fb.1
  refine ⟨by simp, fun Q hQ => ?_⟩
  simp only [params, Nat.reduceAdd]
  repeat' first
    | refine T_seq' ?_
    | refine T_block ?_
    | refine n_then ?_
    | refine x_then ?_
    | refine r_then ?_
    | refine n_block ?_
    | refine r_block ?_
    | refine x_block ?_
    | refine x_block' (by rfl) ?_
    | refine T_exit ?_
    | refine T_skip ?_
    | refine T_ret ?_
    | ((first | refine T_region hE (by rfl) (fun K hK => ?_) | refine T_draw hE (by rfl) (by kernel_rfl) (fun K hK => ?_)); simp (disch := omega) only [eqs, evs, stp, stepW, wantA, opStep, kindOf, headStep, skipStep, stStep, wrStep, cpStep, stA, appA, readSl, isSl, copyA, kill, AV.refs, hd, hdLoad, hdBin, intBin, hdUn, hdConv, hdIdxAddr, hdIdx, hdSlice, bnd, hdCall, hdCallF, hdLen, hdMin, argsA, mapA, partsOk, partsF, lk, look, addR, evA, constA, HOut.ok, hty, hfs, tyAll, List.map, List.all, List.getElem?_cons_zero, List.getElem?_cons_succ, Option.bind_some, Option.map_some, Option.map_none, Option.getD_some, AV.pureA, Nat.reduceEqDiff, ↓reduceIte, reduceCtorEq, Nat.reduceLT, Nat.reduceLeDiff, Nat.reduceAdd, Nat.reduceMul, Int.reduceToNat, IntKind.bits, BEq.rfl, beq_self_eq_true, bne_self_eq_false, Int.reduceBEq, Int.reduceBNe, Int.reduceEq, Int.reduceNe, ne_eq, Int.reduceLT, Int.reduceLE, sFixed1, sExt, W_wl, v1, e1, eqA_refl]; (repeat refine And.intro (by first | omega | assumption | (and_intros <;> first | omega | assumption) | fail) ?_); refine hK _ ?_; clear hK K)
    | (refine T_cond rfl (fun hc => ?_) (fun hc => ?_) <;> (try simp only [cnds, reduceCtorEq] at hc) <;> (try (first | (exact hc.elim) | (exfalso; omega))))
  refine hQ _ ?_
  simp (disch := omega) only [resOk, res1, retOk, eqs, lk, look, AV.pureA, kill, AV.refs, hty, tyAll, Nat.reduceEqDiff, ↓reduceIte, reduceCtorEq, Nat.reduceLT, Nat.reduceLeDiff, Nat.reduceAdd, Nat.reduceMul, Int.reduceToNat, ne_eq, sLaw2]

theorem sar_min {a : Int} {n : Int} (h0 : 0 ≤ a) (h1 : a < M) (n0 : 0 ≤ n) : sarV a (min n 300).toNat = sarV a n.toNat := by
  by_cases h : n ≤ 300
  · rw [Int.min_eq_left h]
  · rw [Int.min_eq_right (by omega)]
    cases hn : ng a
    · have z : ∀ k : Nat, 256 ≤ k → a / 2 ^ k = 0 := fun k hk => Int.ediv_eq_zero_of_lt h0 (Int.lt_of_lt_of_le h1 (by rw [← M_2]; exact ipow_le hk))
      rw [sar_pos hn, sar_pos hn, z _ (by omega), z _ (by omega)]
    · rw [sar_all hn h0 h1 (by omega), sar_all hn h0 h1 (by omega)]
theorem sv_bd {a : Int} (h0 : 0 ≤ a) (h1 : a < M) : -57896044618658097711785492504343953926634992332820282019728792003956564819968 ≤ sv a ∧ sv a < 57896044618658097711785492504343953926634992332820282019728792003956564819968 := by
  have h := @ng_true a
  unfold sv
  unfold M at *
  split
  · rename_i k; rw [h] at k; omega
  · rename_i k; rw [h] at k; omega
theorem sv_mod {L : Int} (h1 : -57896044618658097711785492504343953926634992332820282019728792003956564819968 ≤ L) (h2 : L < 57896044618658097711785492504343953926634992332820282019728792003956564819968) : sv (L % M) = L := by
  have h := @ng_true (L % M)
  unfold sv
  unfold M at *
  split
  · rename_i k; rw [h] at k; omega
  · rename_i k; rw [h] at k; omega
theorem sv_emod {a : Int} : sv a % M = a % M := by
  unfold sv
  split
  · rw [Int.sub_emod_right]
  · rfl
theorem sub_cong {a b c : Int} (h : a % M = b % M) : (a - c) % M = (b - c) % M := by rw [Int.sub_emod, h, ← Int.sub_emod]
/-- What a shift down leaves. -/
theorem sar_left {a : Int} {N : Nat} (h0 : 0 ≤ a) (h1 : a < M) (hN : N ≤ 254) : (a - sarV a N * 2 ^ N) % M < 2 ^ N ∧ ¬ sv a < sv (sarV a N * 2 ^ N % M) := by
  have hp : (0 : Int) < 2 ^ N := Int.pow_pos (by decide)
  have b := sv_bd h0 h1
  have e := Int.mul_ediv_add_emod (sv a) (2 ^ N)
  have r0 := Int.emod_nonneg (sv a) (show (2 : Int) ^ N ≠ 0 by omega)
  have r1 := Int.emod_lt_of_pos (sv a) hp
  have hpM : (2 : Int) ^ N ≤ 2 ^ 255 := ipow_le (by omega)
  rw [show (2 : Int) ^ 255 = 57896044618658097711785492504343953926634992332820282019728792003956564819968 from by decide] at hpM
  have hlo : -57896044618658097711785492504343953926634992332820282019728792003956564819968 ≤ sv a / 2 ^ N * 2 ^ N := by
    have h2 : (2 : Int) ^ (255 - N) * 2 ^ N = 57896044618658097711785492504343953926634992332820282019728792003956564819968 := by rw [← Int.pow_add, show 255 - N + N = 255 from by omega]; decide
    have h3 : -(2 : Int) ^ (255 - N) ≤ sv a / 2 ^ N := (Int.le_ediv_iff_mul_le hp).2 (by rw [Int.neg_mul, h2]; exact b.1)
    have h4 := Int.mul_le_mul_of_nonneg_right h3 (show (0 : Int) ≤ 2 ^ N by omega)
    rw [Int.neg_mul, h2] at h4
    exact h4
  rw [Int.mul_comm] at e
  constructor
  · have : (a - sarV a N * 2 ^ N) % M = (sv a % 2 ^ N) % M := by
      unfold sarV
      rw [sub_cong (sv_emod (a := a)).symm]
      congr 1
      omega
    rw [this, Int.emod_eq_of_lt r0 (by unfold M; omega)]
    exact r1
  · unfold sarV
    rw [sv_mod hlo (by omega)]
    omega

def sLawU : List AV → SOut
  | [.arr .u64 4 f, .int .u64 n] => ⟨W f ∧ (0 ≤ n ∧ n < 18446744073709551616), .bool true⟩
  | _ => ⟨False, .und⟩
theorem c_SignShifts : Contract Try.prog 19 sLawU := by
  refine fun_ok [(72, sFixed1), (82, sSar), (83, sRSar), (33, sRShift), (30, sROf), (29, sRMul), (43, sRSub), (51, sRCompare), (31, sRWord), (79, sSLess)] ⟨c_fixed3, c_Sar, c_RSar, c_RShift, c_ROf, c_RMul, c_RSub, c_RCompare, c_RWord, c_RSLess, trivial⟩ Try.func19 rfl (by kernel_rfl) Try.ntmps19 Try.results19 (fun E hE hty hfs xs hp => ?_)
  unfold sLawU at hp
  split at hp
  case h_2 => exact hp.elim
  rename_i f n
  obtain ⟨hf, n0, n1⟩ := hp
  have fb := wv_bd hf
  have hm := sar_min fb.1 fb.2 n0
  refine ⟨by simp, fun Q hQ => ?_⟩
  simp only [params, Nat.reduceAdd]
  by_cases hbig : 254 < n
  · repeat' first
      | refine T_seq' ?_
      | refine T_block ?_
      | refine n_then ?_
      | refine x_then ?_
      | refine r_then ?_
      | refine n_block ?_
      | refine r_block ?_
      | refine x_block ?_
      | refine x_block' (by rfl) ?_
      | refine T_exit ?_
      | refine T_skip ?_
      | refine T_ret ?_
      | ((first | refine T_region hE (by rfl) (fun K hK => ?_) | refine T_draw hE (by rfl) (by kernel_rfl) (fun K hK => ?_)); simp (disch := omega) only [eqs, evs, stp, stepW, wantA, opStep, kindOf, headStep, skipStep, stStep, wrStep, cpStep, stA, appA, readSl, isSl, copyA, kill, AV.refs, hd, hdLoad, hdBin, intBin, hdUn, hdConv, hdIdxAddr, hdIdx, hdSlice, bnd, hdCall, hdCallF, hdLen, hdMin, argsA, mapA, partsOk, partsF, lk, look, addR, evA, constA, HOut.ok, hty, hfs, tyAll, List.map, List.all, List.getElem?_cons_zero, List.getElem?_cons_succ, Option.bind_some, Option.map_some, Option.map_none, Option.getD_some, AV.pureA, Nat.reduceEqDiff, ↓reduceIte, reduceCtorEq, Nat.reduceLT, Nat.reduceLeDiff, Nat.reduceAdd, Nat.reduceMul, Int.reduceToNat, IntKind.bits, BEq.rfl, beq_self_eq_true, bne_self_eq_false, Int.reduceBEq, Int.reduceBNe, Int.reduceEq, Int.reduceNe, ne_eq, Int.reduceLT, Int.reduceLE, sFixed1, sSar, sRSar, hm, eqA_refl, hbig, Bool.false_eq_true]; (repeat refine And.intro (by first | omega | assumption | (and_intros <;> first | omega | assumption) | fail) ?_); refine hK _ ?_; clear hK K)
      | (refine T_cond rfl (fun hc => ?_) (fun hc => ?_) <;> (try simp only [cnds, reduceCtorEq] at hc) <;> (try (first | (exact hc.elim) | (exfalso; omega))))
    refine hQ _ ?_
    simp (disch := omega) only [resOk, res1, retOk, eqs, lk, look, AV.pureA, kill, AV.refs, hty, tyAll, Nat.reduceEqDiff, ↓reduceIte, reduceCtorEq, Nat.reduceLT, Nat.reduceLeDiff, Nat.reduceAdd, Nat.reduceMul, Int.reduceToNat, ne_eq, sLawU]
  · obtain ⟨N, rfl⟩ := Int.eq_ofNat_of_zero_le n0
    have hN : N ≤ 254 := by omega
    obtain ⟨k1, k2⟩ := sar_left fb.1 fb.2 hN
    rw [Int.toNat_natCast] at hm
    have hp : (0 : Int) < 2 ^ N := Int.pow_pos (by decide)
    have hpM : (2 : Int) ^ N ≤ 2 ^ 254 := ipow_le (by omega)
    have hpM2 : (2 : Int) ^ 254 < M := by decide
    have o1 : updF (fun _ => 0) 0 1 = dl 1 := one_dl
    have sh : dl (shI (dv (dl 1)) (N : Int)) = dl (2 ^ N) := by
      rw [dv_dl, show (1 : Int) % M = 1 from by decide]
      unfold shI
      rw [if_pos (by omega), Int.toNat_natCast, Int.one_mul]
    generalize hX : sarV (wv f) N = X at *
    have d1 : dv (dl (2 ^ N)) = 2 ^ N := by rw [dv_dl]; exact modM (by omega) (by omega)
    have d2 : dl (dv (dl (wv (wl X))) * 2 ^ N) = dl (X * 2 ^ N) := dl_congr (by rw [wv_wl, dv_dl, Int.emod_emod, emod_mul])
    have d3 := dvdl hf
    have d4 : dv (dl (wv f - dv (dl (X * 2 ^ N)))) = (wv f - X * 2 ^ N) % M := by rw [dv_dl, dv_dl, Int.sub_emod_emod]
    have d5 : wv (wl (dv (dl (X * 2 ^ N)))) = X * 2 ^ N % M := by rw [wv_wl, dv_dl, Int.emod_emod]
    repeat' first
      | refine T_seq' ?_
      | refine T_block ?_
      | refine n_then ?_
      | refine x_then ?_
      | refine r_then ?_
      | refine n_block ?_
      | refine r_block ?_
      | refine x_block ?_
      | refine x_block' (by rfl) ?_
      | refine T_exit ?_
      | refine T_skip ?_
      | refine T_ret ?_
      | ((first | refine T_region hE (by rfl) (fun K hK => ?_) | refine T_draw hE (by rfl) (by kernel_rfl) (fun K hK => ?_)); simp (disch := omega) only [eqs, evs, stp, stepW, wantA, opStep, kindOf, headStep, skipStep, stStep, wrStep, cpStep, stA, appA, readSl, isSl, copyA, kill, AV.refs, hd, hdLoad, hdBin, intBin, hdUn, hdConv, hdIdxAddr, hdIdx, hdSlice, bnd, hdCall, hdCallF, hdLen, hdMin, argsA, mapA, partsOk, partsF, lk, look, addR, evA, constA, HOut.ok, hty, hfs, tyAll, List.map, List.all, List.getElem?_cons_zero, List.getElem?_cons_succ, Option.bind_some, Option.map_some, Option.map_none, Option.getD_some, AV.pureA, Nat.reduceEqDiff, ↓reduceIte, reduceCtorEq, Nat.reduceLT, Nat.reduceLeDiff, Nat.reduceAdd, Nat.reduceMul, Int.reduceToNat, IntKind.bits, BEq.rfl, beq_self_eq_true, bne_self_eq_false, Int.reduceBEq, Int.reduceBNe, Int.reduceEq, Int.reduceNe, ne_eq, Int.reduceLT, Int.reduceLE, sFixed1, sSar, sRSar, hX, hm, eqA_refl, hbig, Bool.false_eq_true, o1, sRShift, sh, D_dl, sROf, W_wl, sRMul, d1, d2, sRSub, d3, d4, sRCompare, cmp_lt, k1, sRWord, sSLess, d5, k2]; (repeat refine And.intro (by first | omega | assumption | (and_intros <;> first | omega | assumption) | fail) ?_); refine hK _ ?_; clear hK K)
      | (refine T_cond rfl (fun hc => ?_) (fun hc => ?_) <;> (try simp only [cnds, reduceCtorEq] at hc) <;> (try (first | (exact hc.elim) | (exfalso; omega))))
    refine hQ _ ?_
    simp (disch := omega) only [resOk, res1, retOk, eqs, lk, look, AV.pureA, kill, AV.refs, hty, tyAll, Nat.reduceEqDiff, ↓reduceIte, reduceCtorEq, Nat.reduceLT, Nat.reduceLeDiff, Nat.reduceAdd, Nat.reduceMul, Int.reduceToNat, ne_eq, sLawU]

end Go.Proofs.Ytijoifajbmhgdaa.Sym
