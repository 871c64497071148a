/- Quotients of words. -/
import Derived.Test.YtijoifajbmhgdaaGreatVa
namespace Go.Proofs.YtijoifajbmhgdaaGreat.Sym
set_option linter.unusedVariables false
open Go Go.RowKit Num
set_option maxRecDepth 10000
set_option linter.unusedSimpArgs false

/-- One digit of a quotient, to any base. -/
theorem div_digitB {B F G X c : Int} {i : Nat} (hB : 0 < B) (hG : 0 < G) (h : X + c * G = dig B F i + B * (F / B ^ (i + 1) % G)) (h0 : 0 ≤ X) (h1 : X < G) : F / B ^ i % G = X ∧ dig B (F / G) i = c ∧ F / B ^ i / G = B * (F / B ^ (i + 1) / G) + c := by
  have hp : (0 : Int) < B ^ i := Int.pow_pos hB
  have e1 : F / B ^ (i + 1) = F / B ^ i / B := by rw [Int.pow_succ, Int.ediv_ediv_of_nonneg (by omega)]
  have e2 : F / G / B ^ i = F / B ^ i / G := by rw [Int.ediv_ediv_of_nonneg (by omega), Int.ediv_ediv_of_nonneg (by omega), Int.mul_comm]
  unfold dig at h ⊢
  rw [e2]
  rw [e1] at h ⊢
  generalize F / B ^ i = A at *
  have a1 := Int.mul_ediv_add_emod A B
  have a2 := Int.mul_ediv_add_emod (A / B) G
  have r1 := Int.emod_nonneg A (show B ≠ 0 by omega)
  have r2 := Int.emod_lt_of_pos A hB
  have r3 := Int.emod_nonneg (A / B) (show G ≠ 0 by omega)
  have r4 := Int.emod_lt_of_pos (A / B) hG
  generalize A % B = d at *
  generalize A / B % G = R at *
  generalize A / B / G = q at *
  generalize A / B = A' at *
  have hu := (Int.ediv_emod_unique (a := A) (b := G) (r := X) (q := B * q + c) hG).2 ⟨by grind, h0, h1⟩
  have hBR : B * R ≤ B * (G - 1) := Int.mul_le_mul_of_nonneg_left (by omega) (by omega)
  have hBR0 : 0 ≤ B * R := Int.mul_nonneg (by omega) r3
  rw [Int.mul_sub, Int.mul_one] at hBR
  have c0 : -1 < c := by
    have : (-1) * G < c * G := by omega
    exact Int.lt_of_mul_lt_mul_right this (by omega)
  have c1 : c < B := by
    have : c * G < B * G := by omega
    exact Int.lt_of_mul_lt_mul_right this (by omega)
  rw [hu.1, hu.2]
  exact ⟨rfl, by rw [Int.add_comm, Int.add_mul_emod_self_left, Int.emod_eq_of_lt (by omega) c1], rfl⟩

/-! ### By a limb -/
def sShort : List AV → SOut
  | [.arr .u64 4 f, .int .u64 y] => ⟨W f ∧ 0 < y ∧ y < 18446744073709551616, .pair (.arr .u64 4 (wl (wv f / y))) (.arr .u64 4 (wl (wv f % y)))⟩
  | _ => ⟨False, .und⟩
theorem c_short64 : Contract Tryz.prog 95 sShort := by
  refine fun_ok [(103, sDiv64), (94, sOf)] ⟨c_Div64, c_Of, trivial⟩ Tryz.func95 rfl (by kernel_rfl) Tryz.ntmps95 Tryz.results95 (fun E hE hty hfs xs hp => ?_)
  unfold sShort at hp
  split at hp
  case h_2 => exact hp.elim
  rename_i f y
  obtain ⟨hf, y0, y1⟩ := hp
  have hp : True := trivial
  have fb := wv_bd hf
  have fdig : ∀ j, j < 4 → f j = dig B64 (wv f) j := fun j hj => (dig_wsum B64_pos hf hj).symm
  refine ⟨by simp, fun Q hQ => ?_⟩
  simp only [params, Nat.reduceAdd]
  generalize hF : wv f = F at *
  have hRb : ∀ i : Nat, 0 ≤ F / B64 ^ i % y ∧ F / B64 ^ i % y < y := fun i => ⟨Int.emod_nonneg _ (by omega), Int.emod_lt_of_pos _ y0⟩
  repeat' first
    | refine T_seq' ?_
    | refine T_block ?_
    | refine n_then ?_
    | refine x_then ?_
    | refine r_then ?_
    | refine n_block ?_
    | refine r_block ?_
    | refine x_block ?_
    | refine x_block' (by rfl) ?_
    | refine T_exit ?_
    | refine T_skip ?_
    | refine T_ret ?_
    | ((first | refine T_region hE (by rfl) (fun K hK => ?_) | refine T_draw hE (by rfl) (by kernel_rfl) (fun K hK => ?_)); simp (disch := omega) only [eqs, evs, stp, stepW, wantA, opStep, kindOf, headStep, skipStep, stStep, wrStep, cpStep, stA, appA, readSl, isSl, copyA, kill, AV.refs, hd, hdLoad, hdBin, intBin, hdUn, hdConv, hdIdxAddr, hdIdx, hdSlice, bnd, hdCall, hdCallF, hdLen, hdMin, argsA, mapA, partsOk, partsF, lk, look, addR, evA, constA, HOut.ok, hty, hfs, tyAll, List.map, List.all, List.getElem?_cons_zero, List.getElem?_cons_succ, Option.bind_some, Option.map_some, Option.map_none, Option.getD_some, AV.pureA, Nat.reduceEqDiff, ↓reduceIte, reduceCtorEq, Nat.reduceLT, Nat.reduceLeDiff, Nat.reduceAdd, Nat.reduceMul, Int.reduceToNat, IntKind.bits, BEq.rfl, beq_self_eq_true, bne_self_eq_false, Int.reduceBEq, Int.reduceBNe, Int.reduceEq, Int.reduceNe, ne_eq, Int.reduceLT, Int.reduceLE]; (repeat refine And.intro (by first | omega | assumption | (and_intros <;> first | omega | assumption) | fail) ?_); refine hK _ ?_; clear hK K)
    | (refine T_cond rfl (fun hc => ?_) (fun hc => ?_) <;> (try simp only [cnds, reduceCtorEq] at hc) <;> (try (first | (exact hc.elim) | (exfalso; omega))))
  refine T_for (ι := Nat × (Nat → Int)) (fun i => ⟨[(1, .int .u64 y), (2, .elt 2 0), (4, .elt 4 0), (5, .elt 5 0), (6, .elt 6 0), (7, .int .u64 (F / B64 ^ i.1 % y)), (8, .int .i64 ((i.1 : Int) - 1))], [(2, ⟨.u64, 4, f⟩), (4, ⟨.u64, 4, fun _ => 0⟩), (5, ⟨.u64, 4, fun _ => 0⟩), (6, ⟨.u64, 4, i.2⟩)]⟩)
    (fun i => i.1 ≤ 4 ∧ ∀ j, i.1 ≤ j → j < 4 → i.2 j = dig B64 (F / y) j) (fun i => i.1)
    ⟨(4, fun _ => 0), ⟨by simp, fun j h1 h2 => by simp only at h1; omega⟩, ?_⟩ (fun i hi => ?_)
  · have hz : F / B64 ^ 4 % y = 0 := by rw [B64_pow4, Int.ediv_eq_zero_of_lt fb.1 fb.2, Int.zero_emod]
    (simp (disch := omega) only [Le, AllF, AllR, slotLe, rowLe, refsIn, Option.isSome_some, implies_true, forall_const, AV.int.injEq, AV.bool.injEq, AV.elt.injEq, Int.natCast_add, Int.cast_ofNat_Int, eqs, lk, look, AV.pureA, kill, AV.refs, hty, tyAll, Nat.reduceEqDiff, ↓reduceIte, reduceCtorEq, Nat.reduceLT, Nat.reduceLeDiff, Nat.reduceAdd, Nat.reduceMul, Int.reduceToNat, ne_eq, hz] <;> repeat' (first | rfl | apply And.intro | omega))
  · obtain ⟨i, q⟩ := i
    obtain ⟨h0, hq⟩ := hi
    simp only at h0 hq ⊢
    have hR0 := hRb 0
    have e : F / B64 ^ 0 % y = F % y := by rw [Int.pow_zero, Int.ediv_one]
    cases i with
    | zero =>
      rw [e] at hR0 ⊢
      repeat' first
        | refine T_seq' ?_
        | refine T_block ?_
        | refine n_then ?_
        | refine x_then ?_
        | refine r_then ?_
        | refine n_block ?_
        | refine r_block ?_
        | refine x_block ?_
        | refine x_block' (by rfl) ?_
        | refine T_exit ?_
        | refine T_skip ?_
        | refine T_ret ?_
        | ((first | refine T_region hE (by rfl) (fun K hK => ?_) | refine T_draw hE (by rfl) (by kernel_rfl) (fun K hK => ?_)); simp (disch := omega) only [eqs, evs, stp, stepW, wantA, opStep, kindOf, headStep, skipStep, stStep, wrStep, cpStep, stA, appA, readSl, isSl, copyA, kill, AV.refs, hd, hdLoad, hdBin, intBin, hdUn, hdConv, hdIdxAddr, hdIdx, hdSlice, bnd, hdCall, hdCallF, hdLen, hdMin, argsA, mapA, partsOk, partsF, lk, look, addR, evA, constA, HOut.ok, hty, hfs, tyAll, List.map, List.all, List.getElem?_cons_zero, List.getElem?_cons_succ, Option.bind_some, Option.map_some, Option.map_none, Option.getD_some, AV.pureA, Nat.reduceEqDiff, ↓reduceIte, reduceCtorEq, Nat.reduceLT, Nat.reduceLeDiff, Nat.reduceAdd, Nat.reduceMul, Int.reduceToNat, IntKind.bits, BEq.rfl, beq_self_eq_true, bne_self_eq_false, Int.reduceBEq, Int.reduceBNe, Int.reduceEq, Int.reduceNe, ne_eq, Int.reduceLT, Int.reduceLE, sOf]; (repeat refine And.intro (by first | omega | assumption | (and_intros <;> first | omega | assumption) | fail) ?_); refine hK _ ?_; clear hK K)
        | (refine T_cond rfl (fun hc => ?_) (fun hc => ?_) <;> (try simp only [cnds, reduceCtorEq] at hc) <;> (try (first | (exact hc.elim) | (exfalso; omega))))
      refine hQ _ ?_
      simp (disch := omega) only [resOk, res1, retOk, eqs, lk, look, AV.pureA, kill, AV.refs, hty, tyAll, Nat.reduceEqDiff, ↓reduceIte, reduceCtorEq, Nat.reduceLT, Nat.reduceLeDiff, Nat.reduceAdd, Nat.reduceMul, Int.reduceToNat, ne_eq, sShort]
      rw [hF]
      refine ⟨fun j hj => ?_, fun j hj => rfl⟩
      rw [hq j (by omega) hj]
      unfold wl
      have : 0 ≤ F / y ∧ F / y < M := ⟨Int.ediv_nonneg fb.1 (by omega), Int.lt_of_le_of_lt (Int.ediv_le_self _ fb.1) fb.2⟩
      rw [Int.emod_eq_of_lt this.1 this.2]
    | succ i =>
      have e0 : (((i + 1 : Nat) : Int) - 1) = i := by omega
      rw [e0]
      have hR := hRb (i + 1)
      have hRi := hRb i
      have fi := W_U hf i (by omega)
      unfold U at fi
      have hfi := fdig i (by omega)
      have h1 : (i : Int) < 4 := by omega
      obtain ⟨R, hRe⟩ : ∃ R, F / B64 ^ (i + 1) % y = R := ⟨_, rfl⟩
      rw [hRe] at hR ⊢
      have key := Int.mul_ediv_add_emod (R * 18446744073709551616 + f i) y
      have hdv := div_digitB (B := B64) (F := F) (G := y) (i := i) (X := (R * 18446744073709551616 + f i) % y) (c := (R * 18446744073709551616 + f i) / y) B64_pos y0
        (by rw [hRe, ← hfi, Int.mul_comm _ y]; unfold B64; omega) (Int.emod_nonneg _ (by omega)) (Int.emod_lt_of_pos _ y0)
      have hR' : 0 ≤ R ∧ R < 18446744073709551616 := by omega
      repeat' first
        | refine T_seq' ?_
        | refine T_block ?_
        | refine n_then ?_
        | refine x_then ?_
        | refine r_then ?_
        | refine n_block ?_
        | refine r_block ?_
        | refine x_block ?_
        | refine x_block' (by rfl) ?_
        | refine T_exit ?_
        | refine T_skip ?_
        | refine T_ret ?_
        | ((first | refine T_region hE (by rfl) (fun K hK => ?_) | refine T_draw hE (by rfl) (by kernel_rfl) (fun K hK => ?_)); simp (disch := omega) only [eqs, evs, stp, stepW, wantA, opStep, kindOf, headStep, skipStep, stStep, wrStep, cpStep, stA, appA, readSl, isSl, copyA, kill, AV.refs, hd, hdLoad, hdBin, intBin, hdUn, hdConv, hdIdxAddr, hdIdx, hdSlice, bnd, hdCall, hdCallF, hdLen, hdMin, argsA, mapA, partsOk, partsF, lk, look, addR, evA, constA, HOut.ok, hty, hfs, tyAll, List.map, List.all, List.getElem?_cons_zero, List.getElem?_cons_succ, Option.bind_some, Option.map_some, Option.map_none, Option.getD_some, AV.pureA, Nat.reduceEqDiff, ↓reduceIte, reduceCtorEq, Nat.reduceLT, Nat.reduceLeDiff, Nat.reduceAdd, Nat.reduceMul, Int.reduceToNat, IntKind.bits, BEq.rfl, beq_self_eq_true, bne_self_eq_false, Int.reduceBEq, Int.reduceBNe, Int.reduceEq, Int.reduceNe, ne_eq, Int.reduceLT, Int.reduceLE, sDiv64]; (repeat refine And.intro (by first | omega | assumption | (and_intros <;> first | omega | assumption) | fail) ?_); refine hK _ ?_; clear hK K)
        | (refine T_cond rfl (fun hc => ?_) (fun hc => ?_) <;> (try simp only [cnds, reduceCtorEq] at hc) <;> (try (first | (exact hc.elim) | (exfalso; omega))))
      refine ⟨(i, updF q i ((R * 18446744073709551616 + f i) / y)), ⟨by simp only; omega, fun t t1 t2 => ?_⟩, by simp only; omega, ?_⟩
      · simp only at t1 ⊢
        by_cases e : i = t
        · subst e; rw [updF_same, hdv.2.1]
        · rw [updF_ne _ _ e]; exact hq t (by omega) t2
      · rw [← hdv.1] 
        (simp (disch := omega) only [Le, AllF, AllR, slotLe, rowLe, refsIn, Option.isSome_some, implies_true, forall_const, AV.int.injEq, AV.bool.injEq, AV.elt.injEq, Int.natCast_add, Int.cast_ofNat_Int, eqs, lk, look, AV.pureA, kill, AV.refs, hty, tyAll, Nat.reduceEqDiff, ↓reduceIte, reduceCtorEq, Nat.reduceLT, Nat.reduceLeDiff, Nat.reduceAdd, Nat.reduceMul, Int.reduceToNat, ne_eq] <;> repeat' (first | rfl | apply And.intro | omega))

/-! ### By a word -/
theorem eqA_zero {f : Nat → Int} (h : W f) : eqA 4 f (fun _ => 0) = decide (wv f = 0) := by
  by_cases hz : wv f = 0
  · rw [decide_eq_true hz]
    exact eqA_eq.2 fun j hj => by
      have := dig_wsum B64_pos h hj
      rw [show wsum B64 f 4 = 0 from hz] at this
      rw [← this]
      exact dig_zero B64_pos (by decide) (Int.pow_pos B64_pos)
  · rw [decide_eq_false hz]
    rcases Bool.eq_false_or_eq_true (eqA 4 f fun _ => 0) with k | k
    · exact absurd (wsum_zero (eqA_eq.1 k)) hz
    · exact k
theorem lt_bl {a : Int} (h : 0 ≤ a) : a < 2 ^ (bl a).toNat := by
  rcases Int.lt_or_le a (2 ^ (bl a).toNat) with k | k
  · exact k
  · have := bl_ge k
    have := bl_nn a
    omega
/-- One bit of a quotient. -/
theorem half_step {F G : Int} {i : Nat} (hG : 0 < G) : F / 2 ^ i % G = stV (F / 2 ^ (i + 1) % G) G (decide (dig 2 F i = 1)) ∧ F / 2 ^ i / G = 2 * (F / 2 ^ (i + 1) / G) + (if G ≤ 2 * (F / 2 ^ (i + 1) % G) + bI (decide (dig 2 F i = 1)) then 1 else 0) := by
  have hb : bI (decide (dig 2 F i = 1)) = dig 2 F i := by
    have := dig_bd (B := 2) (by decide) F i
    unfold bI
    by_cases h : dig 2 F i = 1
    · simp [h]
    · rw [decide_eq_false h, if_neg (by decide)]; omega
  have r0 := Int.emod_nonneg (F / 2 ^ (i + 1)) (show G ≠ 0 by omega)
  have r1 := Int.emod_lt_of_pos (F / 2 ^ (i + 1)) hG
  have d := dig_bd (B := 2) (by decide) F i
  unfold stV
  rw [hb]
  by_cases h : G ≤ 2 * (F / 2 ^ (i + 1) % G) + dig 2 F i
  · rw [if_pos h, if_pos h]
    have := div_digitB (B := 2) (F := F) (G := G) (i := i) (X := 2 * (F / 2 ^ (i + 1) % G) + dig 2 F i - G) (c := 1) (by decide) hG (by omega) (by omega) (by omega)
    exact ⟨this.1, this.2.2⟩
  · rw [if_neg h, if_neg h]
    have := div_digitB (B := 2) (F := F) (G := G) (i := i) (X := 2 * (F / 2 ^ (i + 1) % G) + dig 2 F i) (c := 0) (by decide) hG (by omega) (by omega) (by omega)
    exact ⟨this.1, this.2.2⟩
theorem shl_one {n : Nat} (hn : n < 64) : IntKind.u64.wrap (1 * 2 ^ n) = 2 ^ n := by
  rw [Int.one_mul]
  have h1 : (2 : Int) ^ n ≤ 2 ^ 63 := ipow_le (by omega)
  exact wrap_u64' (Int.pow_nonneg (by decide)) (by omega)

end Go.Proofs.YtijoifajbmhgdaaGreat.Sym
