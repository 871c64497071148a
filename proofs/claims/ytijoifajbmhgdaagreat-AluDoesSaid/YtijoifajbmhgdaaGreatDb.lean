/- Go's quotient of a number of 128 bits: the walk. -/
import Derived.Test.YtijoifajbmhgdaaGreatDa
import Derived.Test.YtijoifajbmhgdaaGreatNb
import Derived.Test.YtijoifajbmhgdaaGreatWf
namespace Go.Proofs.YtijoifajbmhgdaaGreat.Sym
set_option linter.unusedVariables false
open Go Go.RowKit Num
set_option maxRecDepth 10000
set_option linter.unusedSimpArgs false

def sDiv64 : List AV → SOut
  | [.int .u64 h, .int .u64 l, .int .u64 y] => ⟨U h ∧ U l ∧ U y ∧ h < y, .pair (.int .u64 ((h * 18446744073709551616 + l) / y)) (.int .u64 ((h * 18446744073709551616 + l) % y))⟩
  | _ => ⟨False, .und⟩

theorem or_low {x y : Int} {n : Nat} (hx : U x) (hy0 : 0 ≤ y) (hy : y < 2 ^ n) (hxd : x % 2 ^ n = 0) (hyU : U y) : bitsA .or .u64 x y = x + y := by
  have hp : (0 : Int) < 2 ^ n := Int.pow_pos (by decide)
  have e := Int.mul_ediv_add_emod x (2 ^ n)
  rw [bitsA_or hx.1 hx.2 hyU.1 hyU.2]
  have hk : 0 ≤ x / 2 ^ n := Int.ediv_nonneg hx.1 (by omega)
  obtain ⟨k, hk⟩ := Int.eq_ofNat_of_zero_le hk
  obtain ⟨b, rfl⟩ := Int.eq_ofNat_of_zero_le hy0
  have hx' : x = ((2 ^ n * k : Nat) : Int) := by rw [← e, hxd, hk]; simp
  have hb : b < 2 ^ n := by
    have : ((2 ^ n : Nat) : Int) = 2 ^ n := by simp
    omega
  rw [hx', Int.toNat_natCast, Int.toNat_natCast, ← Nat.two_pow_add_eq_or_of_lt hb]
  simp

set_option maxHeartbeats 1000000 in
theorem c_Div64 : Contract Tryz.prog 103 sDiv64 := by
  refine fun_ok [(105, sLZ)] ⟨c_LZ, trivial⟩ Tryz.func103 rfl (by kernel_rfl) Tryz.ntmps103 Tryz.results103 (fun E hE hty hfs xs hp => ?_)
  unfold sDiv64 at hp
  split at hp
  case h_2 => exact hp.elim
  rename_i h l y
  obtain ⟨⟨h0, h1⟩, ⟨l0, l1⟩, ⟨y0, y1⟩, hy⟩ := hp
  refine ⟨by simp, fun Q hQ => ?_⟩
  simp only [params, Nat.reduceAdd]
  have ly : 0 ≤ l / y ∧ l / y < 18446744073709551616 := ⟨Int.ediv_nonneg l0 y0, Int.lt_of_le_of_lt (Int.ediv_le_self _ l0) l1⟩
  by_cases hz : h = 0
  · subst hz
    repeat' first
      | refine T_seq' ?_
      | refine T_block ?_
      | refine n_then ?_
      | refine x_then ?_
      | refine r_then ?_
      | refine n_block ?_
      | refine r_block ?_
      | refine x_block ?_
      | refine x_block' (by rfl) ?_
      | refine T_exit ?_
      | refine T_skip ?_
      | refine T_ret ?_
      | ((first | refine T_region hE (by rfl) (fun K hK => ?_) | refine T_draw hE (by rfl) (by kernel_rfl) (fun K hK => ?_)); simp (disch := omega) only [eqs, evs, stp, stepW, wantA, opStep, kindOf, headStep, skipStep, stStep, wrStep, cpStep, stA, appA, readSl, isSl, copyA, kill, AV.refs, hd, hdLoad, hdBin, intBin, hdUn, hdConv, hdIdxAddr, hdIdx, hdSlice, bnd, hdCall, hdCallF, hdLen, hdMin, argsA, mapA, partsOk, partsF, lk, look, addR, evA, constA, HOut.ok, hty, hfs, tyAll, List.map, List.all, List.getElem?_cons_zero, List.getElem?_cons_succ, Option.bind_some, Option.map_some, Option.map_none, Option.getD_some, AV.pureA, Nat.reduceEqDiff, ↓reduceIte, reduceCtorEq, Nat.reduceLT, Nat.reduceLeDiff, Nat.reduceAdd, Nat.reduceMul, Int.reduceToNat, IntKind.bits, BEq.rfl, beq_self_eq_true, bne_self_eq_false, Int.reduceBEq, Int.reduceBNe, Int.reduceEq, Int.reduceNe, ne_eq, Int.reduceLT, Int.reduceLE]; (repeat refine And.intro (by first | omega | assumption | (and_intros <;> first | omega | assumption) | fail) ?_); refine hK _ ?_; clear hK K)
      | (refine T_cond rfl (fun hc => ?_) (fun hc => ?_) <;> (try simp only [cnds, reduceCtorEq] at hc) <;> (try (first | (exact hc.elim) | (exfalso; omega))))
    refine hQ _ ?_
    simp (disch := omega) only [resOk, res1, retOk, eqs, lk, look, AV.pureA, kill, AV.refs, hty, tyAll, Nat.reduceEqDiff, ↓reduceIte, reduceCtorEq, Nat.reduceLT, Nat.reduceLeDiff, Nat.reduceAdd, Nat.reduceMul, Int.reduceToNat, ne_eq, sDiv64]
    rw [Int.zero_mul, Int.zero_add]
    exact ⟨rfl, rfl⟩
  have b1 := bl_pos (a := y) (by omega)
  have b2 := bl_le (n := 64) y0 (by omega)
  obtain ⟨s, hs⟩ : ∃ s : Nat, 64 - bl y = (s : Int) := ⟨(64 - bl y).toNat, by omega⟩
  have hs63 : s ≤ 63 := by omega
  have hp : (0 : Int) < 2 ^ s := Int.pow_pos (by decide)
  have hpt : (0 : Int) < 2 ^ (64 - s) := Int.pow_pos (by decide)
  have hst : (2 : Int) ^ s * 2 ^ (64 - s) = 18446744073709551616 := by rw [← Int.pow_add, show s + (64 - s) = 64 from by omega]; decide
  have hsu : (2 : Int) ^ s * 2 ^ (63 - s) = 9223372036854775808 := by rw [← Int.pow_add, show s + (63 - s) = 63 from by omega]; decide
  have yhi : y < 2 ^ (64 - s) := by
    rcases Int.lt_or_le y (2 ^ (64 - s)) with k | k
    · exact k
    · have := bl_ge k; omega
  have ylo : 2 ^ (63 - s) ≤ y := by
    rcases Int.lt_or_le y (2 ^ (63 - s)) with k | k
    · have := bl_le y0 k; omega
    · exact k
  obtain ⟨Y, hY⟩ : ∃ Y, Y = y * 2 ^ s := ⟨_, rfl⟩
  have Yhi : Y < 18446744073709551616 := by rw [hY, ← hst, Int.mul_comm]; exact Int.mul_lt_mul_of_pos_left yhi hp
  have Ylo : 9223372036854775808 ≤ Y := by rw [hY, ← hsu, Int.mul_comm]; exact Int.mul_le_mul_of_nonneg_right ylo (by omega)
  obtain ⟨H, hH⟩ : ∃ H, H = h * 2 ^ s := ⟨_, rfl⟩
  have Hb : 0 ≤ H ∧ H + 2 ^ s ≤ Y := by
    rw [hH, hY]
    have := Int.mul_le_mul_of_nonneg_right (show h + 1 ≤ y by omega) (show (0 : Int) ≤ 2 ^ s by omega)
    rw [Int.add_mul, Int.one_mul] at this
    exact ⟨Int.mul_nonneg h0 (by omega), this⟩
  obtain ⟨t, ht⟩ : ∃ t, t = l / 2 ^ (64 - s) := ⟨_, rfl⟩
  have tb : 0 ≤ t ∧ t < 2 ^ s := by
    rw [ht]; exact ⟨Int.ediv_nonneg l0 (by omega), Int.ediv_lt_of_lt_mul hpt (by rw [hst]; exact l1)⟩
  have eY : IntKind.u64.wrap (y * 2 ^ s) = Y := by rw [← hY]; exact wrap_u64' (by omega) (by omega)
  have eH : IntKind.u64.wrap (h * 2 ^ s) = H := by rw [← hH]; exact wrap_u64' (by omega) (by omega)
  obtain ⟨u, hu⟩ : ∃ u, u = H + t := ⟨_, rfl⟩
  have eU : bitsA .or .u64 H t = u := by
    rw [hu]; exact or_low (n := s) ⟨by omega, by omega⟩ tb.1 tb.2 (by rw [hH]; exact Int.mul_emod_left _ _) ⟨by omega, by omega⟩
  obtain ⟨e, he⟩ : ∃ e, e = l * 2 ^ s % 18446744073709551616 := ⟨_, rfl⟩
  have eE : IntKind.u64.wrap (l * 2 ^ s) = e := by rw [he]; exact wrap_u64 _
  have eb : 0 ≤ e ∧ e < 18446744073709551616 := by omega
  have e64 : (64 - (s : Int)).toNat = 64 - s := by omega
  obtain ⟨d1, hd1⟩ : ∃ d1, d1 = e / 4294967296 := ⟨_, rfl⟩
  obtain ⟨d0, hd0⟩ : ∃ d0, d0 = e % 4294967296 := ⟨_, rfl⟩
  obtain ⟨a, ha⟩ : ∃ a, a = Y / 4294967296 := ⟨_, rfl⟩
  obtain ⟨b, hb⟩ : ∃ b, b = Y % 4294967296 := ⟨_, rfl⟩
  have hYab : Y = a * 4294967296 + b := by omega
  have hA : 2147483648 ≤ a ∧ a < 4294967296 := by omega
  have hB : 0 ≤ b ∧ b < 4294967296 := by omega
  have hD1 : 0 ≤ d1 ∧ d1 < 4294967296 := by omega
  have hD0 : 0 ≤ d0 ∧ d0 < 4294967296 := by omega
  have hU : 0 ≤ u ∧ u < Y := by omega
  have Y0 : 0 < Y := by omega
  have k1 := kn_start hYab hA.1 hA.2 hB.1 hB.2 hU.1 hU.2 hD1.1 hD1.2
  have f1 := kn_first hYab hA.1 hB.2 hU.1 hU.2
  have k2 : 0 ≤ u / a * a ∧ u / a * a ≤ u := ⟨Int.mul_nonneg f1.1 (by omega), by obtain ⟨p1, p2, p3, p4⟩ := k1; omega⟩
  have q1b := kn_lt hU.1 hU.2 hD1.1 hD1.2
  have ar := kn_rest (u := u) (d := d1) Y0 Yhi
  repeat' first
    | refine T_seq' ?_
    | refine T_block ?_
    | refine n_then ?_
    | refine x_then ?_
    | refine r_then ?_
    | refine n_block ?_
    | refine r_block ?_
    | refine x_block ?_
    | refine x_block' (by rfl) ?_
    | refine T_exit ?_
    | refine T_skip ?_
    | refine T_ret ?_
    | ((first | refine T_region hE (by rfl) (fun K hK => ?_) | refine T_draw hE (by rfl) (by kernel_rfl) (fun K hK => ?_)); simp (disch := omega) only [eqs, evs, stp, stepW, wantA, opStep, kindOf, headStep, skipStep, stStep, wrStep, cpStep, stA, appA, readSl, isSl, copyA, kill, AV.refs, hd, hdLoad, hdBin, intBin, hdUn, hdConv, hdIdxAddr, hdIdx, hdSlice, bnd, hdCall, hdCallF, hdLen, hdMin, argsA, mapA, partsOk, partsF, lk, look, addR, evA, constA, HOut.ok, hty, hfs, tyAll, List.map, List.all, List.getElem?_cons_zero, List.getElem?_cons_succ, Option.bind_some, Option.map_some, Option.map_none, Option.getD_some, AV.pureA, Nat.reduceEqDiff, ↓reduceIte, reduceCtorEq, Nat.reduceLT, Nat.reduceLeDiff, Nat.reduceAdd, Nat.reduceMul, Int.reduceToNat, IntKind.bits, BEq.rfl, beq_self_eq_true, bne_self_eq_false, Int.reduceBEq, Int.reduceBNe, Int.reduceEq, Int.reduceNe, ne_eq, Int.reduceLT, Int.reduceLE, sLZ, hs, eY, eH, ← ht, eU, eE, e64, and_mask32, Int.reducePow, ← hd1, ← hd0, ← ha, ← hb]; (repeat refine And.intro (by first | omega | assumption | (and_intros <;> first | omega | assumption) | fail) ?_); refine hK _ ?_; clear hK K)
    | (refine T_cond rfl (fun hc => ?_) (fun hc => ?_) <;> (try simp only [cnds, reduceCtorEq] at hc) <;> (try (first | (exact hc.elim) | (exfalso; omega))))
  obtain ⟨q1, hq1⟩ : ∃ q1, q1 = (u * 4294967296 + d1) / Y := ⟨_, rfl⟩
  rw [← hq1] at q1b
  refine Tri.mono (Q := fun e σ' => e = .exit 0 ∧ Le σ' ⟨[(2, .int .u64 Y), (8, .int .u64 s), (9, .int .u64 a), (10, .int .u64 b), (11, .int .u64 u), (13, .int .u64 d1), (14, .int .u64 d0), (15, .int .u64 q1)], []⟩) ?_ (fun e σ' h => ?_)
  · refine T_for (ι := Int × Int) (fun i => ⟨[(2, .int .u64 Y), (8, .int .u64 s), (9, .int .u64 a), (10, .int .u64 b), (11, .int .u64 u), (13, .int .u64 d1), (14, .int .u64 d0), (15, .int .u64 i.1), (16, .int .u64 i.2)], []⟩)
      (fun i => KnI Y a u d1 i.1 i.2) (fun i => i.1.toNat) ⟨(u / a, u - u / a * a), k1, ?_⟩ (fun i hi => ?_)
    · (simp (disch := omega) only [Le, AllF, AllR, slotLe, rowLe, refsIn, Option.isSome_some, implies_true, forall_const, AV.int.injEq, AV.bool.injEq, AV.elt.injEq, Int.natCast_add, Int.cast_ofNat_Int, eqs, lk, look, AV.pureA, kill, AV.refs, hty, tyAll, Nat.reduceEqDiff, ↓reduceIte, reduceCtorEq, Nat.reduceLT, Nat.reduceLeDiff, Nat.reduceAdd, Nat.reduceMul, Int.reduceToNat, ne_eq] <;> repeat' (first | rfl | apply And.intro | omega))
    · obtain ⟨q, r⟩ := i
      obtain ⟨i1, i2, i3, i4, i5, i6⟩ := hi
      simp only at i1 i2 i3 i4 i5 i6 ⊢
      rw [← hq1] at i4
      by_cases c1 : 4294967296 ≤ q
      · have hge : q1 ≤ q - 1 := by omega
        by_cases c3 : 4294967296 ≤ r + a
        · have km := kn_mul (B := 0) (q := q - 1) (b := b) (by omega) (by omega) hB.1 hB.2
          have hle := kn_le (u := u) (q := q - 1) (r := r + a) (d := d1) hYab Y0 (by rw [← i1]; grind) (by omega)
          rw [← hq1] at hle
          obtain rfl : q - 1 = q1 := by omega
          repeat' first
            | refine T_seq' ?_
            | refine T_block ?_
            | refine n_then ?_
            | refine x_then ?_
            | refine r_then ?_
            | refine n_block ?_
            | refine r_block ?_
            | refine x_block ?_
            | refine x_block' (by rfl) ?_
            | refine T_exit ?_
            | refine T_skip ?_
            | refine T_ret ?_
            | ((first | refine T_region hE (by rfl) (fun K hK => ?_) | refine T_draw hE (by rfl) (by kernel_rfl) (fun K hK => ?_)); simp (disch := omega) only [eqs, evs, stp, stepW, wantA, opStep, kindOf, headStep, skipStep, stStep, wrStep, cpStep, stA, appA, readSl, isSl, copyA, kill, AV.refs, hd, hdLoad, hdBin, intBin, hdUn, hdConv, hdIdxAddr, hdIdx, hdSlice, bnd, hdCall, hdCallF, hdLen, hdMin, argsA, mapA, partsOk, partsF, lk, look, addR, evA, constA, HOut.ok, hty, hfs, tyAll, List.map, List.all, List.getElem?_cons_zero, List.getElem?_cons_succ, Option.bind_some, Option.map_some, Option.map_none, Option.getD_some, AV.pureA, Nat.reduceEqDiff, ↓reduceIte, reduceCtorEq, Nat.reduceLT, Nat.reduceLeDiff, Nat.reduceAdd, Nat.reduceMul, Int.reduceToNat, IntKind.bits, BEq.rfl, beq_self_eq_true, bne_self_eq_false, Int.reduceBEq, Int.reduceBNe, Int.reduceEq, Int.reduceNe, ne_eq, Int.reduceLT, Int.reduceLE, c1, c3]; (repeat refine And.intro (by first | omega | assumption | (and_intros <;> first | omega | assumption) | fail) ?_); refine hK _ ?_; clear hK K)
            | (refine T_cond rfl (fun hc => ?_) (fun hc => ?_) <;> (try simp only [cnds, reduceCtorEq] at hc) <;> (try (first | (exact hc.elim) | (exfalso; omega))))
          refine ⟨rfl, ?_⟩
          (simp (disch := omega) only [Le, AllF, AllR, slotLe, rowLe, refsIn, Option.isSome_some, implies_true, forall_const, AV.int.injEq, AV.bool.injEq, AV.elt.injEq, Int.natCast_add, Int.cast_ofNat_Int, eqs, lk, look, AV.pureA, kill, AV.refs, hty, tyAll, Nat.reduceEqDiff, ↓reduceIte, reduceCtorEq, Nat.reduceLT, Nat.reduceLeDiff, Nat.reduceAdd, Nat.reduceMul, Int.reduceToNat, ne_eq] <;> repeat' (first | rfl | apply And.intro | omega))
        · repeat' first
            | refine T_seq' ?_
            | refine T_block ?_
            | refine n_then ?_
            | refine x_then ?_
            | refine r_then ?_
            | refine n_block ?_
            | refine r_block ?_
            | refine x_block ?_
            | refine x_block' (by rfl) ?_
            | refine T_exit ?_
            | refine T_skip ?_
            | refine T_ret ?_
            | ((first | refine T_region hE (by rfl) (fun K hK => ?_) | refine T_draw hE (by rfl) (by kernel_rfl) (fun K hK => ?_)); simp (disch := omega) only [eqs, evs, stp, stepW, wantA, opStep, kindOf, headStep, skipStep, stStep, wrStep, cpStep, stA, appA, readSl, isSl, copyA, kill, AV.refs, hd, hdLoad, hdBin, intBin, hdUn, hdConv, hdIdxAddr, hdIdx, hdSlice, bnd, hdCall, hdCallF, hdLen, hdMin, argsA, mapA, partsOk, partsF, lk, look, addR, evA, constA, HOut.ok, hty, hfs, tyAll, List.map, List.all, List.getElem?_cons_zero, List.getElem?_cons_succ, Option.bind_some, Option.map_some, Option.map_none, Option.getD_some, AV.pureA, Nat.reduceEqDiff, ↓reduceIte, reduceCtorEq, Nat.reduceLT, Nat.reduceLeDiff, Nat.reduceAdd, Nat.reduceMul, Int.reduceToNat, IntKind.bits, BEq.rfl, beq_self_eq_true, bne_self_eq_false, Int.reduceBEq, Int.reduceBNe, Int.reduceEq, Int.reduceNe, ne_eq, Int.reduceLT, Int.reduceLE, c1, c3]; (repeat refine And.intro (by first | omega | assumption | (and_intros <;> first | omega | assumption) | fail) ?_); refine hK _ ?_; clear hK K)
            | (refine T_cond rfl (fun hc => ?_) (fun hc => ?_) <;> (try simp only [cnds, reduceCtorEq] at hc) <;> (try (first | (exact hc.elim) | (exfalso; omega))))
          refine ⟨(q - 1, r + a), ⟨by simp only; rw [← i1]; grind, by simp only; omega, by simp only; omega, by simp only; omega, by simp only; omega, by simp only; omega⟩, by simp only; omega, ?_⟩
          (simp (disch := omega) only [Le, AllF, AllR, slotLe, rowLe, refsIn, Option.isSome_some, implies_true, forall_const, AV.int.injEq, AV.bool.injEq, AV.elt.injEq, Int.natCast_add, Int.cast_ofNat_Int, eqs, lk, look, AV.pureA, kill, AV.refs, hty, tyAll, Nat.reduceEqDiff, ↓reduceIte, reduceCtorEq, Nat.reduceLT, Nat.reduceLeDiff, Nat.reduceAdd, Nat.reduceMul, Int.reduceToNat, ne_eq] <;> repeat' (first | rfl | apply And.intro | omega))
      · have km := kn_mul (B := 0) (q := q) (b := b) (by omega) (by omega) hB.1 hB.2
        by_cases c2 : 4294967296 * r + d1 < q * b
        · have hgt := kn_gt hYab Y0 i1 c2
          have hge : q1 ≤ q - 1 := by omega
          by_cases c3 : 4294967296 ≤ r + a
          · have km2 := kn_mul (B := 0) (q := q - 1) (b := b) (by omega) (by omega) hB.1 hB.2
            have hle := kn_le (u := u) (q := q - 1) (r := r + a) (d := d1) hYab Y0 (by rw [← i1]; grind) (by omega)
            rw [← hq1] at hle
            obtain rfl : q - 1 = q1 := by omega
            repeat' first
              | refine T_seq' ?_
              | refine T_block ?_
              | refine n_then ?_
              | refine x_then ?_
              | refine r_then ?_
              | refine n_block ?_
              | refine r_block ?_
              | refine x_block ?_
              | refine x_block' (by rfl) ?_
              | refine T_exit ?_
              | refine T_skip ?_
              | refine T_ret ?_
              | ((first | refine T_region hE (by rfl) (fun K hK => ?_) | refine T_draw hE (by rfl) (by kernel_rfl) (fun K hK => ?_)); simp (disch := omega) only [eqs, evs, stp, stepW, wantA, opStep, kindOf, headStep, skipStep, stStep, wrStep, cpStep, stA, appA, readSl, isSl, copyA, kill, AV.refs, hd, hdLoad, hdBin, intBin, hdUn, hdConv, hdIdxAddr, hdIdx, hdSlice, bnd, hdCall, hdCallF, hdLen, hdMin, argsA, mapA, partsOk, partsF, lk, look, addR, evA, constA, HOut.ok, hty, hfs, tyAll, List.map, List.all, List.getElem?_cons_zero, List.getElem?_cons_succ, Option.bind_some, Option.map_some, Option.map_none, Option.getD_some, AV.pureA, Nat.reduceEqDiff, ↓reduceIte, reduceCtorEq, Nat.reduceLT, Nat.reduceLeDiff, Nat.reduceAdd, Nat.reduceMul, Int.reduceToNat, IntKind.bits, BEq.rfl, beq_self_eq_true, bne_self_eq_false, Int.reduceBEq, Int.reduceBNe, Int.reduceEq, Int.reduceNe, ne_eq, Int.reduceLT, Int.reduceLE, c1, c2, c3]; (repeat refine And.intro (by first | omega | assumption | (and_intros <;> first | omega | assumption) | fail) ?_); refine hK _ ?_; clear hK K)
              | (refine T_cond rfl (fun hc => ?_) (fun hc => ?_) <;> (try simp only [cnds, reduceCtorEq] at hc) <;> (try (first | (exact hc.elim) | (exfalso; omega))))
            refine ⟨rfl, ?_⟩
            (simp (disch := omega) only [Le, AllF, AllR, slotLe, rowLe, refsIn, Option.isSome_some, implies_true, forall_const, AV.int.injEq, AV.bool.injEq, AV.elt.injEq, Int.natCast_add, Int.cast_ofNat_Int, eqs, lk, look, AV.pureA, kill, AV.refs, hty, tyAll, Nat.reduceEqDiff, ↓reduceIte, reduceCtorEq, Nat.reduceLT, Nat.reduceLeDiff, Nat.reduceAdd, Nat.reduceMul, Int.reduceToNat, ne_eq] <;> repeat' (first | rfl | apply And.intro | omega))
          · repeat' first
              | refine T_seq' ?_
              | refine T_block ?_
              | refine n_then ?_
              | refine x_then ?_
              | refine r_then ?_
              | refine n_block ?_
              | refine r_block ?_
              | refine x_block ?_
              | refine x_block' (by rfl) ?_
              | refine T_exit ?_
              | refine T_skip ?_
              | refine T_ret ?_
              | ((first | refine T_region hE (by rfl) (fun K hK => ?_) | refine T_draw hE (by rfl) (by kernel_rfl) (fun K hK => ?_)); simp (disch := omega) only [eqs, evs, stp, stepW, wantA, opStep, kindOf, headStep, skipStep, stStep, wrStep, cpStep, stA, appA, readSl, isSl, copyA, kill, AV.refs, hd, hdLoad, hdBin, intBin, hdUn, hdConv, hdIdxAddr, hdIdx, hdSlice, bnd, hdCall, hdCallF, hdLen, hdMin, argsA, mapA, partsOk, partsF, lk, look, addR, evA, constA, HOut.ok, hty, hfs, tyAll, List.map, List.all, List.getElem?_cons_zero, List.getElem?_cons_succ, Option.bind_some, Option.map_some, Option.map_none, Option.getD_some, AV.pureA, Nat.reduceEqDiff, ↓reduceIte, reduceCtorEq, Nat.reduceLT, Nat.reduceLeDiff, Nat.reduceAdd, Nat.reduceMul, Int.reduceToNat, IntKind.bits, BEq.rfl, beq_self_eq_true, bne_self_eq_false, Int.reduceBEq, Int.reduceBNe, Int.reduceEq, Int.reduceNe, ne_eq, Int.reduceLT, Int.reduceLE, c1, c2, c3]; (repeat refine And.intro (by first | omega | assumption | (and_intros <;> first | omega | assumption) | fail) ?_); refine hK _ ?_; clear hK K)
              | (refine T_cond rfl (fun hc => ?_) (fun hc => ?_) <;> (try simp only [cnds, reduceCtorEq] at hc) <;> (try (first | (exact hc.elim) | (exfalso; omega))))
            refine ⟨(q - 1, r + a), ⟨by simp only; rw [← i1]; grind, by simp only; omega, by simp only; omega, by simp only; omega, by simp only; omega, by simp only; omega⟩, by simp only; omega, ?_⟩
            (simp (disch := omega) only [Le, AllF, AllR, slotLe, rowLe, refsIn, Option.isSome_some, implies_true, forall_const, AV.int.injEq, AV.bool.injEq, AV.elt.injEq, Int.natCast_add, Int.cast_ofNat_Int, eqs, lk, look, AV.pureA, kill, AV.refs, hty, tyAll, Nat.reduceEqDiff, ↓reduceIte, reduceCtorEq, Nat.reduceLT, Nat.reduceLeDiff, Nat.reduceAdd, Nat.reduceMul, Int.reduceToNat, ne_eq] <;> repeat' (first | rfl | apply And.intro | omega))
        · have hle := kn_le (d := d1) hYab Y0 i1 (by omega)
          rw [← hq1] at hle
          obtain rfl : q = q1 := by omega
          repeat' first
            | refine T_seq' ?_
            | refine T_block ?_
            | refine n_then ?_
            | refine x_then ?_
            | refine r_then ?_
            | refine n_block ?_
            | refine r_block ?_
            | refine x_block ?_
            | refine x_block' (by rfl) ?_
            | refine T_exit ?_
            | refine T_skip ?_
            | refine T_ret ?_
            | ((first | refine T_region hE (by rfl) (fun K hK => ?_) | refine T_draw hE (by rfl) (by kernel_rfl) (fun K hK => ?_)); simp (disch := omega) only [eqs, evs, stp, stepW, wantA, opStep, kindOf, headStep, skipStep, stStep, wrStep, cpStep, stA, appA, readSl, isSl, copyA, kill, AV.refs, hd, hdLoad, hdBin, intBin, hdUn, hdConv, hdIdxAddr, hdIdx, hdSlice, bnd, hdCall, hdCallF, hdLen, hdMin, argsA, mapA, partsOk, partsF, lk, look, addR, evA, constA, HOut.ok, hty, hfs, tyAll, List.map, List.all, List.getElem?_cons_zero, List.getElem?_cons_succ, Option.bind_some, Option.map_some, Option.map_none, Option.getD_some, AV.pureA, Nat.reduceEqDiff, ↓reduceIte, reduceCtorEq, Nat.reduceLT, Nat.reduceLeDiff, Nat.reduceAdd, Nat.reduceMul, Int.reduceToNat, IntKind.bits, BEq.rfl, beq_self_eq_true, bne_self_eq_false, Int.reduceBEq, Int.reduceBNe, Int.reduceEq, Int.reduceNe, ne_eq, Int.reduceLT, Int.reduceLE, c1, c2]; (repeat refine And.intro (by first | omega | assumption | (and_intros <;> first | omega | assumption) | fail) ?_); refine hK _ ?_; clear hK K)
            | (refine T_cond rfl (fun hc => ?_) (fun hc => ?_) <;> (try simp only [cnds, reduceCtorEq] at hc) <;> (try (first | (exact hc.elim) | (exfalso; omega))))
          refine ⟨rfl, ?_⟩
          (simp (disch := omega) only [Le, AllF, AllR, slotLe, rowLe, refsIn, Option.isSome_some, implies_true, forall_const, AV.int.injEq, AV.bool.injEq, AV.elt.injEq, Int.natCast_add, Int.cast_ofNat_Int, eqs, lk, look, AV.pureA, kill, AV.refs, hty, tyAll, Nat.reduceEqDiff, ↓reduceIte, reduceCtorEq, Nat.reduceLT, Nat.reduceLeDiff, Nat.reduceAdd, Nat.reduceMul, Int.reduceToNat, ne_eq] <;> repeat' (first | rfl | apply And.intro | omega))
  obtain ⟨rfl, hle⟩ := h
  refine x_block ?_
  refine n_then ?_
  refine T_go _ hle ?_
  clear hle
  obtain ⟨R1, hR1⟩ : ∃ R1, R1 = (u * 4294967296 + d1) % Y := ⟨_, rfl⟩
  rw [← hq1, ← hR1] at ar
  have eR : IntKind.u64.wrap (IntKind.u64.wrap (IntKind.u64.wrap (u * 4294967296) + d1) - IntKind.u64.wrap (q1 * Y)) = R1 := by rw [wrap_u64, wrap_u64, wrap_u64, wrap_u64]; exact ar
  have hR : 0 ≤ R1 ∧ R1 < Y := by rw [hR1]; exact ⟨Int.emod_nonneg _ (by omega), Int.emod_lt_of_pos _ Y0⟩
  have m1 := kn_start hYab hA.1 hA.2 hB.1 hB.2 hR.1 hR.2 hD0.1 hD0.2
  have g1 := kn_first hYab hA.1 hB.2 hR.1 hR.2
  have m2 : 0 ≤ R1 / a * a ∧ R1 / a * a ≤ R1 := ⟨Int.mul_nonneg g1.1 (by omega), by obtain ⟨p1, p2, p3, p4⟩ := m1; omega⟩
  have q0b := kn_lt hR.1 hR.2 hD0.1 hD0.2
  have ar0 := kn_rest (u := R1) (d := d0) Y0 Yhi
  clear k1 f1 k2 ar eU hU
  repeat' first
    | refine T_seq' ?_
    | refine T_block ?_
    | refine n_then ?_
    | refine x_then ?_
    | refine r_then ?_
    | refine n_block ?_
    | refine r_block ?_
    | refine x_block ?_
    | refine x_block' (by rfl) ?_
    | refine T_exit ?_
    | refine T_skip ?_
    | refine T_ret ?_
    | ((first | refine T_region hE (by rfl) (fun K hK => ?_) | refine T_draw hE (by rfl) (by kernel_rfl) (fun K hK => ?_)); simp (disch := omega) only [eqs, evs, stp, stepW, wantA, opStep, kindOf, headStep, skipStep, stStep, wrStep, cpStep, stA, appA, readSl, isSl, copyA, kill, AV.refs, hd, hdLoad, hdBin, intBin, hdUn, hdConv, hdIdxAddr, hdIdx, hdSlice, bnd, hdCall, hdCallF, hdLen, hdMin, argsA, mapA, partsOk, partsF, lk, look, addR, evA, constA, HOut.ok, hty, hfs, tyAll, List.map, List.all, List.getElem?_cons_zero, List.getElem?_cons_succ, Option.bind_some, Option.map_some, Option.map_none, Option.getD_some, AV.pureA, Nat.reduceEqDiff, ↓reduceIte, reduceCtorEq, Nat.reduceLT, Nat.reduceLeDiff, Nat.reduceAdd, Nat.reduceMul, Int.reduceToNat, IntKind.bits, BEq.rfl, beq_self_eq_true, bne_self_eq_false, Int.reduceBEq, Int.reduceBNe, Int.reduceEq, Int.reduceNe, ne_eq, Int.reduceLT, Int.reduceLE, eR]; (repeat refine And.intro (by first | omega | assumption | (and_intros <;> first | omega | assumption) | fail) ?_); refine hK _ ?_; clear hK K)
    | (refine T_cond rfl (fun hc => ?_) (fun hc => ?_) <;> (try simp only [cnds, reduceCtorEq] at hc) <;> (try (first | (exact hc.elim) | (exfalso; omega))))
  obtain ⟨q0, hq0⟩ : ∃ q0, q0 = (R1 * 4294967296 + d0) / Y := ⟨_, rfl⟩
  rw [← hq0] at q0b
  refine Tri.mono (Q := fun e σ' => e = .exit 2 ∧ Le σ' ⟨[(2, .int .u64 Y), (8, .int .u64 s), (9, .int .u64 a), (10, .int .u64 b), (14, .int .u64 d0), (15, .int .u64 q1), (17, .int .u64 R1), (18, .int .u64 q0)], []⟩) ?_ (fun e σ' h => ?_)
  · refine T_for (ι := Int × Int) (fun i => ⟨[(2, .int .u64 Y), (8, .int .u64 s), (9, .int .u64 a), (10, .int .u64 b), (14, .int .u64 d0), (15, .int .u64 q1), (17, .int .u64 R1), (18, .int .u64 i.1), (16, .int .u64 i.2)], []⟩)
      (fun i => KnI Y a R1 d0 i.1 i.2) (fun i => i.1.toNat) ⟨(R1 / a, R1 - R1 / a * a), m1, ?_⟩ (fun i hi => ?_)
    · (simp (disch := omega) only [Le, AllF, AllR, slotLe, rowLe, refsIn, Option.isSome_some, implies_true, forall_const, AV.int.injEq, AV.bool.injEq, AV.elt.injEq, Int.natCast_add, Int.cast_ofNat_Int, eqs, lk, look, AV.pureA, kill, AV.refs, hty, tyAll, Nat.reduceEqDiff, ↓reduceIte, reduceCtorEq, Nat.reduceLT, Nat.reduceLeDiff, Nat.reduceAdd, Nat.reduceMul, Int.reduceToNat, ne_eq] <;> repeat' (first | rfl | apply And.intro | omega))
    · obtain ⟨q, r⟩ := i
      obtain ⟨i1, i2, i3, i4, i5, i6⟩ := hi
      simp only at i1 i2 i3 i4 i5 i6 ⊢
      rw [← hq0] at i4
      by_cases c1 : 4294967296 ≤ q
      · have hge : q0 ≤ q - 1 := by omega
        by_cases c3 : 4294967296 ≤ r + a
        · have km := kn_mul (B := 0) (q := q - 1) (b := b) (by omega) (by omega) hB.1 hB.2
          have hle := kn_le (u := R1) (q := q - 1) (r := r + a) (d := d0) hYab Y0 (by rw [← i1]; grind) (by omega)
          rw [← hq0] at hle
          obtain rfl : q - 1 = q0 := by omega
          repeat' first
            | refine T_seq' ?_
            | refine T_block ?_
            | refine n_then ?_
            | refine x_then ?_
            | refine r_then ?_
            | refine n_block ?_
            | refine r_block ?_
            | refine x_block ?_
            | refine x_block' (by rfl) ?_
            | refine T_exit ?_
            | refine T_skip ?_
            | refine T_ret ?_
            | ((first | refine T_region hE (by rfl) (fun K hK => ?_) | refine T_draw hE (by rfl) (by kernel_rfl) (fun K hK => ?_)); simp (disch := omega) only [eqs, evs, stp, stepW, wantA, opStep, kindOf, headStep, skipStep, stStep, wrStep, cpStep, stA, appA, readSl, isSl, copyA, kill, AV.refs, hd, hdLoad, hdBin, intBin, hdUn, hdConv, hdIdxAddr, hdIdx, hdSlice, bnd, hdCall, hdCallF, hdLen, hdMin, argsA, mapA, partsOk, partsF, lk, look, addR, evA, constA, HOut.ok, hty, hfs, tyAll, List.map, List.all, List.getElem?_cons_zero, List.getElem?_cons_succ, Option.bind_some, Option.map_some, Option.map_none, Option.getD_some, AV.pureA, Nat.reduceEqDiff, ↓reduceIte, reduceCtorEq, Nat.reduceLT, Nat.reduceLeDiff, Nat.reduceAdd, Nat.reduceMul, Int.reduceToNat, IntKind.bits, BEq.rfl, beq_self_eq_true, bne_self_eq_false, Int.reduceBEq, Int.reduceBNe, Int.reduceEq, Int.reduceNe, ne_eq, Int.reduceLT, Int.reduceLE, c1, c3]; (repeat refine And.intro (by first | omega | assumption | (and_intros <;> first | omega | assumption) | fail) ?_); refine hK _ ?_; clear hK K)
            | (refine T_cond rfl (fun hc => ?_) (fun hc => ?_) <;> (try simp only [cnds, reduceCtorEq] at hc) <;> (try (first | (exact hc.elim) | (exfalso; omega))))
          refine ⟨rfl, ?_⟩
          (simp (disch := omega) only [Le, AllF, AllR, slotLe, rowLe, refsIn, Option.isSome_some, implies_true, forall_const, AV.int.injEq, AV.bool.injEq, AV.elt.injEq, Int.natCast_add, Int.cast_ofNat_Int, eqs, lk, look, AV.pureA, kill, AV.refs, hty, tyAll, Nat.reduceEqDiff, ↓reduceIte, reduceCtorEq, Nat.reduceLT, Nat.reduceLeDiff, Nat.reduceAdd, Nat.reduceMul, Int.reduceToNat, ne_eq] <;> repeat' (first | rfl | apply And.intro | omega))
        · repeat' first
            | refine T_seq' ?_
            | refine T_block ?_
            | refine n_then ?_
            | refine x_then ?_
            | refine r_then ?_
            | refine n_block ?_
            | refine r_block ?_
            | refine x_block ?_
            | refine x_block' (by rfl) ?_
            | refine T_exit ?_
            | refine T_skip ?_
            | refine T_ret ?_
            | ((first | refine T_region hE (by rfl) (fun K hK => ?_) | refine T_draw hE (by rfl) (by kernel_rfl) (fun K hK => ?_)); simp (disch := omega) only [eqs, evs, stp, stepW, wantA, opStep, kindOf, headStep, skipStep, stStep, wrStep, cpStep, stA, appA, readSl, isSl, copyA, kill, AV.refs, hd, hdLoad, hdBin, intBin, hdUn, hdConv, hdIdxAddr, hdIdx, hdSlice, bnd, hdCall, hdCallF, hdLen, hdMin, argsA, mapA, partsOk, partsF, lk, look, addR, evA, constA, HOut.ok, hty, hfs, tyAll, List.map, List.all, List.getElem?_cons_zero, List.getElem?_cons_succ, Option.bind_some, Option.map_some, Option.map_none, Option.getD_some, AV.pureA, Nat.reduceEqDiff, ↓reduceIte, reduceCtorEq, Nat.reduceLT, Nat.reduceLeDiff, Nat.reduceAdd, Nat.reduceMul, Int.reduceToNat, IntKind.bits, BEq.rfl, beq_self_eq_true, bne_self_eq_false, Int.reduceBEq, Int.reduceBNe, Int.reduceEq, Int.reduceNe, ne_eq, Int.reduceLT, Int.reduceLE, c1, c3]; (repeat refine And.intro (by first | omega | assumption | (and_intros <;> first | omega | assumption) | fail) ?_); refine hK _ ?_; clear hK K)
            | (refine T_cond rfl (fun hc => ?_) (fun hc => ?_) <;> (try simp only [cnds, reduceCtorEq] at hc) <;> (try (first | (exact hc.elim) | (exfalso; omega))))
          refine ⟨(q - 1, r + a), ⟨by simp only; rw [← i1]; grind, by simp only; omega, by simp only; omega, by simp only; omega, by simp only; omega, by simp only; omega⟩, by simp only; omega, ?_⟩
          (simp (disch := omega) only [Le, AllF, AllR, slotLe, rowLe, refsIn, Option.isSome_some, implies_true, forall_const, AV.int.injEq, AV.bool.injEq, AV.elt.injEq, Int.natCast_add, Int.cast_ofNat_Int, eqs, lk, look, AV.pureA, kill, AV.refs, hty, tyAll, Nat.reduceEqDiff, ↓reduceIte, reduceCtorEq, Nat.reduceLT, Nat.reduceLeDiff, Nat.reduceAdd, Nat.reduceMul, Int.reduceToNat, ne_eq] <;> repeat' (first | rfl | apply And.intro | omega))
      · have km := kn_mul (B := 0) (q := q) (b := b) (by omega) (by omega) hB.1 hB.2
        by_cases c2 : 4294967296 * r + d0 < q * b
        · have hgt := kn_gt hYab Y0 i1 c2
          have hge : q0 ≤ q - 1 := by omega
          by_cases c3 : 4294967296 ≤ r + a
          · have km2 := kn_mul (B := 0) (q := q - 1) (b := b) (by omega) (by omega) hB.1 hB.2
            have hle := kn_le (u := R1) (q := q - 1) (r := r + a) (d := d0) hYab Y0 (by rw [← i1]; grind) (by omega)
            rw [← hq0] at hle
            obtain rfl : q - 1 = q0 := by omega
            repeat' first
              | refine T_seq' ?_
              | refine T_block ?_
              | refine n_then ?_
              | refine x_then ?_
              | refine r_then ?_
              | refine n_block ?_
              | refine r_block ?_
              | refine x_block ?_
              | refine x_block' (by rfl) ?_
              | refine T_exit ?_
              | refine T_skip ?_
              | refine T_ret ?_
              | ((first | refine T_region hE (by rfl) (fun K hK => ?_) | refine T_draw hE (by rfl) (by kernel_rfl) (fun K hK => ?_)); simp (disch := omega) only [eqs, evs, stp, stepW, wantA, opStep, kindOf, headStep, skipStep, stStep, wrStep, cpStep, stA, appA, readSl, isSl, copyA, kill, AV.refs, hd, hdLoad, hdBin, intBin, hdUn, hdConv, hdIdxAddr, hdIdx, hdSlice, bnd, hdCall, hdCallF, hdLen, hdMin, argsA, mapA, partsOk, partsF, lk, look, addR, evA, constA, HOut.ok, hty, hfs, tyAll, List.map, List.all, List.getElem?_cons_zero, List.getElem?_cons_succ, Option.bind_some, Option.map_some, Option.map_none, Option.getD_some, AV.pureA, Nat.reduceEqDiff, ↓reduceIte, reduceCtorEq, Nat.reduceLT, Nat.reduceLeDiff, Nat.reduceAdd, Nat.reduceMul, Int.reduceToNat, IntKind.bits, BEq.rfl, beq_self_eq_true, bne_self_eq_false, Int.reduceBEq, Int.reduceBNe, Int.reduceEq, Int.reduceNe, ne_eq, Int.reduceLT, Int.reduceLE, c1, c2, c3]; (repeat refine And.intro (by first | omega | assumption | (and_intros <;> first | omega | assumption) | fail) ?_); refine hK _ ?_; clear hK K)
              | (refine T_cond rfl (fun hc => ?_) (fun hc => ?_) <;> (try simp only [cnds, reduceCtorEq] at hc) <;> (try (first | (exact hc.elim) | (exfalso; omega))))
            refine ⟨rfl, ?_⟩
            (simp (disch := omega) only [Le, AllF, AllR, slotLe, rowLe, refsIn, Option.isSome_some, implies_true, forall_const, AV.int.injEq, AV.bool.injEq, AV.elt.injEq, Int.natCast_add, Int.cast_ofNat_Int, eqs, lk, look, AV.pureA, kill, AV.refs, hty, tyAll, Nat.reduceEqDiff, ↓reduceIte, reduceCtorEq, Nat.reduceLT, Nat.reduceLeDiff, Nat.reduceAdd, Nat.reduceMul, Int.reduceToNat, ne_eq] <;> repeat' (first | rfl | apply And.intro | omega))
          · repeat' first
              | refine T_seq' ?_
              | refine T_block ?_
              | refine n_then ?_
              | refine x_then ?_
              | refine r_then ?_
              | refine n_block ?_
              | refine r_block ?_
              | refine x_block ?_
              | refine x_block' (by rfl) ?_
              | refine T_exit ?_
              | refine T_skip ?_
              | refine T_ret ?_
              | ((first | refine T_region hE (by rfl) (fun K hK => ?_) | refine T_draw hE (by rfl) (by kernel_rfl) (fun K hK => ?_)); simp (disch := omega) only [eqs, evs, stp, stepW, wantA, opStep, kindOf, headStep, skipStep, stStep, wrStep, cpStep, stA, appA, readSl, isSl, copyA, kill, AV.refs, hd, hdLoad, hdBin, intBin, hdUn, hdConv, hdIdxAddr, hdIdx, hdSlice, bnd, hdCall, hdCallF, hdLen, hdMin, argsA, mapA, partsOk, partsF, lk, look, addR, evA, constA, HOut.ok, hty, hfs, tyAll, List.map, List.all, List.getElem?_cons_zero, List.getElem?_cons_succ, Option.bind_some, Option.map_some, Option.map_none, Option.getD_some, AV.pureA, Nat.reduceEqDiff, ↓reduceIte, reduceCtorEq, Nat.reduceLT, Nat.reduceLeDiff, Nat.reduceAdd, Nat.reduceMul, Int.reduceToNat, IntKind.bits, BEq.rfl, beq_self_eq_true, bne_self_eq_false, Int.reduceBEq, Int.reduceBNe, Int.reduceEq, Int.reduceNe, ne_eq, Int.reduceLT, Int.reduceLE, c1, c2, c3]; (repeat refine And.intro (by first | omega | assumption | (and_intros <;> first | omega | assumption) | fail) ?_); refine hK _ ?_; clear hK K)
              | (refine T_cond rfl (fun hc => ?_) (fun hc => ?_) <;> (try simp only [cnds, reduceCtorEq] at hc) <;> (try (first | (exact hc.elim) | (exfalso; omega))))
            refine ⟨(q - 1, r + a), ⟨by simp only; rw [← i1]; grind, by simp only; omega, by simp only; omega, by simp only; omega, by simp only; omega, by simp only; omega⟩, by simp only; omega, ?_⟩
            (simp (disch := omega) only [Le, AllF, AllR, slotLe, rowLe, refsIn, Option.isSome_some, implies_true, forall_const, AV.int.injEq, AV.bool.injEq, AV.elt.injEq, Int.natCast_add, Int.cast_ofNat_Int, eqs, lk, look, AV.pureA, kill, AV.refs, hty, tyAll, Nat.reduceEqDiff, ↓reduceIte, reduceCtorEq, Nat.reduceLT, Nat.reduceLeDiff, Nat.reduceAdd, Nat.reduceMul, Int.reduceToNat, ne_eq] <;> repeat' (first | rfl | apply And.intro | omega))
        · have hle := kn_le (d := d0) hYab Y0 i1 (by omega)
          rw [← hq0] at hle
          obtain rfl : q = q0 := by omega
          repeat' first
            | refine T_seq' ?_
            | refine T_block ?_
            | refine n_then ?_
            | refine x_then ?_
            | refine r_then ?_
            | refine n_block ?_
            | refine r_block ?_
            | refine x_block ?_
            | refine x_block' (by rfl) ?_
            | refine T_exit ?_
            | refine T_skip ?_
            | refine T_ret ?_
            | ((first | refine T_region hE (by rfl) (fun K hK => ?_) | refine T_draw hE (by rfl) (by kernel_rfl) (fun K hK => ?_)); simp (disch := omega) only [eqs, evs, stp, stepW, wantA, opStep, kindOf, headStep, skipStep, stStep, wrStep, cpStep, stA, appA, readSl, isSl, copyA, kill, AV.refs, hd, hdLoad, hdBin, intBin, hdUn, hdConv, hdIdxAddr, hdIdx, hdSlice, bnd, hdCall, hdCallF, hdLen, hdMin, argsA, mapA, partsOk, partsF, lk, look, addR, evA, constA, HOut.ok, hty, hfs, tyAll, List.map, List.all, List.getElem?_cons_zero, List.getElem?_cons_succ, Option.bind_some, Option.map_some, Option.map_none, Option.getD_some, AV.pureA, Nat.reduceEqDiff, ↓reduceIte, reduceCtorEq, Nat.reduceLT, Nat.reduceLeDiff, Nat.reduceAdd, Nat.reduceMul, Int.reduceToNat, IntKind.bits, BEq.rfl, beq_self_eq_true, bne_self_eq_false, Int.reduceBEq, Int.reduceBNe, Int.reduceEq, Int.reduceNe, ne_eq, Int.reduceLT, Int.reduceLE, c1, c2]; (repeat refine And.intro (by first | omega | assumption | (and_intros <;> first | omega | assumption) | fail) ?_); refine hK _ ?_; clear hK K)
            | (refine T_cond rfl (fun hc => ?_) (fun hc => ?_) <;> (try simp only [cnds, reduceCtorEq] at hc) <;> (try (first | (exact hc.elim) | (exfalso; omega))))
          refine ⟨rfl, ?_⟩
          (simp (disch := omega) only [Le, AllF, AllR, slotLe, rowLe, refsIn, Option.isSome_some, implies_true, forall_const, AV.int.injEq, AV.bool.injEq, AV.elt.injEq, Int.natCast_add, Int.cast_ofNat_Int, eqs, lk, look, AV.pureA, kill, AV.refs, hty, tyAll, Nat.reduceEqDiff, ↓reduceIte, reduceCtorEq, Nat.reduceLT, Nat.reduceLeDiff, Nat.reduceAdd, Nat.reduceMul, Int.reduceToNat, ne_eq] <;> repeat' (first | rfl | apply And.intro | omega))
  obtain ⟨rfl, hle⟩ := h
  refine x_block ?_
  refine n_then ?_
  refine T_go _ hle ?_
  clear hle
  obtain ⟨R0, hR0⟩ : ∃ R0, R0 = (R1 * 4294967296 + d0) % Y := ⟨_, rfl⟩
  rw [← hq0, ← hR0] at ar0
  have eR0 : IntKind.u64.wrap (IntKind.u64.wrap (IntKind.u64.wrap (R1 * 4294967296) + d0) - IntKind.u64.wrap (q0 * Y)) = R0 := by rw [wrap_u64, wrap_u64, wrap_u64, wrap_u64]; exact ar0
  repeat' first
    | refine T_seq' ?_
    | refine T_block ?_
    | refine n_then ?_
    | refine x_then ?_
    | refine r_then ?_
    | refine n_block ?_
    | refine r_block ?_
    | refine x_block ?_
    | refine x_block' (by rfl) ?_
    | refine T_exit ?_
    | refine T_skip ?_
    | refine T_ret ?_
    | ((first | refine T_region hE (by rfl) (fun K hK => ?_) | refine T_draw hE (by rfl) (by kernel_rfl) (fun K hK => ?_)); simp (disch := omega) only [eqs, evs, stp, stepW, wantA, opStep, kindOf, headStep, skipStep, stStep, wrStep, cpStep, stA, appA, readSl, isSl, copyA, kill, AV.refs, hd, hdLoad, hdBin, intBin, hdUn, hdConv, hdIdxAddr, hdIdx, hdSlice, bnd, hdCall, hdCallF, hdLen, hdMin, argsA, mapA, partsOk, partsF, lk, look, addR, evA, constA, HOut.ok, hty, hfs, tyAll, List.map, List.all, List.getElem?_cons_zero, List.getElem?_cons_succ, Option.bind_some, Option.map_some, Option.map_none, Option.getD_some, AV.pureA, Nat.reduceEqDiff, ↓reduceIte, reduceCtorEq, Nat.reduceLT, Nat.reduceLeDiff, Nat.reduceAdd, Nat.reduceMul, Int.reduceToNat, IntKind.bits, BEq.rfl, beq_self_eq_true, bne_self_eq_false, Int.reduceBEq, Int.reduceBNe, Int.reduceEq, Int.reduceNe, ne_eq, Int.reduceLT, Int.reduceLE, eR0]; (repeat refine And.intro (by first | omega | assumption | (and_intros <;> first | omega | assumption) | fail) ?_); refine hK _ ?_; clear hK K)
    | (refine T_cond rfl (fun hc => ?_) (fun hc => ?_) <;> (try simp only [cnds, reduceCtorEq] at hc) <;> (try (first | (exact hc.elim) | (exfalso; omega))))
  refine hQ _ ?_
  simp (disch := omega) only [resOk, res1, retOk, eqs, lk, look, AV.pureA, kill, AV.refs, hty, tyAll, Nat.reduceEqDiff, ↓reduceIte, reduceCtorEq, Nat.reduceLT, Nat.reduceLeDiff, Nat.reduceAdd, Nat.reduceMul, Int.reduceToNat, ne_eq, sDiv64]
  have fin := div64_arith hp hst h0 hy l0 l1 hY (by rw [hu, hH, ht]) he hd1 hd0 hq1 hR1 hq0 hR0
  rw [fin.1, fin.2]
  exact ⟨rfl, rfl⟩

end Go.Proofs.YtijoifajbmhgdaaGreat.Sym
