/- The reference's numbers of any length: products and quotients. -/
import Derived.Test.YtijoifajbmhgdaaGreatNa
namespace Go.Proofs.YtijoifajbmhgdaaGreat.Sym
set_option linter.unusedVariables false
open Go Go.RowKit Num
set_option maxRecDepth 10000
set_option linter.unusedSimpArgs false

theorem DgL_upd {L : Nat} {o : Nat → Int} {m : Nat} {v : Int} (h : Dg 256 L o) (h0 : 0 ≤ v) (h1 : v < 256) : Dg 256 L (updF o m v) := fun j hj => by
  by_cases e : m = j
  · subst e; rw [updF_same]; exact ⟨h0, h1⟩
  · rw [updF_ne _ _ e]; exact h j hj

def sNTimes : List AV → SOut
  | [.rsl .i64 n f, .rsl .i64 m g] => ⟨Dg 256 n f ∧ n ≤ 1000 ∧ Dg 256 m g ∧ m ≤ 1000, .rsl .i64 (n + m + 1) (dig 256 (nv n f * nv m g))⟩
  | _ => ⟨False, .und⟩
/-- A digit and what is carried, at the top of what is written. -/
theorem top_digit {L i m : Nat} {o : Nat → Int} {c T : Int} (ho : Dg 256 L o) (hi : i + m < L) (hc : 0 ≤ c) (h : wsum 256 o L + c * 256 ^ (i + m) = T) (hT : T < 256 ^ (i + 1 + m)) : o (i + m) + c < 256 := by
  have e := wsum_split 256 o (i + m) (L - (i + m))
  rw [show i + m + (L - (i + m)) = L from by omega] at e
  have e2 := wsum_cons 256 (fun j => o (i + m + j)) (L - (i + m) - 1)
  rw [show L - (i + m) - 1 + 1 = L - (i + m) from by omega] at e2
  have b1 := wsum_bd (B := 256) (by decide) (f := o) (n := i + m) fun j hj => ho j (by omega)
  have b2 := wsum_bd (B := 256) (by decide) (f := fun t => o (i + m + (1 + t))) (n := L - (i + m) - 1) fun j hj => ho _ (by omega)
  have hp : (0 : Int) < 256 ^ (i + m) := Int.pow_pos (by decide)
  rw [show i + 1 + m = i + m + 1 from by omega, Int.pow_succ] at hT
  simp only [Nat.add_zero] at e2
  rw [e, e2] at h
  generalize (256 : Int) ^ (i + m) = p at *
  generalize wsum 256 (fun t => o (i + m + (1 + t))) (L - (i + m) - 1) = s at *
  generalize wsum 256 o (i + m) = r at *
  have h3 : p * (o (i + m) + c) ≤ p * 255 + (p - 1) := by
    have : 0 ≤ p * (256 * s) := Int.mul_nonneg (by omega) (by omega)
    have e3 : p * (o (i + m) + c) = p * o (i + m) + c * p := by grind
    have e4 : p * (o (i + m) + 256 * s) = p * o (i + m) + p * (256 * s) := by grind
    omega
  have h4 : p * (o (i + m) + c) < p * 256 := by omega
  exact Int.lt_of_mul_lt_mul_left h4 (by omega)

theorem c_NTimes : Contract Tryz.prog 60 sNTimes := by
  refine fun_ok [(90, sAt)] ⟨c_at, trivial⟩ Tryz.func60 rfl (by kernel_rfl) Tryz.ntmps60 Tryz.results60 (fun E hE hty hfs xs hp => ?_)
  unfold sNTimes at hp
  split at hp
  case h_2 => exact hp.elim
  rename_i n f m g
  obtain ⟨hf, hn, hg, hm⟩ := hp
  have hp : True := trivial
  refine ⟨by simp, fun Q hQ => ?_⟩
  simp only [params, Nat.reduceAdd]
  have eL : ((n : Int) + (m : Int) + 1).toNat = n + m + 1 := by omega
  have eG : wsum 256 (dig 256 (nv m g)) m = nv m g := by rw [wsum_dig (by decide)]; exact nv_mod hg (by omega)
  have gb := nv_bd hg
  repeat' first
    | refine T_seq' ?_
    | refine T_block ?_
    | refine n_then ?_
    | refine x_then ?_
    | refine r_then ?_
    | refine n_block ?_
    | refine r_block ?_
    | refine x_block ?_
    | refine x_block' (by rfl) ?_
    | refine T_exit ?_
    | refine T_skip ?_
    | refine T_ret ?_
    | ((first | refine T_region hE (by rfl) (fun K hK => ?_) | refine T_draw hE (by rfl) (by kernel_rfl) (fun K hK => ?_)); simp (disch := omega) only [eqs, evs, stp, stepW, wantA, opStep, kindOf, headStep, skipStep, stStep, wrStep, cpStep, stA, appA, readSl, isSl, copyA, kill, AV.refs, hd, hdLoad, hdBin, intBin, hdUn, hdConv, hdIdxAddr, hdIdx, hdSlice, bnd, hdCall, hdCallF, hdLen, hdMin, argsA, mapA, partsOk, partsF, lk, look, addR, evA, constA, HOut.ok, hty, hfs, tyAll, List.map, List.all, List.getElem?_cons_zero, List.getElem?_cons_succ, Option.bind_some, Option.map_some, Option.map_none, Option.getD_some, AV.pureA, Nat.reduceEqDiff, ↓reduceIte, reduceCtorEq, Nat.reduceLT, Nat.reduceLeDiff, Nat.reduceAdd, Nat.reduceMul, Int.reduceToNat, IntKind.bits, BEq.rfl, beq_self_eq_true, bne_self_eq_false, Int.reduceBEq, Int.reduceBNe, Int.reduceEq, Int.reduceNe, ne_eq, Int.reduceLT, Int.reduceLE, eL]; (repeat refine And.intro (by first | omega | assumption | (and_intros <;> first | omega | assumption) | fail) ?_); refine hK _ ?_; clear hK K)
    | (refine T_cond rfl (fun hc => ?_) (fun hc => ?_) <;> (try simp only [cnds, reduceCtorEq] at hc) <;> (try (first | (exact hc.elim) | (exfalso; omega))))
  refine T_for (ι := Nat × (Nat → Int)) (fun i => ⟨[(0, .rsl .i64 n f), (1, .rsl .i64 m g), (5, .sl 16 0 (n + m + 1)), (18, .int .i64 n), (19, .int .i64 i.1)], [(16, ⟨.i64, n + m + 1, i.2⟩)]⟩)
    (fun i => i.1 ≤ n ∧ Dg 256 (n + m + 1) i.2 ∧ wsum 256 i.2 (n + m + 1) = wsum 256 f i.1 * nv m g) (fun i => n - i.1)
    ⟨(0, fun _ => 0), ⟨by simp, fun j hj => by simp, by rw [wsum_zero (f := fun _ => (0 : Int)) fun _ _ => rfl]; simp [wsum]⟩, ?_⟩ (fun i hi => ?_)
  · (simp (disch := omega) only [Le, AllF, AllR, slotLe, rowLe, refsIn, Option.isSome_some, implies_true, forall_const, AV.int.injEq, AV.bool.injEq, AV.elt.injEq, Int.natCast_add, Int.cast_ofNat_Int, eqs, lk, look, AV.pureA, kill, AV.refs, hty, tyAll, Nat.reduceEqDiff, ↓reduceIte, reduceCtorEq, Nat.reduceLT, Nat.reduceLeDiff, Nat.reduceAdd, Nat.reduceMul, Int.reduceToNat, ne_eq, eL] <;> repeat' (first | rfl | apply And.intro | omega))
  · obtain ⟨i, o0⟩ := i
    obtain ⟨h0, ho0, hs0⟩ := hi
    simp only at h0 ho0 hs0 ⊢
    by_cases hlt : i < n
    · have h1 : (i : Int) < (n : Int) := by omega
      have fi := hf i hlt
      have hF1 : wsum 256 f (i + 1) * nv m g = wsum 256 f i * nv m g + f i * 256 ^ i * nv m g := by rw [wsum_succ]; grind
      have fb := wsum_bd (B := 256) (by decide) (f := f) (n := i + 1) fun j hj => hf j (by omega)
      have hTop : wsum 256 f (i + 1) * nv m g < 256 ^ (i + 1 + m) := by
        rw [Int.pow_add]
        have a1 : wsum 256 f (i + 1) * nv m g ≤ (256 ^ (i + 1) - 1) * nv m g := Int.mul_le_mul_of_nonneg_right (by omega) gb.1
        have a2 : (256 ^ (i + 1) - 1) * nv m g ≤ (256 ^ (i + 1) - 1) * (256 ^ m - 1) := Int.mul_le_mul_of_nonneg_left (by omega) (by omega)
        have hp1 : (0 : Int) < 256 ^ (i + 1) := Int.pow_pos (by decide)
        have hp2 : (0 : Int) < 256 ^ m := Int.pow_pos (by decide)
        have a3 : ((256 : Int) ^ (i + 1) - 1) * (256 ^ m - 1) = 256 ^ (i + 1) * 256 ^ m - 256 ^ (i + 1) - 256 ^ m + 1 := by grind
        omega
      repeat' first
        | refine T_seq' ?_
        | refine T_block ?_
        | refine n_then ?_
        | refine x_then ?_
        | refine r_then ?_
        | refine n_block ?_
        | refine r_block ?_
        | refine x_block ?_
        | refine x_block' (by rfl) ?_
        | refine T_exit ?_
        | refine T_skip ?_
        | refine T_ret ?_
        | ((first | refine T_region hE (by rfl) (fun K hK => ?_) | refine T_draw hE (by rfl) (by kernel_rfl) (fun K hK => ?_)); simp (disch := omega) only [eqs, evs, stp, stepW, wantA, opStep, kindOf, headStep, skipStep, stStep, wrStep, cpStep, stA, appA, readSl, isSl, copyA, kill, AV.refs, hd, hdLoad, hdBin, intBin, hdUn, hdConv, hdIdxAddr, hdIdx, hdSlice, bnd, hdCall, hdCallF, hdLen, hdMin, argsA, mapA, partsOk, partsF, lk, look, addR, evA, constA, HOut.ok, hty, hfs, tyAll, List.map, List.all, List.getElem?_cons_zero, List.getElem?_cons_succ, Option.bind_some, Option.map_some, Option.map_none, Option.getD_some, AV.pureA, Nat.reduceEqDiff, ↓reduceIte, reduceCtorEq, Nat.reduceLT, Nat.reduceLeDiff, Nat.reduceAdd, Nat.reduceMul, Int.reduceToNat, IntKind.bits, BEq.rfl, beq_self_eq_true, bne_self_eq_false, Int.reduceBEq, Int.reduceBNe, Int.reduceEq, Int.reduceNe, ne_eq, Int.reduceLT, Int.reduceLE, h1]; (repeat refine And.intro (by first | omega | assumption | (and_intros <;> first | omega | assumption) | fail) ?_); refine hK _ ?_; clear hK K)
        | (refine T_cond rfl (fun hc => ?_) (fun hc => ?_) <;> (try simp only [cnds, reduceCtorEq] at hc) <;> (try (first | (exact hc.elim) | (exfalso; omega))))
      refine T_for (ι := Nat × (Nat → Int) × Int) (fun k => ⟨[(0, .rsl .i64 n f), (1, .rsl .i64 m g), (5, .sl 16 0 (n + m + 1)), (18, .int .i64 n), (19, .int .i64 i), (6, .int .i64 i), (7, .int .i64 k.2.2), (8, .int .i64 k.1)], [(16, ⟨.i64, n + m + 1, k.2.1⟩)]⟩)
        (fun k => k.1 ≤ m + 1 ∧ Dg 256 (n + m + 1) k.2.1 ∧ (0 ≤ k.2.2 ∧ k.2.2 < 256) ∧ wsum 256 k.2.1 (n + m + 1) + k.2.2 * 256 ^ (i + k.1) = wsum 256 f i * nv m g + f i * 256 ^ i * wsum 256 (dig 256 (nv m g)) k.1 ∧ (k.1 ≤ m ∨ k.2.2 = 0)) (fun k => m + 1 - k.1)
        ⟨(0, o0, 0), ⟨by simp only; omega, ho0, ⟨by simp, by simp⟩, by rw [show wsum 256 (dig 256 (nv m g)) 0 = 0 from rfl]; simp [hs0], by simp⟩, ?_⟩ (fun k hk => ?_)
      · (simp (disch := omega) only [Le, AllF, AllR, slotLe, rowLe, refsIn, Option.isSome_some, implies_true, forall_const, AV.int.injEq, AV.bool.injEq, AV.elt.injEq, Int.natCast_add, Int.cast_ofNat_Int, eqs, lk, look, AV.pureA, kill, AV.refs, hty, tyAll, Nat.reduceEqDiff, ↓reduceIte, reduceCtorEq, Nat.reduceLT, Nat.reduceLeDiff, Nat.reduceAdd, Nat.reduceMul, Int.reduceToNat, ne_eq] <;> repeat' (first | rfl | apply And.intro | omega))
      · obtain ⟨k, o, c⟩ := k
        obtain ⟨hk, ho, hc, hs, hkm⟩ := hk
        simp only at hk ho hc hs hkm ⊢
        have oik := ho (i + k) (by omega)
        have gk := d256 (nv m g) k
        have hP : 0 ≤ f i * dig 256 (nv m g) k ∧ f i * dig 256 (nv m g) k ≤ 65025 := ⟨Int.mul_nonneg fi.1 gk.1, by
          have := Int.mul_le_mul (show f i ≤ 255 by omega) (show dig 256 (nv m g) k ≤ 255 by omega) gk.1 (by decide)
          simpa using this⟩
        have e0 : ((i : Int) + (k : Int)).toNat = i + k := by omega
        have hround := mul_roundB (show i + k < n + m + 1 by omega) hs rfl
        by_cases hkl : k < m
        · have h2 : (k : Int) < (m : Int) := by omega
          repeat' first
            | refine T_seq' ?_
            | refine T_block ?_
            | refine n_then ?_
            | refine x_then ?_
            | refine r_then ?_
            | refine n_block ?_
            | refine r_block ?_
            | refine x_block ?_
            | refine x_block' (by rfl) ?_
            | refine T_exit ?_
            | refine T_skip ?_
            | refine T_ret ?_
            | ((first | refine T_region hE (by rfl) (fun K hK => ?_) | refine T_draw hE (by rfl) (by kernel_rfl) (fun K hK => ?_)); simp (disch := omega) only [eqs, evs, stp, stepW, wantA, opStep, kindOf, headStep, skipStep, stStep, wrStep, cpStep, stA, appA, readSl, isSl, copyA, kill, AV.refs, hd, hdLoad, hdBin, intBin, hdUn, hdConv, hdIdxAddr, hdIdx, hdSlice, bnd, hdCall, hdCallF, hdLen, hdMin, argsA, mapA, partsOk, partsF, lk, look, addR, evA, constA, HOut.ok, hty, hfs, tyAll, List.map, List.all, List.getElem?_cons_zero, List.getElem?_cons_succ, Option.bind_some, Option.map_some, Option.map_none, Option.getD_some, AV.pureA, Nat.reduceEqDiff, ↓reduceIte, reduceCtorEq, Nat.reduceLT, Nat.reduceLeDiff, Nat.reduceAdd, Nat.reduceMul, Int.reduceToNat, IntKind.bits, BEq.rfl, beq_self_eq_true, bne_self_eq_false, Int.reduceBEq, Int.reduceBNe, Int.reduceEq, Int.reduceNe, ne_eq, Int.reduceLT, Int.reduceLE, h2, e0, sAt]; (repeat refine And.intro (by first | omega | assumption | (and_intros <;> first | omega | assumption) | fail) ?_); refine hK _ ?_; clear hK K)
            | (refine T_cond rfl (fun hc => ?_) (fun hc => ?_) <;> (try simp only [cnds, reduceCtorEq] at hc) <;> (try (first | (exact hc.elim) | (exfalso; omega))))
          refine ⟨(k + 1, updF o (i + k) ((o (i + k) + f i * dig 256 (nv m g) k + c) % 256), (o (i + k) + f i * dig 256 (nv m g) k + c) / 256), ⟨by simp only; omega, DgL_upd ho (by omega) (by omega), ⟨by simp only; omega, by simp only; omega⟩, hround, by simp only; omega⟩, by simp only; omega, ?_⟩
          (simp (disch := omega) only [Le, AllF, AllR, slotLe, rowLe, refsIn, Option.isSome_some, implies_true, forall_const, AV.int.injEq, AV.bool.injEq, AV.elt.injEq, Int.natCast_add, Int.cast_ofNat_Int, eqs, lk, look, AV.pureA, kill, AV.refs, hty, tyAll, Nat.reduceEqDiff, ↓reduceIte, reduceCtorEq, Nat.reduceLT, Nat.reduceLeDiff, Nat.reduceAdd, Nat.reduceMul, Int.reduceToNat, ne_eq] <;> repeat' (first | rfl | apply And.intro | omega))
        · have h2 : ¬ (k : Int) < (m : Int) := by omega
          by_cases hcz : 0 < c
          · obtain rfl : k = m := by omega
            have hz : dig 256 (nv k g) k = 0 := dig_zero (by decide) gb.1 gb.2
            have ht := top_digit ho (show i + k < n + k + 1 by omega) hc.1 hs (by rw [eG, ← hF1]; exact hTop)
            rw [hz, Int.mul_zero] at hP
            rw [hz, Int.mul_zero] at hround
            repeat' first
              | refine T_seq' ?_
              | refine T_block ?_
              | refine n_then ?_
              | refine x_then ?_
              | refine r_then ?_
              | refine n_block ?_
              | refine r_block ?_
              | refine x_block ?_
              | refine x_block' (by rfl) ?_
              | refine T_exit ?_
              | refine T_skip ?_
              | refine T_ret ?_
              | ((first | refine T_region hE (by rfl) (fun K hK => ?_) | refine T_draw hE (by rfl) (by kernel_rfl) (fun K hK => ?_)); simp (disch := omega) only [eqs, evs, stp, stepW, wantA, opStep, kindOf, headStep, skipStep, stStep, wrStep, cpStep, stA, appA, readSl, isSl, copyA, kill, AV.refs, hd, hdLoad, hdBin, intBin, hdUn, hdConv, hdIdxAddr, hdIdx, hdSlice, bnd, hdCall, hdCallF, hdLen, hdMin, argsA, mapA, partsOk, partsF, lk, look, addR, evA, constA, HOut.ok, hty, hfs, tyAll, List.map, List.all, List.getElem?_cons_zero, List.getElem?_cons_succ, Option.bind_some, Option.map_some, Option.map_none, Option.getD_some, AV.pureA, Nat.reduceEqDiff, ↓reduceIte, reduceCtorEq, Nat.reduceLT, Nat.reduceLeDiff, Nat.reduceAdd, Nat.reduceMul, Int.reduceToNat, IntKind.bits, BEq.rfl, beq_self_eq_true, bne_self_eq_false, Int.reduceBEq, Int.reduceBNe, Int.reduceEq, Int.reduceNe, ne_eq, Int.reduceLT, Int.reduceLE, h2, hcz, e0, sAt, hz, Int.mul_zero]; (repeat refine And.intro (by first | omega | assumption | (and_intros <;> first | omega | assumption) | fail) ?_); refine hK _ ?_; clear hK K)
              | (refine T_cond rfl (fun hc => ?_) (fun hc => ?_) <;> (try simp only [cnds, reduceCtorEq] at hc) <;> (try (first | (exact hc.elim) | (exfalso; omega))))
            refine ⟨(k + 1, updF o (i + k) ((o (i + k) + 0 + c) % 256), (o (i + k) + 0 + c) / 256), ⟨by simp only; omega, DgL_upd ho (by omega) (by omega), ⟨by simp only; omega, by simp only; omega⟩, hround, by simp only; omega⟩, by simp only; omega, ?_⟩
            (simp (disch := omega) only [Le, AllF, AllR, slotLe, rowLe, refsIn, Option.isSome_some, implies_true, forall_const, AV.int.injEq, AV.bool.injEq, AV.elt.injEq, Int.natCast_add, Int.cast_ofNat_Int, eqs, lk, look, AV.pureA, kill, AV.refs, hty, tyAll, Nat.reduceEqDiff, ↓reduceIte, reduceCtorEq, Nat.reduceLT, Nat.reduceLeDiff, Nat.reduceAdd, Nat.reduceMul, Int.reduceToNat, ne_eq] <;> repeat' (first | rfl | apply And.intro | omega))
          · obtain rfl : c = 0 := by omega
            repeat' first
              | refine T_seq' ?_
              | refine T_block ?_
              | refine n_then ?_
              | refine x_then ?_
              | refine r_then ?_
              | refine n_block ?_
              | refine r_block ?_
              | refine x_block ?_
              | refine x_block' (by rfl) ?_
              | refine T_exit ?_
              | refine T_skip ?_
              | refine T_ret ?_
              | ((first | refine T_region hE (by rfl) (fun K hK => ?_) | refine T_draw hE (by rfl) (by kernel_rfl) (fun K hK => ?_)); simp (disch := omega) only [eqs, evs, stp, stepW, wantA, opStep, kindOf, headStep, skipStep, stStep, wrStep, cpStep, stA, appA, readSl, isSl, copyA, kill, AV.refs, hd, hdLoad, hdBin, intBin, hdUn, hdConv, hdIdxAddr, hdIdx, hdSlice, bnd, hdCall, hdCallF, hdLen, hdMin, argsA, mapA, partsOk, partsF, lk, look, addR, evA, constA, HOut.ok, hty, hfs, tyAll, List.map, List.all, List.getElem?_cons_zero, List.getElem?_cons_succ, Option.bind_some, Option.map_some, Option.map_none, Option.getD_some, AV.pureA, Nat.reduceEqDiff, ↓reduceIte, reduceCtorEq, Nat.reduceLT, Nat.reduceLeDiff, Nat.reduceAdd, Nat.reduceMul, Int.reduceToNat, IntKind.bits, BEq.rfl, beq_self_eq_true, bne_self_eq_false, Int.reduceBEq, Int.reduceBNe, Int.reduceEq, Int.reduceNe, ne_eq, Int.reduceLT, Int.reduceLE, h2, hcz]; (repeat refine And.intro (by first | omega | assumption | (and_intros <;> first | omega | assumption) | fail) ?_); refine hK _ ?_; clear hK K)
              | (refine T_cond rfl (fun hc => ?_) (fun hc => ?_) <;> (try simp only [cnds, reduceCtorEq] at hc) <;> (try (first | (exact hc.elim) | (exfalso; omega))))
            refine ⟨(i + 1, o), ⟨by simp only; omega, ho, ?_⟩, by simp only; omega, ?_⟩
            · simp only
              have : wsum 256 (dig 256 (nv m g)) k = nv m g := by
                rw [wsum_dig (by decide), nv_mod hg (by omega)]
              rw [this, Int.zero_mul, Int.add_zero] at hs
              rw [hF1]
              exact hs
            · (simp (disch := omega) only [Le, AllF, AllR, slotLe, rowLe, refsIn, Option.isSome_some, implies_true, forall_const, AV.int.injEq, AV.bool.injEq, AV.elt.injEq, Int.natCast_add, Int.cast_ofNat_Int, eqs, lk, look, AV.pureA, kill, AV.refs, hty, tyAll, Nat.reduceEqDiff, ↓reduceIte, reduceCtorEq, Nat.reduceLT, Nat.reduceLeDiff, Nat.reduceAdd, Nat.reduceMul, Int.reduceToNat, ne_eq] <;> repeat' (first | rfl | apply And.intro | omega))
    · have h1 : ¬ (i : Int) < (n : Int) := by omega
      obtain rfl : i = n := by omega
      repeat' first
        | refine T_seq' ?_
        | refine T_block ?_
        | refine n_then ?_
        | refine x_then ?_
        | refine r_then ?_
        | refine n_block ?_
        | refine r_block ?_
        | refine x_block ?_
        | refine x_block' (by rfl) ?_
        | refine T_exit ?_
        | refine T_skip ?_
        | refine T_ret ?_
        | ((first | refine T_region hE (by rfl) (fun K hK => ?_) | refine T_draw hE (by rfl) (by kernel_rfl) (fun K hK => ?_)); simp (disch := omega) only [eqs, evs, stp, stepW, wantA, opStep, kindOf, headStep, skipStep, stStep, wrStep, cpStep, stA, appA, readSl, isSl, copyA, kill, AV.refs, hd, hdLoad, hdBin, intBin, hdUn, hdConv, hdIdxAddr, hdIdx, hdSlice, bnd, hdCall, hdCallF, hdLen, hdMin, argsA, mapA, partsOk, partsF, lk, look, addR, evA, constA, HOut.ok, hty, hfs, tyAll, List.map, List.all, List.getElem?_cons_zero, List.getElem?_cons_succ, Option.bind_some, Option.map_some, Option.map_none, Option.getD_some, AV.pureA, Nat.reduceEqDiff, ↓reduceIte, reduceCtorEq, Nat.reduceLT, Nat.reduceLeDiff, Nat.reduceAdd, Nat.reduceMul, Int.reduceToNat, IntKind.bits, BEq.rfl, beq_self_eq_true, bne_self_eq_false, Int.reduceBEq, Int.reduceBNe, Int.reduceEq, Int.reduceNe, ne_eq, Int.reduceLT, Int.reduceLE, h1]; (repeat refine And.intro (by first | omega | assumption | (and_intros <;> first | omega | assumption) | fail) ?_); refine hK _ ?_; clear hK K)
        | (refine T_cond rfl (fun hc => ?_) (fun hc => ?_) <;> (try simp only [cnds, reduceCtorEq] at hc) <;> (try (first | (exact hc.elim) | (exfalso; omega))))
      refine hQ _ ?_
      simp (disch := omega) only [resOk, res1, retOk, eqs, lk, look, AV.pureA, kill, AV.refs, hty, tyAll, Nat.reduceEqDiff, ↓reduceIte, reduceCtorEq, Nat.reduceLT, Nat.reduceLeDiff, Nat.reduceAdd, Nat.reduceMul, Int.reduceToNat, ne_eq, sNTimes]
      refine ⟨by omega, fun j hj => ?_⟩
      unfold nv at hs0 ⊢
      rw [← hs0]
      exact (dig_wsum (by decide) ho0 hj).symm

/-! ### Quotients -/
def nr (a b : Int) : Int := if b = 0 then 0 else a % b
def nd (a : Int) : Nat := ((bl a + 7) / 8).toNat
theorem nd_zero : nd 0 = 0 := rfl
theorem p256 (n : Nat) : (256 : Int) ^ n = 2 ^ (8 * n) := by rw [Int.pow_mul]; rfl
theorem bl_ge {a : Int} {n : Nat} (h : 2 ^ n ≤ a) : (n : Int) + 1 ≤ bl a := by
  have hp : (0 : Int) < 2 ^ n := Int.pow_pos (by decide)
  have h1 : 1 ≤ a / 2 ^ n := (Int.le_ediv_iff_mul_le hp).2 (by omega)
  rw [bl_shift n (by omega) h1]
  have := bl_pos h1
  omega
theorem nd_le {a : Int} {L : Nat} (h0 : 0 ≤ a) (h : a < 256 ^ L) : nd a ≤ L := by
  have := bl_le (n := 8 * L) h0 (by rw [← p256]; exact h)
  have := bl_nn a
  unfold nd
  omega
theorem nd_of {a : Int} {L : Nat} (h0 : 0 ≤ a) (h : a < 256 ^ L) (ht : L = 0 ∨ dig 256 a (L - 1) ≠ 0) : nd a = L := by
  have h1 := nd_le h0 h
  rcases ht with rfl | ht
  · omega
  · by_cases hL : L = 0
    · omega
    · have : 256 ^ (L - 1) ≤ a := by
        rcases Int.lt_or_le a (256 ^ (L - 1)) with k | k
        · exact absurd (dig_zero (by decide) h0 k) ht
        · exact k
      have := bl_ge (n := 8 * (L - 1)) (by rw [← p256]; exact this)
      unfold nd at h1 ⊢
      omega
theorem lt_nd {a : Int} (h0 : 0 ≤ a) : a < 256 ^ nd a := by
  rcases Int.lt_or_le a (256 ^ nd a) with k | k
  · exact k
  · have := bl_ge (n := 8 * nd a) (by rw [← p256]; exact k)
    unfold nd at this
    omega
theorem nr_bd {a b : Int} (hb : 0 < b) : 0 ≤ nr a b ∧ nr a b < b := by
  unfold nr
  rw [if_neg (by omega)]
  exact ⟨Int.emod_nonneg _ (by omega), Int.emod_lt_of_pos _ hb⟩

/-- One digit of a quotient. -/
theorem div_digit {F G X c : Int} {i : Nat} (hG : 0 < G) (h : X + c * G = dig 256 F i + 256 * (F / 256 ^ (i + 1) % G)) (h0 : 0 ≤ X) (h1 : X < G) : F / 256 ^ i % G = X ∧ dig 256 (F / G) i = c := by
  have hp : (0 : Int) < 256 ^ i := Int.pow_pos (by decide)
  have e1 : F / 256 ^ (i + 1) = F / 256 ^ i / 256 := by rw [Int.pow_succ, Int.ediv_ediv_of_nonneg (by omega)]
  have e2 : F / G / 256 ^ i = F / 256 ^ i / G := by rw [Int.ediv_ediv_of_nonneg (by omega), Int.ediv_ediv_of_nonneg (by omega), Int.mul_comm]
  unfold dig at h ⊢
  rw [e2]
  rw [e1] at h
  generalize F / 256 ^ i = A at *
  have a1 := Int.mul_ediv_add_emod A 256
  have a2 := Int.mul_ediv_add_emod (A / 256) G
  have r1 := Int.emod_nonneg A (show (256 : Int) ≠ 0 by decide)
  have r2 := Int.emod_lt_of_pos A (show (0 : Int) < 256 by decide)
  have r3 := Int.emod_nonneg (A / 256) (show G ≠ 0 by omega)
  have r4 := Int.emod_lt_of_pos (A / 256) hG
  generalize A % 256 = d at *
  generalize A / 256 % G = R at *
  generalize A / 256 / G = q at *
  generalize A / 256 = A' at *
  have hu := (Int.ediv_emod_unique (a := A) (b := G) (r := X) (q := 256 * q + c) hG).2 ⟨by grind, h0, h1⟩
  have c0 : -1 < c := by
    have : (-1) * G < c * G := by omega
    exact Int.lt_of_mul_lt_mul_right this (by omega)
  have c1 : c < 256 := by
    have : c * G < 256 * G := by omega
    exact Int.lt_of_mul_lt_mul_right this (by omega)
  rw [hu.1, hu.2]
  exact ⟨rfl, by omega⟩

theorem updF_two (F : Nat → Int) (d : Nat) (v u : Int) : updF (updF F d v) d u = updF F d u := by
  funext s; unfold updF; split <;> rfl
theorem updF_id {F : Nat → Int} {d : Nat} {v : Int} (h : F d = v) : updF F d v = F := by
  funext s; unfold updF; split
  · rename_i e; rw [← e, h]
  · rfl

end Go.Proofs.YtijoifajbmhgdaaGreat.Sym
