/- The reference's quotients of numbers of any length. -/
import Derived.Test.YtijoifajbmhgdaaGreatNb
namespace Go.Proofs.YtijoifajbmhgdaaGreat.Sym
set_option linter.unusedVariables false
open Go Go.RowKit Num
set_option maxRecDepth 10000
set_option linter.unusedSimpArgs false

def sNDiv : List AV → SOut
  | [.rsl .i64 n f, .rsl .i64 m g] => ⟨Dg 256 n f ∧ n ≤ 900 ∧ Dg 256 m g ∧ m ≤ 900, .pair (.rsl .i64 n (dig 256 (nv n f / nv m g))) (.rsl .i64 (nd (nr (nv n f) (nv m g))) (dig 256 (nr (nv n f) (nv m g))))⟩
  | _ => ⟨False, .und⟩

theorem app_dig {F R : Int} {i L : Nat} (hR : 0 ≤ R) (hR2 : R < 256 ^ L) {z : Nat → Int} (j : Nat) (hj : j < 1 + L) :
    appF 1 (updF z 0 (dig 256 F i)) (dig 256 R) j = dig 256 (dig 256 F i + 256 * R) j := by
  have d := d256 F i
  unfold appF
  cases j with
  | zero =>
    rw [if_pos (by decide), updF_same]
    generalize dig 256 F i = x at *
    show x = (x + 256 * R) / 256 ^ 0 % 256
    rw [Int.pow_zero, Int.ediv_one]
    omega
  | succ j =>
    rw [if_neg (by omega), Nat.add_sub_cancel]
    generalize dig 256 F i = x at *
    show R / 256 ^ j % 256 = (x + 256 * R) / 256 ^ (j + 1) % 256
    rw [Nat.add_comm, Int.pow_add, Int.pow_one, ← Int.ediv_ediv_of_nonneg (by decide), show (x + 256 * R) / 256 = R from by omega]

theorem c_NDiv : Contract Tryz.prog 56 sNDiv := by
  refine fun_ok [(87, sNZero), (88, sNLess), (89, sNMinus)] ⟨c_NZero, c_NLess, c_NMinus, trivial⟩ Tryz.func56 rfl (by kernel_rfl) Tryz.ntmps56 Tryz.results56 (fun E hE hty hfs xs hp => ?_)
  unfold sNDiv at hp
  split at hp
  case h_2 => exact hp.elim
  rename_i n f m g
  obtain ⟨hf, hn, hg, hm⟩ := hp
  have hp : True := trivial
  have fb := nv_bd hf
  have gb := nv_bd hg
  have fdig : ∀ j, j < n → f j = dig 256 (nv n f) j := fun j hj => by rw [nv_at hf, if_pos hj]
  refine ⟨by simp, fun Q hQ => ?_⟩
  simp only [params, Nat.reduceAdd]
  by_cases hG : nv m g = 0
  · repeat' first
      | refine T_seq' ?_
      | refine T_block ?_
      | refine n_then ?_
      | refine x_then ?_
      | refine r_then ?_
      | refine n_block ?_
      | refine r_block ?_
      | refine x_block ?_
      | refine x_block' (by rfl) ?_
      | refine T_exit ?_
      | refine T_skip ?_
      | refine T_ret ?_
      | ((first | refine T_region hE (by rfl) (fun K hK => ?_) | refine T_draw hE (by rfl) (by kernel_rfl) (fun K hK => ?_)); simp (disch := omega) only [eqs, evs, stp, stepW, wantA, opStep, kindOf, headStep, skipStep, stStep, wrStep, cpStep, stA, appA, readSl, isSl, copyA, kill, AV.refs, hd, hdLoad, hdBin, intBin, hdUn, hdConv, hdIdxAddr, hdIdx, hdSlice, bnd, hdCall, hdCallF, hdLen, hdMin, argsA, mapA, partsOk, partsF, lk, look, addR, evA, constA, HOut.ok, hty, hfs, tyAll, List.map, List.all, List.getElem?_cons_zero, List.getElem?_cons_succ, Option.bind_some, Option.map_some, Option.map_none, Option.getD_some, AV.pureA, Nat.reduceEqDiff, ↓reduceIte, reduceCtorEq, Nat.reduceLT, Nat.reduceLeDiff, Nat.reduceAdd, Nat.reduceMul, Int.reduceToNat, IntKind.bits, BEq.rfl, beq_self_eq_true, bne_self_eq_false, Int.reduceBEq, Int.reduceBNe, Int.reduceEq, Int.reduceNe, ne_eq, Int.reduceLT, Int.reduceLE, sNZero, hG]; (repeat refine And.intro (by first | omega | assumption | (and_intros <;> first | omega | assumption) | fail) ?_); refine hK _ ?_; clear hK K)
      | (refine T_cond rfl (fun hc => ?_) (fun hc => ?_) <;> (try simp only [cnds, reduceCtorEq] at hc) <;> (try (first | (exact hc.elim) | (exfalso; omega))))
    refine hQ _ ?_
    simp (disch := omega) only [resOk, res1, retOk, eqs, lk, look, AV.pureA, kill, AV.refs, hty, tyAll, Nat.reduceEqDiff, ↓reduceIte, reduceCtorEq, Nat.reduceLT, Nat.reduceLeDiff, Nat.reduceAdd, Nat.reduceMul, Int.reduceToNat, ne_eq, sNDiv]
    rw [hG, Int.ediv_zero, show nr (nv n f) 0 = 0 from rfl]
    refine ⟨⟨by omega, fun j hj => (dig_zero (by decide) (by decide) (Int.pow_pos (by decide))).symm⟩, rfl, fun j hj => by omega⟩
  have hG0 : 0 < nv m g := by omega
  generalize hF : nv n f = F at *
  have gm := nv_lt hg (Nat.le_refl m)
  have hRb : ∀ i : Nat, 0 ≤ F / 256 ^ i % nv m g ∧ F / 256 ^ i % nv m g < nv m g := fun i => ⟨Int.emod_nonneg _ (by omega), Int.emod_lt_of_pos _ hG0⟩
  repeat' first
    | refine T_seq' ?_
    | refine T_block ?_
    | refine n_then ?_
    | refine x_then ?_
    | refine r_then ?_
    | refine n_block ?_
    | refine r_block ?_
    | refine x_block ?_
    | refine x_block' (by rfl) ?_
    | refine T_exit ?_
    | refine T_skip ?_
    | refine T_ret ?_
    | ((first | refine T_region hE (by rfl) (fun K hK => ?_) | refine T_draw hE (by rfl) (by kernel_rfl) (fun K hK => ?_)); simp (disch := omega) only [eqs, evs, stp, stepW, wantA, opStep, kindOf, headStep, skipStep, stStep, wrStep, cpStep, stA, appA, readSl, isSl, copyA, kill, AV.refs, hd, hdLoad, hdBin, intBin, hdUn, hdConv, hdIdxAddr, hdIdx, hdSlice, bnd, hdCall, hdCallF, hdLen, hdMin, argsA, mapA, partsOk, partsF, lk, look, addR, evA, constA, HOut.ok, hty, hfs, tyAll, List.map, List.all, List.getElem?_cons_zero, List.getElem?_cons_succ, Option.bind_some, Option.map_some, Option.map_none, Option.getD_some, AV.pureA, Nat.reduceEqDiff, ↓reduceIte, reduceCtorEq, Nat.reduceLT, Nat.reduceLeDiff, Nat.reduceAdd, Nat.reduceMul, Int.reduceToNat, IntKind.bits, BEq.rfl, beq_self_eq_true, bne_self_eq_false, Int.reduceBEq, Int.reduceBNe, Int.reduceEq, Int.reduceNe, ne_eq, Int.reduceLT, Int.reduceLE, sNZero, hG]; (repeat refine And.intro (by first | omega | assumption | (and_intros <;> first | omega | assumption) | fail) ?_); refine hK _ ?_; clear hK K)
    | (refine T_cond rfl (fun hc => ?_) (fun hc => ?_) <;> (try simp only [cnds, reduceCtorEq] at hc) <;> (try (first | (exact hc.elim) | (exfalso; omega))))
  refine T_for (ι := Nat × (Nat → Int)) (fun i => ⟨[(0, .rsl .i64 n f), (1, .rsl .i64 m g), (6, .sl 12 0 n), (7, .rsl .i64 (nd (F / 256 ^ i.1 % nv m g)) (dig 256 (F / 256 ^ i.1 % nv m g))), (8, .int .i64 ((i.1 : Int) - 1))], [(12, ⟨.i64, n, i.2⟩)]⟩)
    (fun i => i.1 ≤ n ∧ (∀ j, i.1 ≤ j → j < n → i.2 j = dig 256 (F / nv m g) j) ∧ ∀ j, j < i.1 → i.2 j = 0) (fun i => i.1)
    ⟨(n, fun _ => 0), ⟨by simp, fun j h1 h2 => by simp only at h1; omega, fun j h1 => rfl⟩, ?_⟩ (fun i hi => ?_)
  · have hz : F / 256 ^ n % nv m g = 0 := by rw [Int.ediv_eq_zero_of_lt fb.1 fb.2, Int.zero_emod]
    (simp (disch := omega) only [Le, AllF, AllR, slotLe, rowLe, refsIn, Option.isSome_some, implies_true, forall_const, AV.int.injEq, AV.bool.injEq, AV.elt.injEq, Int.natCast_add, Int.cast_ofNat_Int, eqs, lk, look, AV.pureA, kill, AV.refs, hty, tyAll, Nat.reduceEqDiff, ↓reduceIte, reduceCtorEq, Nat.reduceLT, Nat.reduceLeDiff, Nat.reduceAdd, Nat.reduceMul, Int.reduceToNat, ne_eq, hz, nd_zero] <;> repeat' (first | rfl | apply And.intro | omega))
  · obtain ⟨i, q⟩ := i
    obtain ⟨h0, hq, hqz⟩ := hi
    simp only at h0 hq hqz ⊢
    cases i with
    | zero =>
      repeat' first
        | refine T_seq' ?_
        | refine T_block ?_
        | refine n_then ?_
        | refine x_then ?_
        | refine r_then ?_
        | refine n_block ?_
        | refine r_block ?_
        | refine x_block ?_
        | refine x_block' (by rfl) ?_
        | refine T_exit ?_
        | refine T_skip ?_
        | refine T_ret ?_
        | ((first | refine T_region hE (by rfl) (fun K hK => ?_) | refine T_draw hE (by rfl) (by kernel_rfl) (fun K hK => ?_)); simp (disch := omega) only [eqs, evs, stp, stepW, wantA, opStep, kindOf, headStep, skipStep, stStep, wrStep, cpStep, stA, appA, readSl, isSl, copyA, kill, AV.refs, hd, hdLoad, hdBin, intBin, hdUn, hdConv, hdIdxAddr, hdIdx, hdSlice, bnd, hdCall, hdCallF, hdLen, hdMin, argsA, mapA, partsOk, partsF, lk, look, addR, evA, constA, HOut.ok, hty, hfs, tyAll, List.map, List.all, List.getElem?_cons_zero, List.getElem?_cons_succ, Option.bind_some, Option.map_some, Option.map_none, Option.getD_some, AV.pureA, Nat.reduceEqDiff, ↓reduceIte, reduceCtorEq, Nat.reduceLT, Nat.reduceLeDiff, Nat.reduceAdd, Nat.reduceMul, Int.reduceToNat, IntKind.bits, BEq.rfl, beq_self_eq_true, bne_self_eq_false, Int.reduceBEq, Int.reduceBNe, Int.reduceEq, Int.reduceNe, ne_eq, Int.reduceLT, Int.reduceLE]; (repeat refine And.intro (by first | omega | assumption | (and_intros <;> first | omega | assumption) | fail) ?_); refine hK _ ?_; clear hK K)
        | (refine T_cond rfl (fun hc => ?_) (fun hc => ?_) <;> (try simp only [cnds, reduceCtorEq] at hc) <;> (try (first | (exact hc.elim) | (exfalso; omega))))
      refine hQ _ ?_
      simp (disch := omega) only [resOk, res1, retOk, eqs, lk, look, AV.pureA, kill, AV.refs, hty, tyAll, Nat.reduceEqDiff, ↓reduceIte, reduceCtorEq, Nat.reduceLT, Nat.reduceLeDiff, Nat.reduceAdd, Nat.reduceMul, Int.reduceToNat, ne_eq, sNDiv]
      have e : F / 256 ^ 0 % nv m g = nr F (nv m g) := by unfold nr; rw [if_neg (by omega), Int.pow_zero, Int.ediv_one]
      rw [hF, e]
      exact ⟨⟨by omega, fun j hj => hq j (by omega) hj⟩, rfl, fun j hj => rfl⟩
    | succ i =>
      have e0 : (((i + 1 : Nat) : Int) - 1) = i := by omega
      rw [e0]
      have hR := hRb (i + 1)
      have hRL := lt_nd hR.1
      have hLm : nd (F / 256 ^ (i + 1) % nv m g) ≤ m := nd_le hR.1 (by omega)
      have hfi := fdig i (by omega)
      have di := d256 F i
      obtain ⟨R, hRe⟩ : ∃ R, F / 256 ^ (i + 1) % nv m g = R := ⟨_, rfl⟩
      have happ := fun j hj => app_dig (F := F) (i := i) hR.1 hRL (z := fun _ => 0) j hj
      rw [hRe] at hR hRL hLm happ ⊢
      generalize hLe : nd R = L at *
      have h1 : (i : Int) < (n : Int) := by omega
      repeat' first
        | refine T_seq' ?_
        | refine T_block ?_
        | refine n_then ?_
        | refine x_then ?_
        | refine r_then ?_
        | refine n_block ?_
        | refine r_block ?_
        | refine x_block ?_
        | refine x_block' (by rfl) ?_
        | refine T_exit ?_
        | refine T_skip ?_
        | refine T_ret ?_
        | ((first | refine T_region hE (by rfl) (fun K hK => ?_) | refine T_draw hE (by rfl) (by kernel_rfl) (fun K hK => ?_)); simp (disch := omega) only [eqs, evs, stp, stepW, wantA, opStep, kindOf, headStep, skipStep, stStep, wrStep, cpStep, stA, appA, readSl, isSl, copyA, kill, AV.refs, hd, hdLoad, hdBin, intBin, hdUn, hdConv, hdIdxAddr, hdIdx, hdSlice, bnd, hdCall, hdCallF, hdLen, hdMin, argsA, mapA, partsOk, partsF, lk, look, addR, evA, constA, HOut.ok, hty, hfs, tyAll, List.map, List.all, List.getElem?_cons_zero, List.getElem?_cons_succ, Option.bind_some, Option.map_some, Option.map_none, Option.getD_some, AV.pureA, Nat.reduceEqDiff, ↓reduceIte, reduceCtorEq, Nat.reduceLT, Nat.reduceLeDiff, Nat.reduceAdd, Nat.reduceMul, Int.reduceToNat, IntKind.bits, BEq.rfl, beq_self_eq_true, bne_self_eq_false, Int.reduceBEq, Int.reduceBNe, Int.reduceEq, Int.reduceNe, ne_eq, Int.reduceLT, Int.reduceLE, h1]; (repeat refine And.intro (by first | omega | assumption | (and_intros <;> first | omega | assumption) | fail) ?_); refine hK _ ?_; clear hK K)
        | (refine T_cond rfl (fun hc => ?_) (fun hc => ?_) <;> (try simp only [cnds, reduceCtorEq] at hc) <;> (try (first | (exact hc.elim) | (exfalso; omega))))
      have hX0 : dig 256 F i + 256 * R < 256 ^ (1 + L) := by rw [Int.pow_add, Int.pow_one]; omega
      refine T_for (ι := Int × Int) (fun k => ⟨[(0, .rsl .i64 n f), (1, .rsl .i64 m g), (6, .sl 12 0 n), (7, .rsl .i64 (1 + L) (dig 256 k.1)), (8, .int .i64 i)], [(12, ⟨.i64, n, updF q i k.2⟩)]⟩)
        (fun k => 0 ≤ k.1 ∧ 0 ≤ k.2 ∧ k.1 + k.2 * nv m g = dig 256 F i + 256 * R) (fun k => k.1.toNat)
        ⟨(dig 256 F i + 256 * R, 0), ⟨by simp only; omega, by simp, by simp⟩, ?_⟩ (fun k hk => ?_)
      · rw [hfi]
        (simp (disch := omega) only [Le, AllF, AllR, slotLe, rowLe, refsIn, Option.isSome_some, implies_true, forall_const, AV.int.injEq, AV.bool.injEq, AV.elt.injEq, Int.natCast_add, Int.cast_ofNat_Int, eqs, lk, look, AV.pureA, kill, AV.refs, hty, tyAll, Nat.reduceEqDiff, ↓reduceIte, reduceCtorEq, Nat.reduceLT, Nat.reduceLeDiff, Nat.reduceAdd, Nat.reduceMul, Int.reduceToNat, ne_eq, updF_id (hqz i (by omega))] <;> repeat' (first | rfl | apply And.intro | omega))
      · obtain ⟨X, c⟩ := k
        obtain ⟨k0, kc, ke⟩ := hk
        simp only at k0 kc ke ⊢
        have hcG : 0 ≤ c * nv m g := Int.mul_nonneg kc (by omega)
        have hXlt : X < 256 ^ (1 + L) := by omega
        have eX : nv (1 + L) (dig 256 X) = X := by rw [nv_dig, Int.emod_eq_of_lt k0 hXlt]
        have dX := Dg_dig X (1 + L)
        have hc256 : c < 256 := by
          have : c * nv m g < 256 * nv m g := by omega
          exact Int.lt_of_mul_lt_mul_right this (by omega)
        by_cases hlt : X < nv m g
        · have hdd := div_digit (F := F) (i := i) hG0 (by rw [hRe]; exact ke) k0 hlt
          repeat' first
            | refine T_seq' ?_
            | refine T_block ?_
            | refine n_then ?_
            | refine x_then ?_
            | refine r_then ?_
            | refine n_block ?_
            | refine r_block ?_
            | refine x_block ?_
            | refine x_block' (by rfl) ?_
            | refine T_exit ?_
            | refine T_skip ?_
            | refine T_ret ?_
            | ((first | refine T_region hE (by rfl) (fun K hK => ?_) | refine T_draw hE (by rfl) (by kernel_rfl) (fun K hK => ?_)); simp (disch := omega) only [eqs, evs, stp, stepW, wantA, opStep, kindOf, headStep, skipStep, stStep, wrStep, cpStep, stA, appA, readSl, isSl, copyA, kill, AV.refs, hd, hdLoad, hdBin, intBin, hdUn, hdConv, hdIdxAddr, hdIdx, hdSlice, bnd, hdCall, hdCallF, hdLen, hdMin, argsA, mapA, partsOk, partsF, lk, look, addR, evA, constA, HOut.ok, hty, hfs, tyAll, List.map, List.all, List.getElem?_cons_zero, List.getElem?_cons_succ, Option.bind_some, Option.map_some, Option.map_none, Option.getD_some, AV.pureA, Nat.reduceEqDiff, ↓reduceIte, reduceCtorEq, Nat.reduceLT, Nat.reduceLeDiff, Nat.reduceAdd, Nat.reduceMul, Int.reduceToNat, IntKind.bits, BEq.rfl, beq_self_eq_true, bne_self_eq_false, Int.reduceBEq, Int.reduceBNe, Int.reduceEq, Int.reduceNe, ne_eq, Int.reduceLT, Int.reduceLE, sNLess, eX, hlt]; (repeat refine And.intro (by first | omega | assumption | (and_intros <;> first | omega | assumption) | fail) ?_); refine hK _ ?_; clear hK K)
            | (refine T_cond rfl (fun hc => ?_) (fun hc => ?_) <;> (try simp only [cnds, reduceCtorEq] at hc) <;> (try (first | (exact hc.elim) | (exfalso; omega))))
          refine T_for (ι := Nat) (fun l => ⟨[(0, .rsl .i64 n f), (1, .rsl .i64 m g), (6, .sl 12 0 n), (7, .rsl .i64 l (dig 256 X)), (8, .int .i64 i)], [(12, ⟨.i64, n, updF q i c⟩)]⟩)
            (fun l => l ≤ 1 + L ∧ X < 256 ^ l) (fun l => l) ⟨1 + L, ⟨by omega, hXlt⟩, ?_⟩ (fun l hl => ?_)
          · (simp (disch := omega) only [Le, AllF, AllR, slotLe, rowLe, refsIn, Option.isSome_some, implies_true, forall_const, AV.int.injEq, AV.bool.injEq, AV.elt.injEq, Int.natCast_add, Int.cast_ofNat_Int, eqs, lk, look, AV.pureA, kill, AV.refs, hty, tyAll, Nat.reduceEqDiff, ↓reduceIte, reduceCtorEq, Nat.reduceLT, Nat.reduceLeDiff, Nat.reduceAdd, Nat.reduceMul, Int.reduceToNat, ne_eq] <;> repeat' (first | rfl | apply And.intro | omega))
          · obtain ⟨l0, l1⟩ := hl
            have fin : (l = 0 ∨ dig 256 X (l - 1) ≠ 0) → ∃ j : Nat × (Nat → Int), (j.1 ≤ n ∧ (∀ t, j.1 ≤ t → t < n → j.2 t = dig 256 (F / nv m g) t) ∧ ∀ t, t < j.1 → j.2 t = 0) ∧ j.1 < i + 1 ∧ F / 256 ^ j.1 % nv m g = X ∧ nd X = l ∧ j.1 = i ∧ j.2 = updF q i c := fun ht =>
              ⟨(i, updF q i c), ⟨by simp only; omega, fun t t1 t2 => by
                simp only at t1 ⊢
                by_cases e : i = t
                · subst e; rw [updF_same, hdd.2]
                · rw [updF_ne _ _ e]; exact hq t (by omega) t2, fun t t1 => by
                simp only at t1 ⊢
                rw [updF_ne _ _ (by omega)]; exact hqz t (by omega)⟩, by simp only; omega, hdd.1, nd_of k0 l1 ht, rfl, rfl⟩
            cases l with
            | zero =>
              obtain ⟨j, j1, j2, j3, j4, j5, j6⟩ := fin (.inl rfl)
              have z0 : ((0 : Nat) : Int) = 0 := rfl
              repeat' first
                | refine T_seq' ?_
                | refine T_block ?_
                | refine n_then ?_
                | refine x_then ?_
                | refine r_then ?_
                | refine n_block ?_
                | refine r_block ?_
                | refine x_block ?_
                | refine x_block' (by rfl) ?_
                | refine T_exit ?_
                | refine T_skip ?_
                | refine T_ret ?_
                | ((first | refine T_region hE (by rfl) (fun K hK => ?_) | refine T_draw hE (by rfl) (by kernel_rfl) (fun K hK => ?_)); simp (disch := omega) only [eqs, evs, stp, stepW, wantA, opStep, kindOf, headStep, skipStep, stStep, wrStep, cpStep, stA, appA, readSl, isSl, copyA, kill, AV.refs, hd, hdLoad, hdBin, intBin, hdUn, hdConv, hdIdxAddr, hdIdx, hdSlice, bnd, hdCall, hdCallF, hdLen, hdMin, argsA, mapA, partsOk, partsF, lk, look, addR, evA, constA, HOut.ok, hty, hfs, tyAll, List.map, List.all, List.getElem?_cons_zero, List.getElem?_cons_succ, Option.bind_some, Option.map_some, Option.map_none, Option.getD_some, AV.pureA, Nat.reduceEqDiff, ↓reduceIte, reduceCtorEq, Nat.reduceLT, Nat.reduceLeDiff, Nat.reduceAdd, Nat.reduceMul, Int.reduceToNat, IntKind.bits, BEq.rfl, beq_self_eq_true, bne_self_eq_false, Int.reduceBEq, Int.reduceBNe, Int.reduceEq, Int.reduceNe, ne_eq, Int.reduceLT, Int.reduceLE, z0]; (repeat refine And.intro (by first | omega | assumption | (and_intros <;> first | omega | assumption) | fail) ?_); refine hK _ ?_; clear hK K)
                | (refine T_cond rfl (fun hc => ?_) (fun hc => ?_) <;> (try simp only [cnds, reduceCtorEq] at hc) <;> (try (first | (exact hc.elim) | (exfalso; omega))))
              refine ⟨j, j1, j2, ?_⟩
              rw [j3, j4, j5, j6]
              (simp (disch := omega) only [Le, AllF, AllR, slotLe, rowLe, refsIn, Option.isSome_some, implies_true, forall_const, AV.int.injEq, AV.bool.injEq, AV.elt.injEq, Int.natCast_add, Int.cast_ofNat_Int, eqs, lk, look, AV.pureA, kill, AV.refs, hty, tyAll, Nat.reduceEqDiff, ↓reduceIte, reduceCtorEq, Nat.reduceLT, Nat.reduceLeDiff, Nat.reduceAdd, Nat.reduceMul, Int.reduceToNat, ne_eq] <;> repeat' (first | rfl | apply And.intro | omega))
            | succ l =>
              have e1 : (((l + 1 : Nat) : Int) - 1) = l := by omega
              have h2 : (0 : Int) < ((l + 1 : Nat) : Int) := by omega
              have h3 : ((l + 1 : Nat) : Int) < 2000 := by omega
              by_cases hd0 : dig 256 X l = 0
              · repeat' first
                  | refine T_seq' ?_
                  | refine T_block ?_
                  | refine n_then ?_
                  | refine x_then ?_
                  | refine r_then ?_
                  | refine n_block ?_
                  | refine r_block ?_
                  | refine x_block ?_
                  | refine x_block' (by rfl) ?_
                  | refine T_exit ?_
                  | refine T_skip ?_
                  | refine T_ret ?_
                  | ((first | refine T_region hE (by rfl) (fun K hK => ?_) | refine T_draw hE (by rfl) (by kernel_rfl) (fun K hK => ?_)); simp (disch := omega) only [eqs, evs, stp, stepW, wantA, opStep, kindOf, headStep, skipStep, stStep, wrStep, cpStep, stA, appA, readSl, isSl, copyA, kill, AV.refs, hd, hdLoad, hdBin, intBin, hdUn, hdConv, hdIdxAddr, hdIdx, hdSlice, bnd, hdCall, hdCallF, hdLen, hdMin, argsA, mapA, partsOk, partsF, lk, look, addR, evA, constA, HOut.ok, hty, hfs, tyAll, List.map, List.all, List.getElem?_cons_zero, List.getElem?_cons_succ, Option.bind_some, Option.map_some, Option.map_none, Option.getD_some, AV.pureA, Nat.reduceEqDiff, ↓reduceIte, reduceCtorEq, Nat.reduceLT, Nat.reduceLeDiff, Nat.reduceAdd, Nat.reduceMul, Int.reduceToNat, IntKind.bits, BEq.rfl, beq_self_eq_true, bne_self_eq_false, Int.reduceBEq, Int.reduceBNe, Int.reduceEq, Int.reduceNe, ne_eq, Int.reduceLT, Int.reduceLE, e1, h2, hd0]; (repeat refine And.intro (by first | omega | assumption | (and_intros <;> first | omega | assumption) | fail) ?_); refine hK _ ?_; clear hK K)
                  | (refine T_cond rfl (fun hc => ?_) (fun hc => ?_) <;> (try simp only [cnds, reduceCtorEq] at hc) <;> (try (first | (exact hc.elim) | (exfalso; omega))))
                refine ⟨l, ⟨by omega, ?_⟩, by omega, ?_⟩
                · rw [← eX] at l1
                  rcases Int.lt_or_le X (256 ^ l) with k | k
                  · exact k
                  · exfalso
                    rw [eX, Int.pow_succ] at l1
                    have hp : (0 : Int) < 256 ^ l := Int.pow_pos (by decide)
                    have b1 : 1 ≤ X / 256 ^ l := (Int.le_ediv_iff_mul_le hp).2 (by omega)
                    have b2 : X / 256 ^ l < 256 := Int.ediv_lt_of_lt_mul hp (by rw [Int.mul_comm]; exact l1)
                    unfold dig at hd0
                    omega
                · (simp (disch := omega) only [Le, AllF, AllR, slotLe, rowLe, refsIn, Option.isSome_some, implies_true, forall_const, AV.int.injEq, AV.bool.injEq, AV.elt.injEq, Int.natCast_add, Int.cast_ofNat_Int, eqs, lk, look, AV.pureA, kill, AV.refs, hty, tyAll, Nat.reduceEqDiff, ↓reduceIte, reduceCtorEq, Nat.reduceLT, Nat.reduceLeDiff, Nat.reduceAdd, Nat.reduceMul, Int.reduceToNat, ne_eq] <;> repeat' (first | rfl | apply And.intro | omega))
              · obtain ⟨j, j1, j2, j3, j4, j5, j6⟩ := fin (.inr (by rw [Nat.add_sub_cancel]; exact hd0))
                repeat' first
                  | refine T_seq' ?_
                  | refine T_block ?_
                  | refine n_then ?_
                  | refine x_then ?_
                  | refine r_then ?_
                  | refine n_block ?_
                  | refine r_block ?_
                  | refine x_block ?_
                  | refine x_block' (by rfl) ?_
                  | refine T_exit ?_
                  | refine T_skip ?_
                  | refine T_ret ?_
                  | ((first | refine T_region hE (by rfl) (fun K hK => ?_) | refine T_draw hE (by rfl) (by kernel_rfl) (fun K hK => ?_)); simp (disch := omega) only [eqs, evs, stp, stepW, wantA, opStep, kindOf, headStep, skipStep, stStep, wrStep, cpStep, stA, appA, readSl, isSl, copyA, kill, AV.refs, hd, hdLoad, hdBin, intBin, hdUn, hdConv, hdIdxAddr, hdIdx, hdSlice, bnd, hdCall, hdCallF, hdLen, hdMin, argsA, mapA, partsOk, partsF, lk, look, addR, evA, constA, HOut.ok, hty, hfs, tyAll, List.map, List.all, List.getElem?_cons_zero, List.getElem?_cons_succ, Option.bind_some, Option.map_some, Option.map_none, Option.getD_some, AV.pureA, Nat.reduceEqDiff, ↓reduceIte, reduceCtorEq, Nat.reduceLT, Nat.reduceLeDiff, Nat.reduceAdd, Nat.reduceMul, Int.reduceToNat, IntKind.bits, BEq.rfl, beq_self_eq_true, bne_self_eq_false, Int.reduceBEq, Int.reduceBNe, Int.reduceEq, Int.reduceNe, ne_eq, Int.reduceLT, Int.reduceLE, e1, h2, hd0]; (repeat refine And.intro (by first | omega | assumption | (and_intros <;> first | omega | assumption) | fail) ?_); refine hK _ ?_; clear hK K)
                  | (refine T_cond rfl (fun hc => ?_) (fun hc => ?_) <;> (try simp only [cnds, reduceCtorEq] at hc) <;> (try (first | (exact hc.elim) | (exfalso; omega))))
                refine ⟨j, j1, j2, ?_⟩
                rw [j3, j4, j5, j6]
                (simp (disch := omega) only [Le, AllF, AllR, slotLe, rowLe, refsIn, Option.isSome_some, implies_true, forall_const, AV.int.injEq, AV.bool.injEq, AV.elt.injEq, Int.natCast_add, Int.cast_ofNat_Int, eqs, lk, look, AV.pureA, kill, AV.refs, hty, tyAll, Nat.reduceEqDiff, ↓reduceIte, reduceCtorEq, Nat.reduceLT, Nat.reduceLeDiff, Nat.reduceAdd, Nat.reduceMul, Int.reduceToNat, ne_eq] <;> repeat' (first | rfl | apply And.intro | omega))
        · have hle : nv m g ≤ X := by omega
          have hle2 : nv m g ≤ nv (1 + L) (dig 256 X) := by rw [eX]; exact hle
          repeat' first
            | refine T_seq' ?_
            | refine T_block ?_
            | refine n_then ?_
            | refine x_then ?_
            | refine r_then ?_
            | refine n_block ?_
            | refine r_block ?_
            | refine x_block ?_
            | refine x_block' (by rfl) ?_
            | refine T_exit ?_
            | refine T_skip ?_
            | refine T_ret ?_
            | ((first | refine T_region hE (by rfl) (fun K hK => ?_) | refine T_draw hE (by rfl) (by kernel_rfl) (fun K hK => ?_)); simp (disch := omega) only [eqs, evs, stp, stepW, wantA, opStep, kindOf, headStep, skipStep, stStep, wrStep, cpStep, stA, appA, readSl, isSl, copyA, kill, AV.refs, hd, hdLoad, hdBin, intBin, hdUn, hdConv, hdIdxAddr, hdIdx, hdSlice, bnd, hdCall, hdCallF, hdLen, hdMin, argsA, mapA, partsOk, partsF, lk, look, addR, evA, constA, HOut.ok, hty, hfs, tyAll, List.map, List.all, List.getElem?_cons_zero, List.getElem?_cons_succ, Option.bind_some, Option.map_some, Option.map_none, Option.getD_some, AV.pureA, Nat.reduceEqDiff, ↓reduceIte, reduceCtorEq, Nat.reduceLT, Nat.reduceLeDiff, Nat.reduceAdd, Nat.reduceMul, Int.reduceToNat, IntKind.bits, BEq.rfl, beq_self_eq_true, bne_self_eq_false, Int.reduceBEq, Int.reduceBNe, Int.reduceEq, Int.reduceNe, ne_eq, Int.reduceLT, Int.reduceLE, sNLess, sNMinus, eX, hlt]; (repeat refine And.intro (by first | omega | assumption | (and_intros <;> first | omega | assumption) | fail) ?_); refine hK _ ?_; clear hK K)
            | (refine T_cond rfl (fun hc => ?_) (fun hc => ?_) <;> (try simp only [cnds, reduceCtorEq] at hc) <;> (try (first | (exact hc.elim) | (exfalso; omega))))
          refine ⟨(X - nv m g, c + 1), ⟨by simp only; omega, by simp only; omega, by simp only; rw [← ke]; grind⟩, by simp only; omega, ?_⟩
          (simp (disch := omega) only [Le, AllF, AllR, slotLe, rowLe, refsIn, Option.isSome_some, implies_true, forall_const, AV.int.injEq, AV.bool.injEq, AV.elt.injEq, Int.natCast_add, Int.cast_ofNat_Int, eqs, lk, look, AV.pureA, kill, AV.refs, hty, tyAll, Nat.reduceEqDiff, ↓reduceIte, reduceCtorEq, Nat.reduceLT, Nat.reduceLeDiff, Nat.reduceAdd, Nat.reduceMul, Int.reduceToNat, ne_eq, updF_two] <;> repeat' (first | rfl | apply And.intro | omega))

end Go.Proofs.YtijoifajbmhgdaaGreat.Sym
