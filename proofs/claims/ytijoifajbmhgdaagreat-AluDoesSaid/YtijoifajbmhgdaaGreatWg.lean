/- Words: products; words out of bytes. -/
import Derived.Test.YtijoifajbmhgdaaGreatWf
namespace Go.Proofs.YtijoifajbmhgdaaGreat.Sym
set_option linter.unusedVariables false
open Go Go.RowKit Num
set_option maxRecDepth 10000
set_option linter.unusedSimpArgs false

theorem wsum_upd (B : Int) (o : Nat → Int) (m : Nat) (v : Int) : ∀ n, m < n → wsum B (updF o m v) n = wsum B o n + (v - o m) * B ^ m
  | 0, h => by omega
  | n + 1, h => by
    rw [wsum_succ, wsum_succ]
    by_cases e : m = n
    · subst e
      rw [updF_same, wsum_congr (g := o) (fun j hj => updF_ne _ _ (by omega))]
      grind
    · rw [wsum_upd B o m v n (by omega), updF_ne _ _ e]
      grind
theorem W_upd {o : Nat → Int} {m : Nat} {v : Int} (h : W o) (hv : U v) : W (updF o m v) := fun j hj => by
  by_cases e : m = j
  · subst e; rw [updF_same]; exact hv
  · rw [updF_ne _ _ e]; exact h j hj
theorem mul_round {o g : Nat → Int} {c S fi T : Int} {i k : Nat} (hik : i + k < 4) (h : wsum B64 o 4 + c * B64 ^ (i + k) = S + fi * B64 ^ i * wsum B64 g k) (hT : T = fi * g k + o (i + k) + c) :
    wsum B64 (updF o (i + k) (T % B64)) 4 + T / B64 * B64 ^ (i + (k + 1)) = S + fi * B64 ^ i * wsum B64 g (k + 1) := by
  rw [wsum_upd _ _ _ _ _ hik, wsum_succ B64 g k]
  have e := Int.mul_ediv_add_emod T B64
  rw [← Nat.add_assoc, Int.pow_succ]
  have e2 : B64 ^ (i + k) = B64 ^ i * B64 ^ k := Int.pow_add _ _ _
  rw [e2] at h ⊢
  generalize T % B64 = r at *
  generalize T / B64 = q at *
  generalize B64 ^ i = b at *
  generalize B64 ^ k = b' at *
  grind

def sMul : List AV → SOut
  | [.arr .u64 4 f, .arr .u64 4 g] => ⟨W f ∧ W g, .arr .u64 4 (wl (wv f * wv g))⟩
  | _ => ⟨False, .und⟩
theorem c_WMul : Contract Tryz.prog 70 sMul := by
  refine fun_ok [(69, sMul64), (65, sAdd64)] ⟨c_Mul64, c_Add64, trivial⟩ Tryz.func70 rfl (by kernel_rfl) Tryz.ntmps70 Tryz.results70 (fun E hE hty hfs xs hp => ?_)
  unfold sMul at hp
  split at hp
  case h_2 => exact hp.elim
  rename_i f g
  obtain ⟨hf, hg⟩ := hp
  refine ⟨by simp, fun Q hQ => ?_⟩
  simp only [params, Nat.reduceAdd]
  repeat' first
    | refine T_seq' ?_
    | refine T_block ?_
    | refine n_then ?_
    | refine x_then ?_
    | refine r_then ?_
    | refine n_block ?_
    | refine r_block ?_
    | refine x_block ?_
    | refine x_block' (by rfl) ?_
    | refine T_exit ?_
    | refine T_skip ?_
    | refine T_ret ?_
    | ((first | refine T_region hE (by rfl) (fun K hK => ?_) | refine T_draw hE (by rfl) (by kernel_rfl) (fun K hK => ?_)); simp (disch := omega) only [eqs, evs, stp, stepW, wantA, opStep, kindOf, headStep, skipStep, stStep, wrStep, cpStep, stA, appA, readSl, isSl, copyA, kill, AV.refs, hd, hdLoad, hdBin, intBin, hdUn, hdConv, hdIdxAddr, hdIdx, hdSlice, bnd, hdCall, hdCallF, hdLen, hdMin, argsA, mapA, partsOk, partsF, lk, look, addR, evA, constA, HOut.ok, hty, hfs, tyAll, List.map, List.all, List.getElem?_cons_zero, List.getElem?_cons_succ, Option.bind_some, Option.map_some, Option.map_none, Option.getD_some, AV.pureA, Nat.reduceEqDiff, ↓reduceIte, reduceCtorEq, Nat.reduceLT, Nat.reduceLeDiff, Nat.reduceAdd, Nat.reduceMul, Int.reduceToNat, IntKind.bits, BEq.rfl, beq_self_eq_true, bne_self_eq_false, Int.reduceBEq, Int.reduceBNe, Int.reduceEq, Int.reduceNe, ne_eq, Int.reduceLT, Int.reduceLE]; (repeat refine And.intro (by first | omega | assumption | (and_intros <;> first | omega | assumption) | fail) ?_); refine hK _ ?_; clear hK K)
    | (refine T_cond rfl (fun hc => ?_) (fun hc => ?_) <;> (try simp only [cnds, reduceCtorEq] at hc) <;> (try (first | (exact hc.elim) | (exfalso; omega))))
  refine T_for (ι := Nat × (Nat → Int)) (fun i => ⟨[(2, .elt 2 0), (3, .elt 3 0), (4, .elt 4 0), (5, .elt 5 0), (12, .int .i64 i.1)],
      [(2, ⟨.u64, 4, f⟩), (3, ⟨.u64, 4, g⟩), (4, ⟨.u64, 4, fun _ => 0⟩), (5, ⟨.u64, 4, i.2⟩)]⟩)
    (fun i => i.1 ≤ 4 ∧ W i.2 ∧ ∃ z, wv i.2 + z * M = wsum B64 f i.1 * wv g) (fun i => 4 - i.1)
    ⟨(0, fun _ => 0), ⟨by simp, fun j hj => by simp [B64], 0, by simp [wsum, wv]⟩, ?_⟩ (fun i hi => ?_)
  · (simp (disch := omega) only [Le, AllF, AllR, slotLe, rowLe, refsIn, Option.isSome_some, implies_true, forall_const, AV.int.injEq, AV.bool.injEq, AV.elt.injEq, Int.natCast_add, Int.cast_ofNat_Int, eqs, lk, look, AV.pureA, kill, AV.refs, hty, tyAll, Nat.reduceEqDiff, ↓reduceIte, reduceCtorEq, Nat.reduceLT, Nat.reduceLeDiff, Nat.reduceAdd, Nat.reduceMul, Int.reduceToNat, ne_eq] <;> repeat' (first | rfl | apply And.intro | omega))
  · obtain ⟨i, o0⟩ := i
    obtain ⟨hi, ho0, z, hz⟩ := hi
    simp only at hi ho0 hz ⊢
    by_cases hlt : i < 4
    · have fi := W_U hf i hlt
      unfold U at fi
      repeat' first
        | refine T_seq' ?_
        | refine T_block ?_
        | refine n_then ?_
        | refine x_then ?_
        | refine r_then ?_
        | refine n_block ?_
        | refine r_block ?_
        | refine x_block ?_
        | refine x_block' (by rfl) ?_
        | refine T_exit ?_
        | refine T_skip ?_
        | refine T_ret ?_
        | ((first | refine T_region hE (by rfl) (fun K hK => ?_) | refine T_draw hE (by rfl) (by kernel_rfl) (fun K hK => ?_)); simp (disch := omega) only [eqs, evs, stp, stepW, wantA, opStep, kindOf, headStep, skipStep, stStep, wrStep, cpStep, stA, appA, readSl, isSl, copyA, kill, AV.refs, hd, hdLoad, hdBin, intBin, hdUn, hdConv, hdIdxAddr, hdIdx, hdSlice, bnd, hdCall, hdCallF, hdLen, hdMin, argsA, mapA, partsOk, partsF, lk, look, addR, evA, constA, HOut.ok, hty, hfs, tyAll, List.map, List.all, List.getElem?_cons_zero, List.getElem?_cons_succ, Option.bind_some, Option.map_some, Option.map_none, Option.getD_some, AV.pureA, Nat.reduceEqDiff, ↓reduceIte, reduceCtorEq, Nat.reduceLT, Nat.reduceLeDiff, Nat.reduceAdd, Nat.reduceMul, Int.reduceToNat, IntKind.bits, BEq.rfl, beq_self_eq_true, bne_self_eq_false, Int.reduceBEq, Int.reduceBNe, Int.reduceEq, Int.reduceNe, ne_eq, Int.reduceLT, Int.reduceLE]; (repeat refine And.intro (by first | omega | assumption | (and_intros <;> first | omega | assumption) | fail) ?_); refine hK _ ?_; clear hK K)
        | (refine T_cond rfl (fun hc => ?_) (fun hc => ?_) <;> (try simp only [cnds, reduceCtorEq] at hc) <;> (try (first | (exact hc.elim) | (exfalso; omega))))
      refine T_for (ι := Nat × (Nat → Int) × Int) (fun k => ⟨[(2, .elt 2 0), (3, .elt 3 0), (4, .elt 4 0), (5, .elt 5 0), (12, .int .i64 i), (6, .int .i64 i), (7, .int .u64 k.2.2), (8, .int .i64 k.1)],
          [(2, ⟨.u64, 4, f⟩), (3, ⟨.u64, 4, g⟩), (4, ⟨.u64, 4, fun _ => 0⟩), (5, ⟨.u64, 4, k.2.1⟩)]⟩)
        (fun k => i + k.1 ≤ 4 ∧ W k.2.1 ∧ U k.2.2 ∧ wsum B64 k.2.1 4 + k.2.2 * B64 ^ (i + k.1) = wsum B64 o0 4 + f i * B64 ^ i * wsum B64 g k.1) (fun k => 4 - k.1)
        ⟨(0, o0, 0), ⟨by simp only; omega, ho0, ⟨by simp, by simp⟩, by simp [wsum]⟩, ?_⟩ (fun k hk => ?_)
      · (simp (disch := omega) only [Le, AllF, AllR, slotLe, rowLe, refsIn, Option.isSome_some, implies_true, forall_const, AV.int.injEq, AV.bool.injEq, AV.elt.injEq, Int.natCast_add, Int.cast_ofNat_Int, eqs, lk, look, AV.pureA, kill, AV.refs, hty, tyAll, Nat.reduceEqDiff, ↓reduceIte, reduceCtorEq, Nat.reduceLT, Nat.reduceLeDiff, Nat.reduceAdd, Nat.reduceMul, Int.reduceToNat, ne_eq] <;> repeat' (first | rfl | apply And.intro | omega))
      · obtain ⟨k, o, c⟩ := k
        obtain ⟨hk, ho, hc, hs⟩ := hk
        simp only at hk ho hc hs ⊢
        by_cases hkl : i + k < 4
        · have gk := W_U hg k (by omega)
          have oik := W_U ho (i + k) hkl
          unfold U at gk oik hc
          have hP : 0 ≤ f i * g k ∧ f i * g k ≤ 340282366920938463426481119284349108225 := ⟨Int.mul_nonneg fi.1 gk.1, by
            have := Int.mul_le_mul (show f i ≤ 18446744073709551615 by omega) (show g k ≤ 18446744073709551615 by omega) gk.1 (by decide)
            simpa using this⟩
          have e0 : ((i : Int) + (k : Int)).toNat = i + k := by omega
          have e1 : ((f i * g k % 18446744073709551616 + o (i + k) + 0) % 18446744073709551616 + c + 0) % 18446744073709551616 = (f i * g k + o (i + k) + c) % 18446744073709551616 := by omega
          have e2 : f i * g k / 18446744073709551616 + (f i * g k % 18446744073709551616 + o (i + k) + 0) / 18446744073709551616 + ((f i * g k % 18446744073709551616 + o (i + k) + 0) % 18446744073709551616 + c + 0) / 18446744073709551616 = (f i * g k + o (i + k) + c) / 18446744073709551616 := by omega
          repeat' first
            | refine T_seq' ?_
            | refine T_block ?_
            | refine n_then ?_
            | refine x_then ?_
            | refine r_then ?_
            | refine n_block ?_
            | refine r_block ?_
            | refine x_block ?_
            | refine x_block' (by rfl) ?_
            | refine T_exit ?_
            | refine T_skip ?_
            | refine T_ret ?_
            | ((first | refine T_region hE (by rfl) (fun K hK => ?_) | refine T_draw hE (by rfl) (by kernel_rfl) (fun K hK => ?_)); simp (disch := omega) only [eqs, evs, stp, stepW, wantA, opStep, kindOf, headStep, skipStep, stStep, wrStep, cpStep, stA, appA, readSl, isSl, copyA, kill, AV.refs, hd, hdLoad, hdBin, intBin, hdUn, hdConv, hdIdxAddr, hdIdx, hdSlice, bnd, hdCall, hdCallF, hdLen, hdMin, argsA, mapA, partsOk, partsF, lk, look, addR, evA, constA, HOut.ok, hty, hfs, tyAll, List.map, List.all, List.getElem?_cons_zero, List.getElem?_cons_succ, Option.bind_some, Option.map_some, Option.map_none, Option.getD_some, AV.pureA, Nat.reduceEqDiff, ↓reduceIte, reduceCtorEq, Nat.reduceLT, Nat.reduceLeDiff, Nat.reduceAdd, Nat.reduceMul, Int.reduceToNat, IntKind.bits, BEq.rfl, beq_self_eq_true, bne_self_eq_false, Int.reduceBEq, Int.reduceBNe, Int.reduceEq, Int.reduceNe, ne_eq, Int.reduceLT, Int.reduceLE, sMul64, sAdd64, e0, e1, e2]; (repeat refine And.intro (by first | omega | assumption | (and_intros <;> first | omega | assumption) | fail) ?_); refine hK _ ?_; clear hK K)
            | (refine T_cond rfl (fun hc => ?_) (fun hc => ?_) <;> (try simp only [cnds, reduceCtorEq] at hc) <;> (try (first | (exact hc.elim) | (exfalso; omega))))
          refine ⟨(k + 1, updF o (i + k) ((f i * g k + o (i + k) + c) % 18446744073709551616), (f i * g k + o (i + k) + c) / 18446744073709551616), ⟨by simp only; omega, W_upd ho ⟨by omega, by omega⟩, ⟨by simp only; omega, by simp only; omega⟩, mul_round hkl hs rfl⟩, by simp only; omega, ?_⟩
          (simp (disch := omega) only [Le, AllF, AllR, slotLe, rowLe, refsIn, Option.isSome_some, implies_true, forall_const, AV.int.injEq, AV.bool.injEq, AV.elt.injEq, Int.natCast_add, Int.cast_ofNat_Int, eqs, lk, look, AV.pureA, kill, AV.refs, hty, tyAll, Nat.reduceEqDiff, ↓reduceIte, reduceCtorEq, Nat.reduceLT, Nat.reduceLeDiff, Nat.reduceAdd, Nat.reduceMul, Int.reduceToNat, ne_eq] <;> repeat' (first | rfl | apply And.intro | omega))
        · repeat' first
            | refine T_seq' ?_
            | refine T_block ?_
            | refine n_then ?_
            | refine x_then ?_
            | refine r_then ?_
            | refine n_block ?_
            | refine r_block ?_
            | refine x_block ?_
            | refine x_block' (by rfl) ?_
            | refine T_exit ?_
            | refine T_skip ?_
            | refine T_ret ?_
            | ((first | refine T_region hE (by rfl) (fun K hK => ?_) | refine T_draw hE (by rfl) (by kernel_rfl) (fun K hK => ?_)); simp (disch := omega) only [eqs, evs, stp, stepW, wantA, opStep, kindOf, headStep, skipStep, stStep, wrStep, cpStep, stA, appA, readSl, isSl, copyA, kill, AV.refs, hd, hdLoad, hdBin, intBin, hdUn, hdConv, hdIdxAddr, hdIdx, hdSlice, bnd, hdCall, hdCallF, hdLen, hdMin, argsA, mapA, partsOk, partsF, lk, look, addR, evA, constA, HOut.ok, hty, hfs, tyAll, List.map, List.all, List.getElem?_cons_zero, List.getElem?_cons_succ, Option.bind_some, Option.map_some, Option.map_none, Option.getD_some, AV.pureA, Nat.reduceEqDiff, ↓reduceIte, reduceCtorEq, Nat.reduceLT, Nat.reduceLeDiff, Nat.reduceAdd, Nat.reduceMul, Int.reduceToNat, IntKind.bits, BEq.rfl, beq_self_eq_true, bne_self_eq_false, Int.reduceBEq, Int.reduceBNe, Int.reduceEq, Int.reduceNe, ne_eq, Int.reduceLT, Int.reduceLE]; (repeat refine And.intro (by first | omega | assumption | (and_intros <;> first | omega | assumption) | fail) ?_); refine hK _ ?_; clear hK K)
            | (refine T_cond rfl (fun hc => ?_) (fun hc => ?_) <;> (try simp only [cnds, reduceCtorEq] at hc) <;> (try (first | (exact hc.elim) | (exfalso; omega))))
          obtain rfl : k = 4 - i := by omega
          rw [show i + (4 - i) = 4 from by omega, B64_pow4] at hs
          refine ⟨(i + 1, o), ⟨by simp only; omega, ho, z + c + f i * wsum B64 (fun j => g (4 - i + j)) i, ?_⟩, by simp only; omega, ?_⟩
          · simp only
            have e1 := wsum_split B64 g (4 - i) i
            rw [show 4 - i + i = 4 from by omega] at e1
            have e2 : B64 ^ i * B64 ^ (4 - i) = M := by rw [← Int.pow_add, show i + (4 - i) = 4 from by omega, B64_pow4]
            unfold wv at hz ⊢
            rw [wsum_succ B64 f i]
            generalize wsum B64 (fun j => g (4 - i + j)) i = G at *
            generalize wsum B64 g (4 - i) = G' at *
            generalize B64 ^ i = b at *
            generalize B64 ^ (4 - i) = b' at *
            rw [e1] at hz ⊢
            grind
          · (simp (disch := omega) only [Le, AllF, AllR, slotLe, rowLe, refsIn, Option.isSome_some, implies_true, forall_const, AV.int.injEq, AV.bool.injEq, AV.elt.injEq, Int.natCast_add, Int.cast_ofNat_Int, eqs, lk, look, AV.pureA, kill, AV.refs, hty, tyAll, Nat.reduceEqDiff, ↓reduceIte, reduceCtorEq, Nat.reduceLT, Nat.reduceLeDiff, Nat.reduceAdd, Nat.reduceMul, Int.reduceToNat, ne_eq] <;> repeat' (first | rfl | apply And.intro | omega))
    · repeat' first
        | refine T_seq' ?_
        | refine T_block ?_
        | refine n_then ?_
        | refine x_then ?_
        | refine r_then ?_
        | refine n_block ?_
        | refine r_block ?_
        | refine x_block ?_
        | refine x_block' (by rfl) ?_
        | refine T_exit ?_
        | refine T_skip ?_
        | refine T_ret ?_
        | ((first | refine T_region hE (by rfl) (fun K hK => ?_) | refine T_draw hE (by rfl) (by kernel_rfl) (fun K hK => ?_)); simp (disch := omega) only [eqs, evs, stp, stepW, wantA, opStep, kindOf, headStep, skipStep, stStep, wrStep, cpStep, stA, appA, readSl, isSl, copyA, kill, AV.refs, hd, hdLoad, hdBin, intBin, hdUn, hdConv, hdIdxAddr, hdIdx, hdSlice, bnd, hdCall, hdCallF, hdLen, hdMin, argsA, mapA, partsOk, partsF, lk, look, addR, evA, constA, HOut.ok, hty, hfs, tyAll, List.map, List.all, List.getElem?_cons_zero, List.getElem?_cons_succ, Option.bind_some, Option.map_some, Option.map_none, Option.getD_some, AV.pureA, Nat.reduceEqDiff, ↓reduceIte, reduceCtorEq, Nat.reduceLT, Nat.reduceLeDiff, Nat.reduceAdd, Nat.reduceMul, Int.reduceToNat, IntKind.bits, BEq.rfl, beq_self_eq_true, bne_self_eq_false, Int.reduceBEq, Int.reduceBNe, Int.reduceEq, Int.reduceNe, ne_eq, Int.reduceLT, Int.reduceLE]; (repeat refine And.intro (by first | omega | assumption | (and_intros <;> first | omega | assumption) | fail) ?_); refine hK _ ?_; clear hK K)
        | (refine T_cond rfl (fun hc => ?_) (fun hc => ?_) <;> (try simp only [cnds, reduceCtorEq] at hc) <;> (try (first | (exact hc.elim) | (exfalso; omega))))
      refine hQ _ ?_
      simp (disch := omega) only [resOk, res1, retOk, eqs, lk, look, AV.pureA, kill, AV.refs, hty, tyAll, Nat.reduceEqDiff, ↓reduceIte, reduceCtorEq, Nat.reduceLT, Nat.reduceLeDiff, Nat.reduceAdd, Nat.reduceMul, Int.reduceToNat, ne_eq, sMul]
      intro j hj
      obtain rfl : i = 4 := by omega
      exact wl_of ho0 (mod_of (c := z) (by unfold wv at hz ⊢; exact hz) (wv_bd ho0).1 (wv_bd ho0).2) j hj

end Go.Proofs.YtijoifajbmhgdaaGreat.Sym
