/- The laws of fees. -/
import Derived.Test.YtijoifajbmhgdaaFc
import Derived.Test.YtijoifajbmhgdaaSymI
import Derived.Test.YtijoifajbmhgdaaLa
namespace Go.Proofs.Ytijoifajbmhgdaa.Sym
set_option linter.unusedVariables false
open Go Go.RowKit Num
set_option maxRecDepth 10000
set_option linter.unusedSimpArgs false

theorem c_fixed21 : Contract Try.prog 61 sFixed1 := by
  refine fun_ok [(62, sNext)] ⟨c_FNext, trivial⟩ Try.func61 rfl (by kernel_rfl) Try.ntmps61 Try.results61 (fun E hE hty hfs xs hp => ?_)
  unfold sFixed1 at hp
  split at hp
  case h_2 => exact hp.elim
  have w1000 := one_wl (x := 1000) (by decide) (by decide)
  have w1125 := one_wl (x := 1125) (by decide) (by decide)
  have w875 := one_wl (x := 875) (by decide) (by decide)
  have w1 := one_wl (x := 1) (by decide) (by decide)
  have w2 := one_wl (x := 2) (by decide) (by decide)
  have v1000 := wv_small (x := 1000) (by decide) (by decide)
  have v1 := wv_small (x := 1) (by decide) (by decide)
  have e1 : eqA 4 (wl (nextV 1000 20 20)) (wl 1125) = true := eqW (by decide)
  have e2 : eqA 4 (wl (nextV 1000 10 20)) (wl 1000) = true := eqW (by decide)
  have e3 : eqA 4 (wl (nextV 1000 0 20)) (wl 875) = true := eqW (by decide)
  have e4 : eqA 4 (wl (nextV 1 11 20)) (wl 2) = true := eqW (by decide)
  refine ⟨by simp, fun Q hQ => ?_⟩
  simp only [params, Nat.reduceAdd]
  repeat' first
    | refine T_seq' ?_
    | refine T_block ?_
    | refine n_then ?_
    | refine x_then ?_
    | refine r_then ?_
    | refine n_block ?_
    | refine r_block ?_
    | refine x_block ?_
    | refine x_block' (by rfl) ?_
    | refine T_exit ?_
    | refine T_skip ?_
    | refine T_ret ?_
    | ((first | refine T_region hE (by rfl) (fun K hK => ?_) | refine T_draw hE (by rfl) (by kernel_rfl) (fun K hK => ?_)); simp (disch := omega) only [eqs, evs, stp, stepW, wantA, opStep, kindOf, headStep, skipStep, stStep, wrStep, cpStep, stA, appA, readSl, isSl, copyA, kill, AV.refs, hd, hdLoad, hdBin, intBin, hdUn, hdConv, hdIdxAddr, hdIdx, hdSlice, bnd, hdCall, hdCallF, hdLen, hdMin, argsA, mapA, partsOk, partsF, lk, look, addR, evA, constA, HOut.ok, hty, hfs, tyAll, List.map, List.all, List.getElem?_cons_zero, List.getElem?_cons_succ, Option.bind_some, Option.map_some, Option.map_none, Option.getD_some, AV.pureA, Nat.reduceEqDiff, ↓reduceIte, reduceCtorEq, Nat.reduceLT, Nat.reduceLeDiff, Nat.reduceAdd, Nat.reduceMul, Int.reduceToNat, IntKind.bits, BEq.rfl, beq_self_eq_true, bne_self_eq_false, Int.reduceBEq, Int.reduceBNe, Int.reduceEq, Int.reduceNe, ne_eq, Int.reduceLT, Int.reduceLE, w1000, w1125, w875, w1, w2, W_wl, sNext, v1000, v1, e1, e2, e3, e4]; (repeat refine And.intro (by first | omega | assumption | (and_intros <;> first | omega | assumption) | fail) ?_); refine hK _ ?_; clear hK K)
    | (refine T_cond rfl (fun hc => ?_) (fun hc => ?_) <;> (try simp only [cnds, reduceCtorEq] at hc) <;> (try (first | (exact hc.elim) | (exfalso; omega))))
  refine hQ _ ?_
  simp (disch := omega) only [resOk, res1, retOk, eqs, lk, look, AV.pureA, kill, AV.refs, hty, tyAll, Nat.reduceEqDiff, ↓reduceIte, reduceCtorEq, Nat.reduceLT, Nat.reduceLeDiff, Nat.reduceAdd, Nat.reduceMul, Int.reduceToNat, ne_eq, sFixed1]

def sLawQQ : List AV → SOut
  | [.arr .u64 4 f, .int .u64 u, .int .u64 l] => ⟨W f ∧ (0 ≤ u ∧ u < 18446744073709551616) ∧ (0 ≤ l ∧ l < 18446744073709551616), .bool true⟩
  | _ => ⟨False, .und⟩
theorem c_FeeNext : Contract Try.prog 12 sLawQQ := by
  refine fun_ok [(61, sFixed1), (62, sNext), (63, sNext), (64, sStepF), (65, sStepF)] ⟨c_fixed21, c_FNext, c_RNext, c_FStep, c_RStep, trivial⟩ Try.func12 rfl (by kernel_rfl) Try.ntmps12 Try.results12 (fun E hE hty hfs xs hp => ?_)
  unfold sLawQQ at hp
  split at hp
  case h_2 => exact hp.elim
  rename_i f u l
  obtain ⟨hf, ⟨u0, u1⟩, l0, l1⟩ := hp
  refine ⟨by simp, fun Q hQ => ?_⟩
  simp only [params, Nat.reduceAdd]
  repeat' first
    | refine T_seq' ?_
    | refine T_block ?_
    | refine n_then ?_
    | refine x_then ?_
    | refine r_then ?_
    | refine n_block ?_
    | refine r_block ?_
    | refine x_block ?_
    | refine x_block' (by rfl) ?_
    | refine T_exit ?_
    | refine T_skip ?_
    | refine T_ret ?_
    | ((first | refine T_region hE (by rfl) (fun K hK => ?_) | refine T_draw hE (by rfl) (by kernel_rfl) (fun K hK => ?_)); simp (disch := omega) only [eqs, evs, stp, stepW, wantA, opStep, kindOf, headStep, skipStep, stStep, wrStep, cpStep, stA, appA, readSl, isSl, copyA, kill, AV.refs, hd, hdLoad, hdBin, intBin, hdUn, hdConv, hdIdxAddr, hdIdx, hdSlice, bnd, hdCall, hdCallF, hdLen, hdMin, argsA, mapA, partsOk, partsF, lk, look, addR, evA, constA, HOut.ok, hty, hfs, tyAll, List.map, List.all, List.getElem?_cons_zero, List.getElem?_cons_succ, Option.bind_some, Option.map_some, Option.map_none, Option.getD_some, AV.pureA, Nat.reduceEqDiff, ↓reduceIte, reduceCtorEq, Nat.reduceLT, Nat.reduceLeDiff, Nat.reduceAdd, Nat.reduceMul, Int.reduceToNat, IntKind.bits, BEq.rfl, beq_self_eq_true, bne_self_eq_false, Int.reduceBEq, Int.reduceBNe, Int.reduceEq, Int.reduceNe, ne_eq, Int.reduceLT, Int.reduceLE, sFixed1, sNext, sStepF, eqA_refl]; (repeat refine And.intro (by first | omega | assumption | (and_intros <;> first | omega | assumption) | fail) ?_); refine hK _ ?_; clear hK K)
    | (refine T_cond rfl (fun hc => ?_) (fun hc => ?_) <;> (try simp only [cnds, reduceCtorEq] at hc) <;> (try (first | (exact hc.elim) | (exfalso; omega))))
  refine hQ _ ?_
  simp (disch := omega) only [resOk, res1, retOk, eqs, lk, look, AV.pureA, kill, AV.refs, hty, tyAll, Nat.reduceEqDiff, ↓reduceIte, reduceCtorEq, Nat.reduceLT, Nat.reduceLeDiff, Nat.reduceAdd, Nat.reduceMul, Int.reduceToNat, ne_eq, sLawQQ]

theorem step_mono {b g g' t : Int} (hb : 0 ≤ b) (hg : 0 ≤ g) (h : g ≤ g') (ht : 0 ≤ t) : stepV b g t ≤ stepV b g' t := by
  have h1 : b * g ≤ b * g' := Int.mul_le_mul_of_nonneg_left h hb
  unfold stepV
  by_cases hz : t = 0
  · rw [if_pos hz, if_pos hz]; exact Int.le_refl _
  · rw [if_neg hz, if_neg hz]
    have h2 : b * g / t ≤ b * g' / t := Int.ediv_le_ediv (by omega) h1
    have h3 : b * g / t / 8 ≤ b * g' / t / 8 := Int.ediv_le_ediv (by decide) h2
    split <;> split <;> omega
theorem step_le {b g t : Int} (hb : 0 ≤ b) (hM : b < M) (hg : 0 ≤ g) (h : g ≤ t) (ht : 0 < t) : stepV b g t ≤ b / 8 := by
  have h1 : b * g ≤ b * t := Int.mul_le_mul_of_nonneg_left h hb
  have h2 : b * g / t ≤ b := Int.ediv_le_of_le_mul ht h1
  have h3 : b * g / t / 8 ≤ b / 8 := Int.ediv_le_ediv (by decide) h2
  unfold stepV
  rw [if_neg (by omega), if_neg (by omega)]
  exact h3
theorem cap_le {a : Int} : capV a ≤ a := by unfold capV; split <;> omega
theorem cap_mono {a b : Int} (h : a ≤ b) : capV a ≤ capV b := by unfold capV; split <;> split <;> omega
theorem cap_ge {a b : Int} (hM : b < M) (h : b ≤ a) : b ≤ capV a := by unfold capV; split <;> omega
theorem up_mono {b s s' : Int} (h0 : 0 ≤ s) (h : s ≤ s') : upV b s ≤ upV b s' := by
  unfold upV
  exact cap_mono (by split <;> split <;> omega)
theorem up_ge {b s : Int} (hM : b < M) (h0 : 0 ≤ s) : b ≤ upV b s := by
  unfold upV
  exact cap_ge hM (by split <;> omega)
theorem next_eighth {b u l : Int} (h0 : 0 ≤ b) (h1 : b < M) (hl : 0 < l / 2) (h2 : l = 2 * (l / 2)) (hu : 0 ≤ u) (hul : u < l) : nextV b u l ≤ b + (b / 8 + 1) ∧ b ≤ nextV b u l + b / 8 := by
  unfold nextV
  generalize l / 2 = t at *
  have hb8 : 0 ≤ b / 8 := by omega
  split
  · omega
  · rename_i hs
    split
    · rename_i hlt
      have hd := step_le (g := t - u) h0 h1 (by omega) (by omega) hl
      have hd0 := stepV_bd (g := t - u) (t := t) h0 (by omega) (by omega)
      split <;> omega
    · rename_i hlt
      have hd := step_le (g := u - t) h0 h1 (by omega) (by omega) hl
      have hd0 := stepV_bd (g := u - t) (t := t) h0 (by omega) (by omega)
      have hge := up_ge (s := stepV b (u - t) t) h1 hd0.1
      have hle : upV b (stepV b (u - t) t) ≤ b + (b / 8 + 1) := by
        unfold upV
        refine Int.le_trans cap_le ?_
        split <;> omega
      omega
theorem next_mono {b u m l : Int} (h0 : 0 ≤ b) (h1 : b < M) (hu : 0 ≤ u) (hl : 0 ≤ l) (h : u ≤ m) : nextV b u l ≤ nextV b m l := by
  obtain ⟨t, ht⟩ : ∃ t, l / 2 = t := ⟨_, rfl⟩
  have t0 : 0 ≤ t := by omega
  by_cases hz : t = 0
  · rw [next_same ht (.inl hz), next_same ht (.inl hz)]; exact Int.le_refl _
  · by_cases c1 : u < t
    · have du := stepV_bd (g := t - u) (t := t) h0 (by omega) t0
      rw [next_down ht (by omega) c1]
      by_cases c2 : m < t
      · have hm := step_mono (g := t - m) (g' := t - u) h0 (by omega) (by omega) t0
        have dm := stepV_bd (g := t - m) (t := t) h0 (by omega) t0
        rw [next_down ht (by omega) c2]
        split <;> split <;> omega
      · by_cases c3 : m = t
        · rw [next_same ht (.inr c3)]
          split <;> omega
        · have dm := stepV_bd (g := m - t) (t := t) h0 (by omega) t0
          have hge := up_ge (s := stepV b (m - t) t) h1 dm.1
          rw [next_up ht (by omega) c2]
          split <;> omega
    · by_cases c2 : u = t
      · rw [next_same ht (.inr c2)]
        by_cases c3 : m = t
        · rw [next_same ht (.inr c3)]; exact Int.le_refl _
        · have dm := stepV_bd (g := m - t) (t := t) h0 (by omega) t0
          rw [next_up ht (by omega) (by omega)]
          exact up_ge h1 dm.1
      · have du := stepV_bd (g := u - t) (t := t) h0 (by omega) t0
        rw [next_up ht (by omega) c1, next_up ht (by omega) (by omega)]
        exact up_mono du.1 (step_mono h0 (by omega) (by omega) t0)

theorem one_digit {x : Int} (h0 : 0 ≤ x) (h1 : x < 256) : Dg 256 1 (updF (fun _ => 0) 0 x) := fun j hj => by
  have e : j = 0 := by omega
  subst e
  rw [updF_same]
  exact ⟨h0, h1⟩

theorem c_FeeEighth : Contract Try.prog 13 sLawQQ := by
  refine fun_ok [(61, sFixed1), (67, sNOf), (66, sNDiv), (62, sNext), (68, sNPlus), (69, sNLess)] ⟨c_fixed21, c_NOf, c_NDiv, c_FNext, c_NPlus, c_NLess, trivial⟩ Try.func13 rfl (by kernel_rfl) Try.ntmps13 Try.results13 (fun E hE hty hfs xs hp => ?_)
  unfold sLawQQ at hp
  split at hp
  case h_2 => exact hp.elim
  rename_i f u l
  obtain ⟨hf, ⟨u0, u1⟩, l0, l1⟩ := hp
  have hp : True := trivial
  have fb := wv_bd hf
  refine ⟨by simp, fun Q hQ => ?_⟩
  simp only [params, Nat.reduceAdd]
  obtain ⟨l', hl'⟩ : ∃ l', l - l % 2 = l' := ⟨_, rfl⟩
  have l'0 : 0 ≤ l' := by omega
  have l'1 : l' < 18446744073709551616 := by omega
  by_cases hz : l' = 0
  · subst hz
    repeat' first
      | refine T_seq' ?_
      | refine T_block ?_
      | refine n_then ?_
      | refine x_then ?_
      | refine r_then ?_
      | refine n_block ?_
      | refine r_block ?_
      | refine x_block ?_
      | refine x_block' (by rfl) ?_
      | refine T_exit ?_
      | refine T_skip ?_
      | refine T_ret ?_
      | (refine T_region hE (by rfl) (fun K hK => ?_); simp (disch := omega) only [eqs, evs, stp, stepW, wantA, opStep, kindOf, headStep, skipStep, stStep, wrStep, cpStep, stA, appA, readSl, isSl, copyA, kill, AV.refs, hd, hdLoad, hdBin, intBin, hdUn, hdConv, hdIdxAddr, hdIdx, hdSlice, bnd, hdCall, hdCallF, hdLen, hdMin, argsA, mapA, partsOk, partsF, lk, look, addR, evA, constA, HOut.ok, hty, hfs, tyAll, List.map, List.all, List.getElem?_cons_zero, List.getElem?_cons_succ, Option.bind_some, Option.map_some, Option.map_none, Option.getD_some, AV.pureA, Nat.reduceEqDiff, ↓reduceIte, reduceCtorEq, Nat.reduceLT, Nat.reduceLeDiff, Nat.reduceAdd, Nat.reduceMul, Int.reduceToNat, IntKind.bits, BEq.rfl, beq_self_eq_true, bne_self_eq_false, Int.reduceBEq, Int.reduceBNe, Int.reduceEq, Int.reduceNe, ne_eq, Int.reduceLT, Int.reduceLE, hl', sFixed1]; (repeat refine And.intro (by first | omega | assumption | (and_intros <;> first | omega | assumption) | fail) ?_); refine hK _ ?_; clear hK K)
      | (refine T_cond rfl (fun hc => ?_) (fun hc => ?_) <;> (try simp only [cnds, reduceCtorEq] at hc) <;> (try (first | (exact hc.elim) | (exfalso; omega))))
    refine hQ _ ?_
    simp (disch := omega) only [resOk, res1, retOk, eqs, lk, look, AV.pureA, kill, AV.refs, hty, tyAll, Nat.reduceEqDiff, ↓reduceIte, reduceCtorEq, Nat.reduceLT, Nat.reduceLeDiff, Nat.reduceAdd, Nat.reduceMul, Int.reduceToNat, ne_eq, sLawQQ]
  have nz : (l' == 0) = false := beq_eq_false_iff_ne.2 hz
  have hm0 := Int.emod_nonneg u hz
  have hm1 := Int.emod_lt_of_pos u (show 0 < l' by omega)
  obtain ⟨u', hu'⟩ : ∃ u', u % l' = u' := ⟨_, rfl⟩
  rw [hu'] at hm0 hm1
  have lw := next_eighth fb.1 fb.2 (u := u') (l := l') (by omega) (by omega) hm0 hm1
  have nb := next_bd (u := u') (l := l') fb.1 fb.2 hm0 l'0
  generalize hnx : nextV (wv f) u' l' = nx at *
  have a1 := D32 (wv f)
  have n1 := nv_dl fb.1 fb.2
  have a8 : Dg 256 1 (updF (fun _ => 0) 0 8) := one_digit (by decide) (by decide)
  have n8 : nv 1 (updF (fun _ => 0) 0 8) = 8 := by decide
  have ao : Dg 256 1 (updF (fun _ => 0) 0 1) := one_digit (by decide) (by decide)
  have no : nv 1 (updF (fun _ => 0) 0 1) = 1 := by decide
  have a2 := Dg_dig (wv f / 8) 32
  have n2 := nv_of (a := wv f / 8) (n := 32) (by omega) (by rw [M_256]; omega)
  have vn := wv_small nb.1 nb.2
  have a3 := D32 nx
  have n3 := nv_dl nb.1 nb.2
  have m1 : max 32 1 + 1 = 33 := rfl
  have m2 : max 32 33 + 1 = 34 := rfl
  have m3 : max 32 32 + 1 = 33 := rfl
  have hM33 : M + M < 256 ^ 33 := by decide
  have hM34 : M + M < 256 ^ 34 := by decide
  have hM1 : 1 < M := by decide
  have a4 := Dg_dig (wv f / 8 + 1) 33
  have n4 := nv_of (a := wv f / 8 + 1) (n := 33) (by omega) (by omega)
  have a5 := Dg_dig (wv f + (wv f / 8 + 1)) 34
  have n5 := nv_of (a := wv f + (wv f / 8 + 1)) (n := 34) (by omega) (by omega)
  have a6 := Dg_dig (nx + wv f / 8) 33
  have n6 := nv_of (a := nx + wv f / 8) (n := 33) (by omega) (by omega)
  have k1 : ¬ wv f + (wv f / 8 + 1) < nx := by omega
  have k2 : ¬ nx + wv f / 8 < wv f := by omega
  repeat' first
    | refine T_seq' ?_
    | refine T_block ?_
    | refine n_then ?_
    | refine x_then ?_
    | refine r_then ?_
    | refine n_block ?_
    | refine r_block ?_
    | refine x_block ?_
    | refine x_block' (by rfl) ?_
    | refine T_exit ?_
    | refine T_skip ?_
    | refine T_ret ?_
    | (refine T_region hE (by rfl) (fun K hK => ?_); simp (disch := omega) only [eqs, evs, stp, stepW, wantA, opStep, kindOf, headStep, skipStep, stStep, wrStep, cpStep, stA, appA, readSl, isSl, copyA, kill, AV.refs, hd, hdLoad, hdBin, intBin, hdUn, hdConv, hdIdxAddr, hdIdx, hdSlice, bnd, hdCall, hdCallF, hdLen, hdMin, argsA, mapA, partsOk, partsF, lk, look, addR, evA, constA, HOut.ok, hty, hfs, tyAll, List.map, List.all, List.getElem?_cons_zero, List.getElem?_cons_succ, Option.bind_some, Option.map_some, Option.map_none, Option.getD_some, AV.pureA, Nat.reduceEqDiff, ↓reduceIte, reduceCtorEq, Nat.reduceLT, Nat.reduceLeDiff, Nat.reduceAdd, Nat.reduceMul, Int.reduceToNat, IntKind.bits, BEq.rfl, beq_self_eq_true, bne_self_eq_false, Int.reduceBEq, Int.reduceBNe, Int.reduceEq, Int.reduceNe, ne_eq, Int.reduceLT, Int.reduceLE, hl', nz, hu']; (repeat refine And.intro (by first | omega | assumption | (and_intros <;> first | omega | assumption) | fail) ?_); refine hK _ ?_; clear hK K)
    | (refine T_cond rfl (fun hc => ?_) (fun hc => ?_) <;> (try simp only [cnds, reduceCtorEq] at hc) <;> (try (first | (exact hc.elim) | (exfalso; omega))))
  refine T_regionM 3 ⟨[(1, .int .u64 u'), (2, .int .u64 l'), (3, .elt 3 0), (24, .rsl .i64 32 (dl (wv f))), (25, .rsl .i64 1 (updF (fun _ => 0) 0 8))], [(3, ⟨.u64, 4, f⟩)]⟩ hE (by rfl) (fun K hK => ?_)
  simp (disch := omega) only [evm, eqs, evs, stp, stepW, wantA, opStep, kindOf, headStep, skipStep, stStep, wrStep, cpStep, stA, appA, readSl, isSl, copyA, kill, AV.refs, hd, hdLoad, hdBin, intBin, hdUn, hdConv, hdIdxAddr, hdIdx, hdSlice, bnd, hdCall, hdCallF, hdLen, hdMin, argsA, mapA, partsOk, partsF, lk, look, addR, evA, constA, HOut.ok, hty, hfs, tyAll, List.map, List.all, List.getElem?_cons_zero, List.getElem?_cons_succ, Option.bind_some, Option.map_some, Option.map_none, Option.getD_some, AV.pureA, Nat.reduceEqDiff, ↓reduceIte, reduceCtorEq, Nat.reduceLT, Nat.reduceLeDiff, Nat.reduceAdd, Nat.reduceMul, Int.reduceToNat, IntKind.bits, BEq.rfl, beq_self_eq_true, bne_self_eq_false, Int.reduceBEq, Int.reduceBNe, Int.reduceEq, Int.reduceNe, ne_eq, Int.reduceLT, Int.reduceLE, sNOf, sNDiv, n1, n8]
  (repeat refine And.intro (by first | omega | assumption | (and_intros <;> first | omega | assumption) | fail) ?_)
  refine And.intro ?_ ?_
  · (simp (disch := omega) only [Le, AllF, AllR, slotLe, rowLe, refsIn, Option.isSome_some, implies_true, forall_const, AV.int.injEq, AV.bool.injEq, AV.elt.injEq, Int.natCast_add, Int.cast_ofNat_Int, eqs, lk, look, AV.pureA, kill, AV.refs, hty, tyAll, Nat.reduceEqDiff, ↓reduceIte, reduceCtorEq, Nat.reduceLT, Nat.reduceLeDiff, Nat.reduceAdd, Nat.reduceMul, Int.reduceToNat, ne_eq, sNOf, sNDiv, n1, n8] <;> repeat' (first | rfl | apply And.intro | omega))
  (repeat refine And.intro (by first | omega | assumption | (and_intros <;> first | omega | assumption) | fail) ?_); refine hK _ ?_
  clear hK K
  repeat' first
    | refine T_seq' ?_
    | refine T_block ?_
    | refine n_then ?_
    | refine x_then ?_
    | refine r_then ?_
    | refine n_block ?_
    | refine r_block ?_
    | refine x_block ?_
    | refine x_block' (by rfl) ?_
    | refine T_exit ?_
    | refine T_skip ?_
    | refine T_ret ?_
    | (refine T_region hE (by rfl) (fun K hK => ?_); simp (disch := omega) only [eqs, evs, stp, stepW, wantA, opStep, kindOf, headStep, skipStep, stStep, wrStep, cpStep, stA, appA, readSl, isSl, copyA, kill, AV.refs, hd, hdLoad, hdBin, intBin, hdUn, hdConv, hdIdxAddr, hdIdx, hdSlice, bnd, hdCall, hdCallF, hdLen, hdMin, argsA, mapA, partsOk, partsF, lk, look, addR, evA, constA, HOut.ok, hty, hfs, tyAll, List.map, List.all, List.getElem?_cons_zero, List.getElem?_cons_succ, Option.bind_some, Option.map_some, Option.map_none, Option.getD_some, AV.pureA, Nat.reduceEqDiff, ↓reduceIte, reduceCtorEq, Nat.reduceLT, Nat.reduceLeDiff, Nat.reduceAdd, Nat.reduceMul, Int.reduceToNat, IntKind.bits, BEq.rfl, beq_self_eq_true, bne_self_eq_false, Int.reduceBEq, Int.reduceBNe, Int.reduceEq, Int.reduceNe, ne_eq, Int.reduceLT, Int.reduceLE, sNext, hnx, sNOf, W_wl, vn]; (repeat refine And.intro (by first | omega | assumption | (and_intros <;> first | omega | assumption) | fail) ?_); refine hK _ ?_; clear hK K)
    | (refine T_cond rfl (fun hc => ?_) (fun hc => ?_) <;> (try simp only [cnds, reduceCtorEq] at hc) <;> (try (first | (exact hc.elim) | (exfalso; omega))))
  refine T_regionM 3 ⟨[(3, .elt 3 0), (7, .rsl .i64 32 (dig 256 (wv f / 8))), (9, .rsl .i64 32 (dl nx)), (10, .rsl .i64 32 (dl (wv f))), (36, .rsl .i64 32 (dl (wv f))), (37, .rsl .i64 32 (dig 256 (wv f / 8))), (38, .rsl .i64 1 (updF (fun _ => 0) 0 1))], [(3, ⟨.u64, 4, f⟩)]⟩ hE (by rfl) (fun K hK => ?_)
  simp (disch := omega) only [evm, eqs, evs, stp, stepW, wantA, opStep, kindOf, headStep, skipStep, stStep, wrStep, cpStep, stA, appA, readSl, isSl, copyA, kill, AV.refs, hd, hdLoad, hdBin, intBin, hdUn, hdConv, hdIdxAddr, hdIdx, hdSlice, bnd, hdCall, hdCallF, hdLen, hdMin, argsA, mapA, partsOk, partsF, lk, look, addR, evA, constA, HOut.ok, hty, hfs, tyAll, List.map, List.all, List.getElem?_cons_zero, List.getElem?_cons_succ, Option.bind_some, Option.map_some, Option.map_none, Option.getD_some, AV.pureA, Nat.reduceEqDiff, ↓reduceIte, reduceCtorEq, Nat.reduceLT, Nat.reduceLeDiff, Nat.reduceAdd, Nat.reduceMul, Int.reduceToNat, IntKind.bits, BEq.rfl, beq_self_eq_true, bne_self_eq_false, Int.reduceBEq, Int.reduceBNe, Int.reduceEq, Int.reduceNe, ne_eq, Int.reduceLT, Int.reduceLE, sNPlus, m1, m2, n1, n2, no, n4]
  (repeat refine And.intro (by first | omega | assumption | (and_intros <;> first | omega | assumption) | fail) ?_)
  refine And.intro ?_ ?_
  · (simp (disch := omega) only [Le, AllF, AllR, slotLe, rowLe, refsIn, Option.isSome_some, implies_true, forall_const, AV.int.injEq, AV.bool.injEq, AV.elt.injEq, Int.natCast_add, Int.cast_ofNat_Int, eqs, lk, look, AV.pureA, kill, AV.refs, hty, tyAll, Nat.reduceEqDiff, ↓reduceIte, reduceCtorEq, Nat.reduceLT, Nat.reduceLeDiff, Nat.reduceAdd, Nat.reduceMul, Int.reduceToNat, ne_eq, sNPlus, m1, m2, n1, n2, no, n4] <;> repeat' (first | rfl | apply And.intro | omega))
  (repeat refine And.intro (by first | omega | assumption | (and_intros <;> first | omega | assumption) | fail) ?_); refine hK _ ?_
  clear hK K
  repeat' first
    | refine T_seq' ?_
    | refine T_block ?_
    | refine n_then ?_
    | refine x_then ?_
    | refine r_then ?_
    | refine n_block ?_
    | refine r_block ?_
    | refine x_block ?_
    | refine x_block' (by rfl) ?_
    | refine T_exit ?_
    | refine T_skip ?_
    | refine T_ret ?_
    | ((first | refine T_region hE (by rfl) (fun K hK => ?_) | refine T_draw hE (by rfl) (by kernel_rfl) (fun K hK => ?_)); simp (disch := omega) only [eqs, evs, stp, stepW, wantA, opStep, kindOf, headStep, skipStep, stStep, wrStep, cpStep, stA, appA, readSl, isSl, copyA, kill, AV.refs, hd, hdLoad, hdBin, intBin, hdUn, hdConv, hdIdxAddr, hdIdx, hdSlice, bnd, hdCall, hdCallF, hdLen, hdMin, argsA, mapA, partsOk, partsF, lk, look, addR, evA, constA, HOut.ok, hty, hfs, tyAll, List.map, List.all, List.getElem?_cons_zero, List.getElem?_cons_succ, Option.bind_some, Option.map_some, Option.map_none, Option.getD_some, AV.pureA, Nat.reduceEqDiff, ↓reduceIte, reduceCtorEq, Nat.reduceLT, Nat.reduceLeDiff, Nat.reduceAdd, Nat.reduceMul, Int.reduceToNat, IntKind.bits, BEq.rfl, beq_self_eq_true, bne_self_eq_false, Int.reduceBEq, Int.reduceBNe, Int.reduceEq, Int.reduceNe, ne_eq, Int.reduceLT, Int.reduceLE, sFixed1, sNLess, sNPlus, m3, n1, n2, n3, n5, n6, k1, k2]; (repeat refine And.intro (by first | omega | assumption | (and_intros <;> first | omega | assumption) | fail) ?_); refine hK _ ?_; clear hK K)
    | (refine T_cond rfl (fun hc => ?_) (fun hc => ?_) <;> (try simp only [cnds, reduceCtorEq] at hc) <;> (try (first | (exact hc.elim) | (exfalso; omega))))
  refine hQ _ ?_
  simp (disch := omega) only [resOk, res1, retOk, eqs, lk, look, AV.pureA, kill, AV.refs, hty, tyAll, Nat.reduceEqDiff, ↓reduceIte, reduceCtorEq, Nat.reduceLT, Nat.reduceLeDiff, Nat.reduceAdd, Nat.reduceMul, Int.reduceToNat, ne_eq, sLawQQ]

def sLawQQQ : List AV → SOut
  | [.arr .u64 4 f, .int .u64 u, .int .u64 m, .int .u64 l] => ⟨W f ∧ (0 ≤ u ∧ u < 18446744073709551616) ∧ (0 ≤ m ∧ m < 18446744073709551616) ∧ (0 ≤ l ∧ l < 18446744073709551616), .bool true⟩
  | _ => ⟨False, .und⟩
theorem c_FeeMore : Contract Try.prog 14 sLawQQQ := by
  refine fun_ok [(61, sFixed1), (62, sNext), (67, sNOf), (69, sNLess)] ⟨c_fixed21, c_FNext, c_NOf, c_NLess, trivial⟩ Try.func14 rfl (by kernel_rfl) Try.ntmps14 Try.results14 (fun E hE hty hfs xs hp => ?_)
  unfold sLawQQQ at hp
  split at hp
  case h_2 => exact hp.elim
  rename_i f u m l
  obtain ⟨hf, ⟨u0, u1⟩, ⟨m0, m1⟩, l0, l1⟩ := hp
  have hp : True := trivial
  have fb := wv_bd hf
  have b1 := next_bd (u := u) (l := l) fb.1 fb.2 u0 l0
  have b2 := next_bd (u := m) (l := l) fb.1 fb.2 m0 l0
  refine ⟨by simp, fun Q hQ => ?_⟩
  simp only [params, Nat.reduceAdd]
  by_cases hsw : m < u
  · have k := next_mono (l := l) fb.1 fb.2 m0 l0 (show m ≤ u by omega)
    generalize hx : nextV (wv f) u l = x at *
    generalize hy : nextV (wv f) m l = y at *
    have v1 := wv_small b1.1 b1.2
    have v2 := wv_small b2.1 b2.2
    have a1 := D32 x
    have a2 := D32 y
    have n1 := nv_dl b1.1 b1.2
    have n2 := nv_dl b2.1 b2.2
    have k1 : ¬ x < y := by omega
    repeat' first
      | refine T_seq' ?_
      | refine T_block ?_
      | refine n_then ?_
      | refine x_then ?_
      | refine r_then ?_
      | refine n_block ?_
      | refine r_block ?_
      | refine x_block ?_
      | refine x_block' (by rfl) ?_
      | refine T_exit ?_
      | refine T_skip ?_
      | refine T_ret ?_
      | ((first | refine T_region hE (by rfl) (fun K hK => ?_) | refine T_draw hE (by rfl) (by kernel_rfl) (fun K hK => ?_)); simp (disch := omega) only [eqs, evs, stp, stepW, wantA, opStep, kindOf, headStep, skipStep, stStep, wrStep, cpStep, stA, appA, readSl, isSl, copyA, kill, AV.refs, hd, hdLoad, hdBin, intBin, hdUn, hdConv, hdIdxAddr, hdIdx, hdSlice, bnd, hdCall, hdCallF, hdLen, hdMin, argsA, mapA, partsOk, partsF, lk, look, addR, evA, constA, HOut.ok, hty, hfs, tyAll, List.map, List.all, List.getElem?_cons_zero, List.getElem?_cons_succ, Option.bind_some, Option.map_some, Option.map_none, Option.getD_some, AV.pureA, Nat.reduceEqDiff, ↓reduceIte, reduceCtorEq, Nat.reduceLT, Nat.reduceLeDiff, Nat.reduceAdd, Nat.reduceMul, Int.reduceToNat, IntKind.bits, BEq.rfl, beq_self_eq_true, bne_self_eq_false, Int.reduceBEq, Int.reduceBNe, Int.reduceEq, Int.reduceNe, ne_eq, Int.reduceLT, Int.reduceLE, sFixed1, hsw, sNext, hx, hy, sNOf, W_wl, v1, v2, sNLess, n1, n2, k1]; (repeat refine And.intro (by first | omega | assumption | (and_intros <;> first | omega | assumption) | fail) ?_); refine hK _ ?_; clear hK K)
      | (refine T_cond rfl (fun hc => ?_) (fun hc => ?_) <;> (try simp only [cnds, reduceCtorEq] at hc) <;> (try (first | (exact hc.elim) | (exfalso; omega))))
    refine hQ _ ?_
    simp (disch := omega) only [resOk, res1, retOk, eqs, lk, look, AV.pureA, kill, AV.refs, hty, tyAll, Nat.reduceEqDiff, ↓reduceIte, reduceCtorEq, Nat.reduceLT, Nat.reduceLeDiff, Nat.reduceAdd, Nat.reduceMul, Int.reduceToNat, ne_eq, sLawQQQ]
  · have k := next_mono (l := l) fb.1 fb.2 u0 l0 (show u ≤ m by omega)
    generalize hx : nextV (wv f) u l = x at *
    generalize hy : nextV (wv f) m l = y at *
    have v1 := wv_small b1.1 b1.2
    have v2 := wv_small b2.1 b2.2
    have a1 := D32 x
    have a2 := D32 y
    have n1 := nv_dl b1.1 b1.2
    have n2 := nv_dl b2.1 b2.2
    have k1 : ¬ y < x := by omega
    repeat' first
      | refine T_seq' ?_
      | refine T_block ?_
      | refine n_then ?_
      | refine x_then ?_
      | refine r_then ?_
      | refine n_block ?_
      | refine r_block ?_
      | refine x_block ?_
      | refine x_block' (by rfl) ?_
      | refine T_exit ?_
      | refine T_skip ?_
      | refine T_ret ?_
      | ((first | refine T_region hE (by rfl) (fun K hK => ?_) | refine T_draw hE (by rfl) (by kernel_rfl) (fun K hK => ?_)); simp (disch := omega) only [eqs, evs, stp, stepW, wantA, opStep, kindOf, headStep, skipStep, stStep, wrStep, cpStep, stA, appA, readSl, isSl, copyA, kill, AV.refs, hd, hdLoad, hdBin, intBin, hdUn, hdConv, hdIdxAddr, hdIdx, hdSlice, bnd, hdCall, hdCallF, hdLen, hdMin, argsA, mapA, partsOk, partsF, lk, look, addR, evA, constA, HOut.ok, hty, hfs, tyAll, List.map, List.all, List.getElem?_cons_zero, List.getElem?_cons_succ, Option.bind_some, Option.map_some, Option.map_none, Option.getD_some, AV.pureA, Nat.reduceEqDiff, ↓reduceIte, reduceCtorEq, Nat.reduceLT, Nat.reduceLeDiff, Nat.reduceAdd, Nat.reduceMul, Int.reduceToNat, IntKind.bits, BEq.rfl, beq_self_eq_true, bne_self_eq_false, Int.reduceBEq, Int.reduceBNe, Int.reduceEq, Int.reduceNe, ne_eq, Int.reduceLT, Int.reduceLE, sFixed1, hsw, sNext, hx, hy, sNOf, W_wl, v1, v2, sNLess, n1, n2, k1]; (repeat refine And.intro (by first | omega | assumption | (and_intros <;> first | omega | assumption) | fail) ?_); refine hK _ ?_; clear hK K)
      | (refine T_cond rfl (fun hc => ?_) (fun hc => ?_) <;> (try simp only [cnds, reduceCtorEq] at hc) <;> (try (first | (exact hc.elim) | (exfalso; omega))))
    refine hQ _ ?_
    simp (disch := omega) only [resOk, res1, retOk, eqs, lk, look, AV.pureA, kill, AV.refs, hty, tyAll, Nat.reduceEqDiff, ↓reduceIte, reduceCtorEq, Nat.reduceLT, Nat.reduceLeDiff, Nat.reduceAdd, Nat.reduceMul, Int.reduceToNat, ne_eq, sLawQQQ]

end Go.Proofs.Ytijoifajbmhgdaa.Sym
