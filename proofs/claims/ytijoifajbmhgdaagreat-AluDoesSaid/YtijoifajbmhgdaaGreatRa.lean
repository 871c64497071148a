/- The reference's numbers of 32 digits: making, sums, products, order, bytes. -/
import Derived.Test.YtijoifajbmhgdaaGreatWg
namespace Go.Proofs.YtijoifajbmhgdaaGreat.Sym
set_option linter.unusedVariables false
open Go Go.RowKit Num
set_option maxRecDepth 10000
set_option linter.unusedSimpArgs false

/-! ### Out of words -/
def sROf : List AV → SOut
  | [.arr .u64 4 f] => ⟨W f, .arr .i64 32 (dl (wv f))⟩
  | _ => ⟨False, .und⟩
theorem dl_bd (a : Int) (j : Nat) : 0 ≤ dl a j ∧ dl a j < 256 := dig_bd (by decide) _ _
theorem c_ROf : Contract Tryz.prog 14 sROf := by
  refine fun_ok [] trivial Tryz.func14 rfl (by kernel_rfl) Tryz.ntmps14 Tryz.results14 (fun E hE hty hfs xs hp => ?_)
  unfold sROf at hp
  split at hp
  case h_2 => exact hp.elim
  rename_i f
  refine ⟨by simp, fun Q hQ => ?_⟩
  simp only [params, Nat.reduceAdd]
  repeat' first
    | refine T_seq' ?_
    | refine T_block ?_
    | refine n_then ?_
    | refine x_then ?_
    | refine r_then ?_
    | refine n_block ?_
    | refine r_block ?_
    | refine x_block ?_
    | refine x_block' (by rfl) ?_
    | refine T_exit ?_
    | refine T_skip ?_
    | refine T_ret ?_
    | ((first | refine T_region hE (by rfl) (fun K hK => ?_) | refine T_draw hE (by rfl) (by kernel_rfl) (fun K hK => ?_)); simp (disch := omega) only [eqs, evs, stp, stepW, wantA, opStep, kindOf, headStep, skipStep, stStep, wrStep, cpStep, stA, appA, readSl, isSl, copyA, kill, AV.refs, hd, hdLoad, hdBin, intBin, hdUn, hdConv, hdIdxAddr, hdIdx, hdSlice, bnd, hdCall, hdCallF, hdLen, hdMin, argsA, mapA, partsOk, partsF, lk, look, addR, evA, constA, HOut.ok, hty, hfs, tyAll, List.map, List.all, List.getElem?_cons_zero, List.getElem?_cons_succ, Option.bind_some, Option.map_some, Option.map_none, Option.getD_some, AV.pureA, Nat.reduceEqDiff, ↓reduceIte, reduceCtorEq, Nat.reduceLT, Nat.reduceLeDiff, Nat.reduceAdd, Nat.reduceMul, Int.reduceToNat, IntKind.bits, BEq.rfl, beq_self_eq_true, bne_self_eq_false, Int.reduceBEq, Int.reduceBNe, Int.reduceEq, Int.reduceNe, ne_eq, Int.reduceLT, Int.reduceLE]; (repeat refine And.intro (by first | omega | assumption | (and_intros <;> first | omega | assumption) | fail) ?_); refine hK _ ?_; clear hK K)
    | (refine T_cond rfl (fun hc => ?_) (fun hc => ?_) <;> (try simp only [cnds, reduceCtorEq] at hc) <;> (try (first | (exact hc.elim) | (exfalso; omega))))
  refine T_for (ι := Nat × (Nat → Int)) (fun i => ⟨[(1, .elt 1 0), (2, .elt 2 0), (3, .elt 3 0), (4, .int .i64 i.1)], [(1, ⟨.u64, 4, f⟩), (2, ⟨.i64, 32, fun _ => 0⟩), (3, ⟨.i64, 32, i.2⟩)]⟩)
    (fun i => i.1 ≤ 32 ∧ ∀ j, j < i.1 → i.2 j = dl (wv f) j) (fun i => 32 - i.1)
    ⟨(0, fun _ => 0), ⟨by simp, fun j h1 => by simp at h1⟩, ?_⟩ (fun i hi => ?_)
  · (simp (disch := omega) only [Le, AllF, AllR, slotLe, rowLe, refsIn, Option.isSome_some, implies_true, forall_const, AV.int.injEq, AV.bool.injEq, AV.elt.injEq, Int.natCast_add, Int.cast_ofNat_Int, eqs, lk, look, AV.pureA, kill, AV.refs, hty, tyAll, Nat.reduceEqDiff, ↓reduceIte, reduceCtorEq, Nat.reduceLT, Nat.reduceLeDiff, Nat.reduceAdd, Nat.reduceMul, Int.reduceToNat, ne_eq] <;> repeat' (first | rfl | apply And.intro | omega))
  · obtain ⟨i, o⟩ := i
    obtain ⟨h0, ho⟩ := hi
    simp only at h0 ho ⊢
    by_cases hlt : i < 32
    · have fi := W_U hp (i / 8) (by omega)
      have hb := byte_of hp (i := i / 8) (k := i % 8) (by omega) (by omega)
      rw [show 8 * (i / 8) + i % 8 = i from by omega] at hb
      have hdl := dl_bd (wv f) i
      unfold U at fi
      have e0 : ((i : Int) / 8).toNat = i / 8 := by omega
      have e1 : (8 * ((i : Int) % 8)).toNat = 8 * (i % 8) := by omega
      have hq := Int.ediv_le_self (8 : Int) fi.1
      have hq0 : 0 ≤ f (i / 8) / 2 ^ (8 * (i % 8)) := Int.ediv_nonneg fi.1 (Int.pow_nonneg (by decide))
      repeat' first
        | refine T_seq' ?_
        | refine T_block ?_
        | refine n_then ?_
        | refine x_then ?_
        | refine r_then ?_
        | refine n_block ?_
        | refine r_block ?_
        | refine x_block ?_
        | refine x_block' (by rfl) ?_
        | refine T_exit ?_
        | refine T_skip ?_
        | refine T_ret ?_
        | ((first | refine T_region hE (by rfl) (fun K hK => ?_) | refine T_draw hE (by rfl) (by kernel_rfl) (fun K hK => ?_)); simp (disch := omega) only [eqs, evs, stp, stepW, wantA, opStep, kindOf, headStep, skipStep, stStep, wrStep, cpStep, stA, appA, readSl, isSl, copyA, kill, AV.refs, hd, hdLoad, hdBin, intBin, hdUn, hdConv, hdIdxAddr, hdIdx, hdSlice, bnd, hdCall, hdCallF, hdLen, hdMin, argsA, mapA, partsOk, partsF, lk, look, addR, evA, constA, HOut.ok, hty, hfs, tyAll, List.map, List.all, List.getElem?_cons_zero, List.getElem?_cons_succ, Option.bind_some, Option.map_some, Option.map_none, Option.getD_some, AV.pureA, Nat.reduceEqDiff, ↓reduceIte, reduceCtorEq, Nat.reduceLT, Nat.reduceLeDiff, Nat.reduceAdd, Nat.reduceMul, Int.reduceToNat, IntKind.bits, BEq.rfl, beq_self_eq_true, bne_self_eq_false, Int.reduceBEq, Int.reduceBNe, Int.reduceEq, Int.reduceNe, ne_eq, Int.reduceLT, Int.reduceLE, e0, e1, hb]; (repeat refine And.intro (by first | omega | assumption | (and_intros <;> first | omega | assumption) | fail) ?_); refine hK _ ?_; clear hK K)
        | (refine T_cond rfl (fun hc => ?_) (fun hc => ?_) <;> (try simp only [cnds, reduceCtorEq] at hc) <;> (try (first | (exact hc.elim) | (exfalso; omega))))
      refine ⟨(i + 1, updF o i (dl (wv f) i)), ⟨by simp only; omega, upd_ok ho rfl⟩, by simp only; omega, ?_⟩
      (simp (disch := omega) only [Le, AllF, AllR, slotLe, rowLe, refsIn, Option.isSome_some, implies_true, forall_const, AV.int.injEq, AV.bool.injEq, AV.elt.injEq, Int.natCast_add, Int.cast_ofNat_Int, eqs, lk, look, AV.pureA, kill, AV.refs, hty, tyAll, Nat.reduceEqDiff, ↓reduceIte, reduceCtorEq, Nat.reduceLT, Nat.reduceLeDiff, Nat.reduceAdd, Nat.reduceMul, Int.reduceToNat, ne_eq] <;> repeat' (first | rfl | apply And.intro | omega))
    · repeat' first
        | refine T_seq' ?_
        | refine T_block ?_
        | refine n_then ?_
        | refine x_then ?_
        | refine r_then ?_
        | refine n_block ?_
        | refine r_block ?_
        | refine x_block ?_
        | refine x_block' (by rfl) ?_
        | refine T_exit ?_
        | refine T_skip ?_
        | refine T_ret ?_
        | ((first | refine T_region hE (by rfl) (fun K hK => ?_) | refine T_draw hE (by rfl) (by kernel_rfl) (fun K hK => ?_)); simp (disch := omega) only [eqs, evs, stp, stepW, wantA, opStep, kindOf, headStep, skipStep, stStep, wrStep, cpStep, stA, appA, readSl, isSl, copyA, kill, AV.refs, hd, hdLoad, hdBin, intBin, hdUn, hdConv, hdIdxAddr, hdIdx, hdSlice, bnd, hdCall, hdCallF, hdLen, hdMin, argsA, mapA, partsOk, partsF, lk, look, addR, evA, constA, HOut.ok, hty, hfs, tyAll, List.map, List.all, List.getElem?_cons_zero, List.getElem?_cons_succ, Option.bind_some, Option.map_some, Option.map_none, Option.getD_some, AV.pureA, Nat.reduceEqDiff, ↓reduceIte, reduceCtorEq, Nat.reduceLT, Nat.reduceLeDiff, Nat.reduceAdd, Nat.reduceMul, Int.reduceToNat, IntKind.bits, BEq.rfl, beq_self_eq_true, bne_self_eq_false, Int.reduceBEq, Int.reduceBNe, Int.reduceEq, Int.reduceNe, ne_eq, Int.reduceLT, Int.reduceLE]; (repeat refine And.intro (by first | omega | assumption | (and_intros <;> first | omega | assumption) | fail) ?_); refine hK _ ?_; clear hK K)
        | (refine T_cond rfl (fun hc => ?_) (fun hc => ?_) <;> (try simp only [cnds, reduceCtorEq] at hc) <;> (try (first | (exact hc.elim) | (exfalso; omega))))
      refine hQ _ ?_
      simp (disch := omega) only [resOk, res1, retOk, eqs, lk, look, AV.pureA, kill, AV.refs, hty, tyAll, Nat.reduceEqDiff, ↓reduceIte, reduceCtorEq, Nat.reduceLT, Nat.reduceLeDiff, Nat.reduceAdd, Nat.reduceMul, Int.reduceToNat, ne_eq, sROf]
      intro j hj
      exact ho j (by omega)

/-! ### Groups of eight -/
def lo8 (m k : Nat) : Nat := max (8 * m) (min (8 * m + 8) k)
def Grp (b : Int) (n : Nat) (f : Nat → Int) (k : Nat) (o : Nat → Int) : Prop := ∀ m, m < n → o m = wsum b (fun t => f (lo8 m k + t)) (8 * m + 8 - lo8 m k)
theorem wsum_cons (b : Int) (f : Nat → Int) : ∀ n, wsum b f (n + 1) = f 0 + b * wsum b (fun t => f (1 + t)) n
  | 0 => by simp [wsum]
  | n + 1 => by
    have := wsum_split b f 1 (n + 1)
    rw [show 1 + (n + 1) = n + 1 + 1 from by omega] at this
    rw [this]
    simp [wsum, Int.pow_succ]
theorem Grp_start (b : Int) (n : Nat) (f : Nat → Int) : Grp b n f (8 * n) (fun _ => 0) := fun m hm => by
  have : 8 * m + 8 - lo8 m (8 * n) = 0 := by unfold lo8; omega
  rw [this]; rfl
theorem Grp_step {b : Int} {n : Nat} {f o : Nat → Int} {i : Nat} (h : Grp b n f (i + 1) o) (hi : i < 8 * n) : Grp b n f i (updF o (i / 8) (o (i / 8) * b + f i)) := fun m hm => by
  by_cases e : i / 8 = m
  · subst e
    rw [updF_same, h _ hm]
    have e1 : lo8 (i / 8) i = i := by unfold lo8; omega
    have e2 : lo8 (i / 8) (i + 1) = i + 1 := by unfold lo8; omega
    rw [e1, e2, show 8 * (i / 8) + 8 - i = 8 * (i / 8) + 8 - (i + 1) + 1 from by omega, wsum_cons]
    rw [Nat.add_zero, Int.mul_comm, Int.add_comm]
    congr 3
    funext t
    congr 1
    omega
  · rw [updF_ne _ _ e, h m hm]
    have e1 : lo8 m i = lo8 m (i + 1) := by unfold lo8; omega
    rw [e1]
theorem Grp_bd {b : Int} (hb : 0 < b) {n : Nat} {f o : Nat → Int} {k : Nat} (hf : Dg b (8 * n) f) (h : Grp b n f k o) (m : Nat) (hm : m < n) : 0 ≤ o m ∧ o m < b ^ (8 * m + 8 - lo8 m k) := by
  rw [h m hm]
  exact wsum_bd hb fun t ht => hf _ (by unfold lo8 at ht ⊢; omega)
theorem Grp_end {b : Int} {n : Nat} {f o : Nat → Int} (h : Grp b n f 0 o) (m : Nat) (hm : m < n) : o m = wsum b (fun t => f (8 * m + t)) 8 := by
  rw [h m hm]
  have e1 : lo8 m 0 = 8 * m := by unfold lo8; omega
  rw [e1, show 8 * m + 8 - 8 * m = 8 from by omega]
theorem ipowB_le {b : Int} (hb : 1 ≤ b) : ∀ {m n : Nat}, m ≤ n → b ^ m ≤ b ^ n
  | m, 0, h => by
    obtain rfl : m = 0 := by omega
    exact Int.le_refl _
  | m, n + 1, h => by
    by_cases e : m = n + 1
    · subst e; exact Int.le_refl _
    · have h1 := ipowB_le hb (m := m) (n := n) (by omega)
      have hp : 0 < b ^ n := Int.pow_pos (by omega)
      have : b ^ n * 1 ≤ b ^ n * b := Int.mul_le_mul_of_nonneg_left hb (by omega)
      rw [Int.pow_succ]; omega
theorem Grp_bd7 {b : Int} (hb : 1 ≤ b) {n : Nat} {f o : Nat → Int} {i : Nat} (hf : Dg b (8 * n) f) (h : Grp b n f (i + 1) o) (hi : i < 8 * n) : 0 ≤ o (i / 8) ∧ o (i / 8) < b ^ 7 := by
  have := Grp_bd (by omega) hf h (i / 8) (by omega)
  exact ⟨this.1, Int.lt_of_lt_of_le this.2 (ipowB_le hb (by unfold lo8; omega))⟩

def sRWord : List AV → SOut
  | [.arr .i64 32 f] => ⟨D f, .arr .u64 4 (wl (dv f))⟩
  | _ => ⟨False, .und⟩
theorem c_RWord : Contract Tryz.prog 21 sRWord := by
  refine fun_ok [] trivial Tryz.func21 rfl (by kernel_rfl) Tryz.ntmps21 Tryz.results21 (fun E hE hty hfs xs hp => ?_)
  unfold sRWord at hp
  split at hp
  case h_2 => exact hp.elim
  rename_i f
  refine ⟨by simp, fun Q hQ => ?_⟩
  simp only [params, Nat.reduceAdd]
  repeat' first
    | refine T_seq' ?_
    | refine T_block ?_
    | refine n_then ?_
    | refine x_then ?_
    | refine r_then ?_
    | refine n_block ?_
    | refine r_block ?_
    | refine x_block ?_
    | refine x_block' (by rfl) ?_
    | refine T_exit ?_
    | refine T_skip ?_
    | refine T_ret ?_
    | ((first | refine T_region hE (by rfl) (fun K hK => ?_) | refine T_draw hE (by rfl) (by kernel_rfl) (fun K hK => ?_)); simp (disch := omega) only [eqs, evs, stp, stepW, wantA, opStep, kindOf, headStep, skipStep, stStep, wrStep, cpStep, stA, appA, readSl, isSl, copyA, kill, AV.refs, hd, hdLoad, hdBin, intBin, hdUn, hdConv, hdIdxAddr, hdIdx, hdSlice, bnd, hdCall, hdCallF, hdLen, hdMin, argsA, mapA, partsOk, partsF, lk, look, addR, evA, constA, HOut.ok, hty, hfs, tyAll, List.map, List.all, List.getElem?_cons_zero, List.getElem?_cons_succ, Option.bind_some, Option.map_some, Option.map_none, Option.getD_some, AV.pureA, Nat.reduceEqDiff, ↓reduceIte, reduceCtorEq, Nat.reduceLT, Nat.reduceLeDiff, Nat.reduceAdd, Nat.reduceMul, Int.reduceToNat, IntKind.bits, BEq.rfl, beq_self_eq_true, bne_self_eq_false, Int.reduceBEq, Int.reduceBNe, Int.reduceEq, Int.reduceNe, ne_eq, Int.reduceLT, Int.reduceLE]; (repeat refine And.intro (by first | omega | assumption | (and_intros <;> first | omega | assumption) | fail) ?_); refine hK _ ?_; clear hK K)
    | (refine T_cond rfl (fun hc => ?_) (fun hc => ?_) <;> (try simp only [cnds, reduceCtorEq] at hc) <;> (try (first | (exact hc.elim) | (exfalso; omega))))
  refine T_for (ι := Nat × (Nat → Int)) (fun i => ⟨[(1, .elt 1 0), (2, .elt 2 0), (3, .elt 3 0), (4, .int .i64 ((i.1 : Int) - 1))], [(1, ⟨.i64, 32, f⟩), (2, ⟨.u64, 4, fun _ => 0⟩), (3, ⟨.u64, 4, i.2⟩)]⟩)
    (fun i => i.1 ≤ 32 ∧ Grp 256 4 f i.1 i.2) (fun i => i.1)
    ⟨(32, fun _ => 0), ⟨by simp, Grp_start 256 4 f⟩, ?_⟩ (fun i hi => ?_)
  · (simp (disch := omega) only [Le, AllF, AllR, slotLe, rowLe, refsIn, Option.isSome_some, implies_true, forall_const, AV.int.injEq, AV.bool.injEq, AV.elt.injEq, Int.natCast_add, Int.cast_ofNat_Int, eqs, lk, look, AV.pureA, kill, AV.refs, hty, tyAll, Nat.reduceEqDiff, ↓reduceIte, reduceCtorEq, Nat.reduceLT, Nat.reduceLeDiff, Nat.reduceAdd, Nat.reduceMul, Int.reduceToNat, ne_eq] <;> repeat' (first | rfl | apply And.intro | omega))
  · obtain ⟨k, o⟩ := i
    obtain ⟨h0, ho⟩ := hi
    simp only at h0 ho ⊢
    cases k with
    | zero =>
      repeat' first
        | refine T_seq' ?_
        | refine T_block ?_
        | refine n_then ?_
        | refine x_then ?_
        | refine r_then ?_
        | refine n_block ?_
        | refine r_block ?_
        | refine x_block ?_
        | refine x_block' (by rfl) ?_
        | refine T_exit ?_
        | refine T_skip ?_
        | refine T_ret ?_
        | ((first | refine T_region hE (by rfl) (fun K hK => ?_) | refine T_draw hE (by rfl) (by kernel_rfl) (fun K hK => ?_)); simp (disch := omega) only [eqs, evs, stp, stepW, wantA, opStep, kindOf, headStep, skipStep, stStep, wrStep, cpStep, stA, appA, readSl, isSl, copyA, kill, AV.refs, hd, hdLoad, hdBin, intBin, hdUn, hdConv, hdIdxAddr, hdIdx, hdSlice, bnd, hdCall, hdCallF, hdLen, hdMin, argsA, mapA, partsOk, partsF, lk, look, addR, evA, constA, HOut.ok, hty, hfs, tyAll, List.map, List.all, List.getElem?_cons_zero, List.getElem?_cons_succ, Option.bind_some, Option.map_some, Option.map_none, Option.getD_some, AV.pureA, Nat.reduceEqDiff, ↓reduceIte, reduceCtorEq, Nat.reduceLT, Nat.reduceLeDiff, Nat.reduceAdd, Nat.reduceMul, Int.reduceToNat, IntKind.bits, BEq.rfl, beq_self_eq_true, bne_self_eq_false, Int.reduceBEq, Int.reduceBNe, Int.reduceEq, Int.reduceNe, ne_eq, Int.reduceLT, Int.reduceLE]; (repeat refine And.intro (by first | omega | assumption | (and_intros <;> first | omega | assumption) | fail) ?_); refine hK _ ?_; clear hK K)
        | (refine T_cond rfl (fun hc => ?_) (fun hc => ?_) <;> (try simp only [cnds, reduceCtorEq] at hc) <;> (try (first | (exact hc.elim) | (exfalso; omega))))
      refine hQ _ ?_
      simp (disch := omega) only [resOk, res1, retOk, eqs, lk, look, AV.pureA, kill, AV.refs, hty, tyAll, Nat.reduceEqDiff, ↓reduceIte, reduceCtorEq, Nat.reduceLT, Nat.reduceLeDiff, Nat.reduceAdd, Nat.reduceMul, Int.reduceToNat, ne_eq, sRWord]
      refine wl_of (f := o) (fun m hm => ?_) ?_
      · have := Grp_bd (by decide) (n := 4) hp ho m hm
        rw [show 8 * m + 8 - lo8 m 0 = 8 from by unfold lo8; omega] at this
        exact this
      · rw [wv_bytes (fun m hm => Grp_end ho m hm), modM (dv_bd hp).1 (dv_bd hp).2]
    | succ i =>
      have hb := Grp_bd7 (by decide) (n := 4) hp ho (by omega)
      rw [show (256 : Int) ^ 7 = 72057594037927936 from by decide] at hb
      have fi := hp i (by omega)
      have e0 : (((i + 1 : Nat) : Int) - 1) = i := by omega
      have e1 : ((i : Int) / 8).toNat = i / 8 := by omega
      rw [e0]
      repeat' first
        | refine T_seq' ?_
        | refine T_block ?_
        | refine n_then ?_
        | refine x_then ?_
        | refine r_then ?_
        | refine n_block ?_
        | refine r_block ?_
        | refine x_block ?_
        | refine x_block' (by rfl) ?_
        | refine T_exit ?_
        | refine T_skip ?_
        | refine T_ret ?_
        | ((first | refine T_region hE (by rfl) (fun K hK => ?_) | refine T_draw hE (by rfl) (by kernel_rfl) (fun K hK => ?_)); simp (disch := omega) only [eqs, evs, stp, stepW, wantA, opStep, kindOf, headStep, skipStep, stStep, wrStep, cpStep, stA, appA, readSl, isSl, copyA, kill, AV.refs, hd, hdLoad, hdBin, intBin, hdUn, hdConv, hdIdxAddr, hdIdx, hdSlice, bnd, hdCall, hdCallF, hdLen, hdMin, argsA, mapA, partsOk, partsF, lk, look, addR, evA, constA, HOut.ok, hty, hfs, tyAll, List.map, List.all, List.getElem?_cons_zero, List.getElem?_cons_succ, Option.bind_some, Option.map_some, Option.map_none, Option.getD_some, AV.pureA, Nat.reduceEqDiff, ↓reduceIte, reduceCtorEq, Nat.reduceLT, Nat.reduceLeDiff, Nat.reduceAdd, Nat.reduceMul, Int.reduceToNat, IntKind.bits, BEq.rfl, beq_self_eq_true, bne_self_eq_false, Int.reduceBEq, Int.reduceBNe, Int.reduceEq, Int.reduceNe, ne_eq, Int.reduceLT, Int.reduceLE, e1]; (repeat refine And.intro (by first | omega | assumption | (and_intros <;> first | omega | assumption) | fail) ?_); refine hK _ ?_; clear hK K)
        | (refine T_cond rfl (fun hc => ?_) (fun hc => ?_) <;> (try simp only [cnds, reduceCtorEq] at hc) <;> (try (first | (exact hc.elim) | (exfalso; omega))))
      refine ⟨(i, updF o (i / 8) (o (i / 8) * 256 + f i)), ⟨by simp only; omega, Grp_step ho (by omega)⟩, by simp only; omega, ?_⟩
      (simp (disch := omega) only [Le, AllF, AllR, slotLe, rowLe, refsIn, Option.isSome_some, implies_true, forall_const, AV.int.injEq, AV.bool.injEq, AV.elt.injEq, Int.natCast_add, Int.cast_ofNat_Int, eqs, lk, look, AV.pureA, kill, AV.refs, hty, tyAll, Nat.reduceEqDiff, ↓reduceIte, reduceCtorEq, Nat.reduceLT, Nat.reduceLeDiff, Nat.reduceAdd, Nat.reduceMul, Int.reduceToNat, ne_eq] <;> repeat' (first | rfl | apply And.intro | omega))

end Go.Proofs.YtijoifajbmhgdaaGreat.Sym
