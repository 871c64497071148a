/- The reference's numbers of 32 digits: shifts, logic, length, order, bytes. -/
import Derived.Test.YtijoifajbmhgdaaGreatRb
namespace Go.Proofs.YtijoifajbmhgdaaGreat.Sym
set_option linter.unusedVariables false
open Go Go.RowKit Num
set_option maxRecDepth 10000
set_option linter.unusedSimpArgs false

theorem rbit_Dg (F : Nat → Int) (a : Int) (g : Nat → Int) (n : Nat) (h : ∀ j, j < n → F j = rbit a (g j)) : Dg 2 n F := fun j hj => by
  rw [h j hj]; have := rbit_bd a (g j); omega

/-! ### Shifts -/
def shI (a n : Int) : Int := if 0 ≤ n then a * 2 ^ n.toNat else a / 2 ^ (-n).toNat
def sRShift : List AV → SOut
  | [.arr .i64 32 f, .int .i64 n] => ⟨D f ∧ -4611686018427387904 ≤ n ∧ n ≤ 4611686018427387904, .arr .i64 32 (dl (shI (dv f) n))⟩
  | _ => ⟨False, .und⟩
theorem shI_nn {a : Int} (h : 0 ≤ a) (n : Int) : 0 ≤ shI a n := by
  unfold shI; split
  · exact Int.mul_nonneg h (Int.pow_nonneg (by decide))
  · exact Int.ediv_nonneg h (Int.pow_nonneg (by decide))
theorem rbit_shift {a : Int} (h : 0 ≤ a) (n : Int) (i : Nat) : rbit a ((i : Int) - n) = dig 2 (shI a n) i := by
  rw [dig2_bt _ (shI_nn h n)]
  unfold rbit shI
  by_cases hn : 0 ≤ n
  · rw [if_pos hn, bt_mul _ h]
    by_cases hi : 0 ≤ (i : Int) - n
    · rw [if_pos hi, dig2_bt _ h, decide_eq_true (show n.toNat ≤ i by omega), Bool.true_and, show ((i : Int) - n).toNat = i - n.toNat from by omega]
    · rw [if_neg hi, decide_eq_false (show ¬ n.toNat ≤ i by omega)]; simp
  · rw [if_neg hn, bt_div _ h, if_pos (by omega), dig2_bt _ h, show ((i : Int) - n).toNat = (-n).toNat + i from by omega]
theorem wsum_bits {a : Int} (F : Nat → Int) (h : ∀ j, j < 256 → F j = dig 2 a j) : dl (wsum 2 F 256) = dl a := by
  rw [wsum_congr h, wsum_dig (by decide), M_2, dl_mod]
theorem c_RShift : Contract Tryz.prog 23 sRShift := by
  refine fun_ok [(63, sRBit), (64, sRBits)] ⟨c_RBit, c_RBits, trivial⟩ Tryz.func23 rfl (by kernel_rfl) Tryz.ntmps23 Tryz.results23 (fun E hE hty hfs xs hp => ?_)
  unfold sRShift at hp
  split at hp
  case h_2 => exact hp.elim
  rename_i f n
  obtain ⟨hf, n0, n1⟩ := hp
  refine ⟨by simp, fun Q hQ => ?_⟩
  simp only [params, Nat.reduceAdd]
  repeat' first
    | refine T_seq' ?_
    | refine T_block ?_
    | refine n_then ?_
    | refine x_then ?_
    | refine r_then ?_
    | refine n_block ?_
    | refine r_block ?_
    | refine x_block ?_
    | refine x_block' (by rfl) ?_
    | refine T_exit ?_
    | refine T_skip ?_
    | refine T_ret ?_
    | ((first | refine T_region hE (by rfl) (fun K hK => ?_) | refine T_draw hE (by rfl) (by kernel_rfl) (fun K hK => ?_)); simp (disch := omega) only [eqs, evs, stp, stepW, wantA, opStep, kindOf, headStep, skipStep, stStep, wrStep, cpStep, stA, appA, readSl, isSl, copyA, kill, AV.refs, hd, hdLoad, hdBin, intBin, hdUn, hdConv, hdIdxAddr, hdIdx, hdSlice, bnd, hdCall, hdCallF, hdLen, hdMin, argsA, mapA, partsOk, partsF, lk, look, addR, evA, constA, HOut.ok, hty, hfs, tyAll, List.map, List.all, List.getElem?_cons_zero, List.getElem?_cons_succ, Option.bind_some, Option.map_some, Option.map_none, Option.getD_some, AV.pureA, Nat.reduceEqDiff, ↓reduceIte, reduceCtorEq, Nat.reduceLT, Nat.reduceLeDiff, Nat.reduceAdd, Nat.reduceMul, Int.reduceToNat, IntKind.bits, BEq.rfl, beq_self_eq_true, bne_self_eq_false, Int.reduceBEq, Int.reduceBNe, Int.reduceEq, Int.reduceNe, ne_eq, Int.reduceLT, Int.reduceLE]; (repeat refine And.intro (by first | omega | assumption | (and_intros <;> first | omega | assumption) | fail) ?_); refine hK _ ?_; clear hK K)
    | (refine T_cond rfl (fun hc => ?_) (fun hc => ?_) <;> (try simp only [cnds, reduceCtorEq] at hc) <;> (try (first | (exact hc.elim) | (exfalso; omega))))
  refine T_for (ι := Nat × (Nat → Int)) (fun i => ⟨[(1, .int .i64 n), (2, .elt 2 0), (4, .elt 4 0), (5, .elt 5 0), (6, .int .i64 i.1)], [(2, ⟨.i64, 32, f⟩), (4, ⟨.i64, 32, fun _ => 0⟩), (5, ⟨.i64, 256, i.2⟩)]⟩)
    (fun i => i.1 ≤ 256 ∧ ∀ j, j < i.1 → i.2 j = rbit (dv f) ((j : Int) - n)) (fun i => 256 - i.1)
    ⟨(0, fun _ => 0), ⟨by simp, fun j h1 => by simp at h1⟩, ?_⟩ (fun i hi => ?_)
  · (simp (disch := omega) only [Le, AllF, AllR, slotLe, rowLe, refsIn, Option.isSome_some, implies_true, forall_const, AV.int.injEq, AV.bool.injEq, AV.elt.injEq, Int.natCast_add, Int.cast_ofNat_Int, eqs, lk, look, AV.pureA, kill, AV.refs, hty, tyAll, Nat.reduceEqDiff, ↓reduceIte, reduceCtorEq, Nat.reduceLT, Nat.reduceLeDiff, Nat.reduceAdd, Nat.reduceMul, Int.reduceToNat, ne_eq] <;> repeat' (first | rfl | apply And.intro | omega))
  · obtain ⟨i, o⟩ := i
    obtain ⟨h0, ho⟩ := hi
    simp only at h0 ho ⊢
    by_cases hlt : i < 256
    · repeat' first
        | refine T_seq' ?_
        | refine T_block ?_
        | refine n_then ?_
        | refine x_then ?_
        | refine r_then ?_
        | refine n_block ?_
        | refine r_block ?_
        | refine x_block ?_
        | refine x_block' (by rfl) ?_
        | refine T_exit ?_
        | refine T_skip ?_
        | refine T_ret ?_
        | ((first | refine T_region hE (by rfl) (fun K hK => ?_) | refine T_draw hE (by rfl) (by kernel_rfl) (fun K hK => ?_)); simp (disch := omega) only [eqs, evs, stp, stepW, wantA, opStep, kindOf, headStep, skipStep, stStep, wrStep, cpStep, stA, appA, readSl, isSl, copyA, kill, AV.refs, hd, hdLoad, hdBin, intBin, hdUn, hdConv, hdIdxAddr, hdIdx, hdSlice, bnd, hdCall, hdCallF, hdLen, hdMin, argsA, mapA, partsOk, partsF, lk, look, addR, evA, constA, HOut.ok, hty, hfs, tyAll, List.map, List.all, List.getElem?_cons_zero, List.getElem?_cons_succ, Option.bind_some, Option.map_some, Option.map_none, Option.getD_some, AV.pureA, Nat.reduceEqDiff, ↓reduceIte, reduceCtorEq, Nat.reduceLT, Nat.reduceLeDiff, Nat.reduceAdd, Nat.reduceMul, Int.reduceToNat, IntKind.bits, BEq.rfl, beq_self_eq_true, bne_self_eq_false, Int.reduceBEq, Int.reduceBNe, Int.reduceEq, Int.reduceNe, ne_eq, Int.reduceLT, Int.reduceLE, sRBit]; (repeat refine And.intro (by first | omega | assumption | (and_intros <;> first | omega | assumption) | fail) ?_); refine hK _ ?_; clear hK K)
        | (refine T_cond rfl (fun hc => ?_) (fun hc => ?_) <;> (try simp only [cnds, reduceCtorEq] at hc) <;> (try (first | (exact hc.elim) | (exfalso; omega))))
      refine ⟨(i + 1, updF o i (rbit (dv f) ((i : Int) - n))), ⟨by simp only; omega, upd_ok (F := fun j => rbit (dv f) ((j : Int) - n)) ho rfl⟩, by simp only; omega, ?_⟩
      (simp (disch := omega) only [Le, AllF, AllR, slotLe, rowLe, refsIn, Option.isSome_some, implies_true, forall_const, AV.int.injEq, AV.bool.injEq, AV.elt.injEq, Int.natCast_add, Int.cast_ofNat_Int, eqs, lk, look, AV.pureA, kill, AV.refs, hty, tyAll, Nat.reduceEqDiff, ↓reduceIte, reduceCtorEq, Nat.reduceLT, Nat.reduceLeDiff, Nat.reduceAdd, Nat.reduceMul, Int.reduceToNat, ne_eq] <;> repeat' (first | rfl | apply And.intro | omega))
    · obtain rfl : i = 256 := by omega
      have hb := rbit_Dg o _ _ 256 ho
      repeat' first
        | refine T_seq' ?_
        | refine T_block ?_
        | refine n_then ?_
        | refine x_then ?_
        | refine r_then ?_
        | refine n_block ?_
        | refine r_block ?_
        | refine x_block ?_
        | refine x_block' (by rfl) ?_
        | refine T_exit ?_
        | refine T_skip ?_
        | refine T_ret ?_
        | ((first | refine T_region hE (by rfl) (fun K hK => ?_) | refine T_draw hE (by rfl) (by kernel_rfl) (fun K hK => ?_)); simp (disch := omega) only [eqs, evs, stp, stepW, wantA, opStep, kindOf, headStep, skipStep, stStep, wrStep, cpStep, stA, appA, readSl, isSl, copyA, kill, AV.refs, hd, hdLoad, hdBin, intBin, hdUn, hdConv, hdIdxAddr, hdIdx, hdSlice, bnd, hdCall, hdCallF, hdLen, hdMin, argsA, mapA, partsOk, partsF, lk, look, addR, evA, constA, HOut.ok, hty, hfs, tyAll, List.map, List.all, List.getElem?_cons_zero, List.getElem?_cons_succ, Option.bind_some, Option.map_some, Option.map_none, Option.getD_some, AV.pureA, Nat.reduceEqDiff, ↓reduceIte, reduceCtorEq, Nat.reduceLT, Nat.reduceLeDiff, Nat.reduceAdd, Nat.reduceMul, Int.reduceToNat, IntKind.bits, BEq.rfl, beq_self_eq_true, bne_self_eq_false, Int.reduceBEq, Int.reduceBNe, Int.reduceEq, Int.reduceNe, ne_eq, Int.reduceLT, Int.reduceLE, sRBits]; (repeat refine And.intro (by first | omega | assumption | (and_intros <;> first | omega | assumption) | fail) ?_); refine hK _ ?_; clear hK K)
        | (refine T_cond rfl (fun hc => ?_) (fun hc => ?_) <;> (try simp only [cnds, reduceCtorEq] at hc) <;> (try (first | (exact hc.elim) | (exfalso; omega))))
      refine hQ _ ?_
      simp (disch := omega) only [resOk, res1, retOk, eqs, lk, look, AV.pureA, kill, AV.refs, hty, tyAll, Nat.reduceEqDiff, ↓reduceIte, reduceCtorEq, Nat.reduceLT, Nat.reduceLeDiff, Nat.reduceAdd, Nat.reduceMul, Int.reduceToNat, ne_eq, sRShift]
      intro j hj
      rw [wsum_bits (a := shI (dv f) n) o (fun j hj => by rw [ho j hj, rbit_shift (dv_bd hf).1])]

/-! ### The length -/
theorem bl_one : bl 1 = 1 := by decide
theorem bl_at {a : Int} {i : Nat} (h0 : 2 ^ i ≤ a) (h1 : a < 2 ^ (i + 1)) : bl a = i + 1 := by
  have hp : (0 : Int) < 2 ^ i := Int.pow_pos (by decide)
  have e : a / 2 ^ i = 1 := by
    have := (Int.ediv_emod_unique (a := a) (b := 2 ^ i) (r := a - 2 ^ i) (q := 1) hp).2 ⟨by rw [Int.mul_one]; omega, by omega, by rw [Int.pow_succ] at h1; omega⟩
    exact this.1
  rw [bl_shift i (by omega) (by rw [e]; decide), e, bl_one]
theorem bl_step {a : Int} (h : 0 ≤ a) (i : Nat) : bl (a % 2 ^ (i + 1)) = if dig 2 a i = 1 then (i : Int) + 1 else bl (a % 2 ^ i) := by
  have hp : (0 : Int) < 2 ^ i := Int.pow_pos (by decide)
  have e1 := wsum_dig (B := 2) (by decide) a i
  have e2 := wsum_dig (B := 2) (by decide) a (i + 1)
  rw [wsum_succ, e1] at e2
  have d := dig_bd (B := 2) (by decide) a i
  have b0 := Int.emod_nonneg a (show (2 : Int) ^ i ≠ 0 by omega)
  have b1 := Int.emod_lt_of_pos a hp
  split
  · rename_i hd1
    rw [hd1] at e2
    refine bl_at (by omega) ?_
    rw [Int.pow_succ] at e2 ⊢; omega
  · have : dig 2 a i = 0 := by omega
    rw [this] at e2
    rw [← e2]; simp
def opN (op : Int) : Nat → Nat → Nat := if op = 0 then (· &&& ·) else if op = 1 then (· ||| ·) else (· ^^^ ·)
def sRLogic : List AV → SOut
  | [.arr .i64 32 f, .arr .i64 32 g, .int .i64 op] => ⟨D f ∧ D g ∧ 0 ≤ op ∧ op ≤ 2, .arr .i64 32 (dl (lgc (opN op) (dv f) (dv g)))⟩
  | _ => ⟨False, .und⟩
def lcond (op s : Int) : Prop := (op = 0 ∧ s = 2) ∨ (op = 1 ∧ 0 < s) ∨ (op = 2 ∧ s = 1)
open Classical in
noncomputable def lbit (op s : Int) : Int := if lcond op s then 1 else 0
theorem lbit_dig {a b op : Int} (ha : 0 ≤ a) (hb : 0 ≤ b) (h0 : 0 ≤ op) (h1 : op ≤ 2) (j : Nat) : lbit op (rbit a j + rbit b j) = dig 2 (lgc (opN op) a b) j := by
  have ra : rbit a j = dig 2 a j := by unfold rbit; rw [if_pos (by omega)]; rfl
  have rb : rbit b j = dig 2 b j := by unfold rbit; rw [if_pos (by omega)]; rfl
  rw [ra, rb, dig2_bt _ ha, dig2_bt _ hb, dig2_bt _ (show 0 ≤ lgc (opN op) a b from Int.natCast_nonneg _)]
  unfold lgc lbit lcond opN bt
  rw [Int.toNat_natCast]
  have : op = 0 ∨ op = 1 ∨ op = 2 := by omega
  rcases this with rfl | rfl | rfl
  · simp only [if_true, Nat.testBit_and]
    cases a.toNat.testBit j <;> cases b.toNat.testBit j <;> simp
  · simp only [Int.reduceEq, if_false, if_true, Nat.testBit_or]
    cases a.toNat.testBit j <;> cases b.toNat.testBit j <;> simp
  · simp only [Int.reduceEq, if_false, Nat.testBit_xor]
    cases a.toNat.testBit j <;> cases b.toNat.testBit j <;> simp
theorem c_RLogic : Contract Tryz.prog 20 sRLogic := by
  refine fun_ok [(63, sRBit), (64, sRBits)] ⟨c_RBit, c_RBits, trivial⟩ Tryz.func20 rfl (by kernel_rfl) Tryz.ntmps20 Tryz.results20 (fun E hE hty hfs xs hp => ?_)
  unfold sRLogic at hp
  split at hp
  case h_2 => exact hp.elim
  rename_i f g op
  obtain ⟨hf, hg, o0, o1⟩ := hp
  refine ⟨by simp, fun Q hQ => ?_⟩
  simp only [params, Nat.reduceAdd]
  repeat' first
    | refine T_seq' ?_
    | refine T_block ?_
    | refine n_then ?_
    | refine x_then ?_
    | refine r_then ?_
    | refine n_block ?_
    | refine r_block ?_
    | refine x_block ?_
    | refine x_block' (by rfl) ?_
    | refine T_exit ?_
    | refine T_skip ?_
    | refine T_ret ?_
    | ((first | refine T_region hE (by rfl) (fun K hK => ?_) | refine T_draw hE (by rfl) (by kernel_rfl) (fun K hK => ?_)); simp (disch := omega) only [eqs, evs, stp, stepW, wantA, opStep, kindOf, headStep, skipStep, stStep, wrStep, cpStep, stA, appA, readSl, isSl, copyA, kill, AV.refs, hd, hdLoad, hdBin, intBin, hdUn, hdConv, hdIdxAddr, hdIdx, hdSlice, bnd, hdCall, hdCallF, hdLen, hdMin, argsA, mapA, partsOk, partsF, lk, look, addR, evA, constA, HOut.ok, hty, hfs, tyAll, List.map, List.all, List.getElem?_cons_zero, List.getElem?_cons_succ, Option.bind_some, Option.map_some, Option.map_none, Option.getD_some, AV.pureA, Nat.reduceEqDiff, ↓reduceIte, reduceCtorEq, Nat.reduceLT, Nat.reduceLeDiff, Nat.reduceAdd, Nat.reduceMul, Int.reduceToNat, IntKind.bits, BEq.rfl, beq_self_eq_true, bne_self_eq_false, Int.reduceBEq, Int.reduceBNe, Int.reduceEq, Int.reduceNe, ne_eq, Int.reduceLT, Int.reduceLE]; (repeat refine And.intro (by first | omega | assumption | (and_intros <;> first | omega | assumption) | fail) ?_); refine hK _ ?_; clear hK K)
    | (refine T_cond rfl (fun hc => ?_) (fun hc => ?_) <;> (try simp only [cnds, reduceCtorEq] at hc) <;> (try (first | (exact hc.elim) | (exfalso; omega))))
  refine T_for (ι := Nat × (Nat → Int)) (fun i => ⟨[(2, .int .i64 op), (3, .elt 3 0), (4, .elt 4 0), (6, .elt 6 0), (7, .elt 7 0), (8, .int .i64 i.1)], [(3, ⟨.i64, 32, f⟩), (4, ⟨.i64, 32, g⟩), (6, ⟨.i64, 32, fun _ => 0⟩), (7, ⟨.i64, 256, i.2⟩)]⟩)
    (fun i => i.1 ≤ 256 ∧ (∀ j, j < i.1 → i.2 j = lbit op (rbit (dv f) (j : Int) + rbit (dv g) (j : Int))) ∧ ∀ j, i.1 ≤ j → i.2 j = 0) (fun i => 256 - i.1)
    ⟨(0, fun _ => 0), ⟨by simp, fun j h1 => by simp at h1, fun j h => rfl⟩, ?_⟩ (fun i hi => ?_)
  · (simp (disch := omega) only [Le, AllF, AllR, slotLe, rowLe, refsIn, Option.isSome_some, implies_true, forall_const, AV.int.injEq, AV.bool.injEq, AV.elt.injEq, Int.natCast_add, Int.cast_ofNat_Int, eqs, lk, look, AV.pureA, kill, AV.refs, hty, tyAll, Nat.reduceEqDiff, ↓reduceIte, reduceCtorEq, Nat.reduceLT, Nat.reduceLeDiff, Nat.reduceAdd, Nat.reduceMul, Int.reduceToNat, ne_eq] <;> repeat' (first | rfl | apply And.intro | omega))
  · obtain ⟨i, o⟩ := i
    obtain ⟨h0, ho, hz⟩ := hi
    simp only at h0 ho hz ⊢
    by_cases hlt : i < 256
    · have b1 := rbit_bd (dv f) i
      have b2 := rbit_bd (dv g) i
      by_cases hl : lcond op (rbit (dv f) i + rbit (dv g) i)
      · have hv : (1 : Int) = lbit op (rbit (dv f) i + rbit (dv g) i) := by unfold lbit; rw [if_pos hl]
        have fin : ∀ j, j < i + 1 → updF o i 1 j = lbit op (rbit (dv f) (j : Int) + rbit (dv g) (j : Int)) := upd_ok (F := fun j => lbit op (rbit (dv f) (j : Int) + rbit (dv g) (j : Int))) ho hv
        have fin2 : ∀ j, i + 1 ≤ j → updF o i 1 j = 0 := fun j h => by rw [updF_ne _ _ (by omega)]; exact hz j (by omega)
        generalize hs : rbit (dv f) i + rbit (dv g) i = s at hl
        have s0 : 0 ≤ s ∧ s ≤ 2 := by omega
        have hl' : (op = 0 ∧ s = 2) ∨ (op = 1 ∧ s = 1) ∨ (op = 1 ∧ s = 2) ∨ (op = 2 ∧ s = 1) := by unfold lcond at hl; omega
        rcases hl' with ⟨rfl, rfl⟩ | ⟨rfl, rfl⟩ | ⟨rfl, rfl⟩ | ⟨rfl, rfl⟩
        all_goals
          repeat' first
            | refine T_seq' ?_
            | refine T_block ?_
            | refine n_then ?_
            | refine x_then ?_
            | refine r_then ?_
            | refine n_block ?_
            | refine r_block ?_
            | refine x_block ?_
            | refine x_block' (by rfl) ?_
            | refine T_exit ?_
            | refine T_skip ?_
            | refine T_ret ?_
            | ((first | refine T_region hE (by rfl) (fun K hK => ?_) | refine T_draw hE (by rfl) (by kernel_rfl) (fun K hK => ?_)); simp (disch := omega) only [eqs, evs, stp, stepW, wantA, opStep, kindOf, headStep, skipStep, stStep, wrStep, cpStep, stA, appA, readSl, isSl, copyA, kill, AV.refs, hd, hdLoad, hdBin, intBin, hdUn, hdConv, hdIdxAddr, hdIdx, hdSlice, bnd, hdCall, hdCallF, hdLen, hdMin, argsA, mapA, partsOk, partsF, lk, look, addR, evA, constA, HOut.ok, hty, hfs, tyAll, List.map, List.all, List.getElem?_cons_zero, List.getElem?_cons_succ, Option.bind_some, Option.map_some, Option.map_none, Option.getD_some, AV.pureA, Nat.reduceEqDiff, ↓reduceIte, reduceCtorEq, Nat.reduceLT, Nat.reduceLeDiff, Nat.reduceAdd, Nat.reduceMul, Int.reduceToNat, IntKind.bits, BEq.rfl, beq_self_eq_true, bne_self_eq_false, Int.reduceBEq, Int.reduceBNe, Int.reduceEq, Int.reduceNe, ne_eq, Int.reduceLT, Int.reduceLE, sRBit, hs]; (repeat refine And.intro (by first | omega | assumption | (and_intros <;> first | omega | assumption) | fail) ?_); refine hK _ ?_; clear hK K)
            | (refine T_cond rfl (fun hc => ?_) (fun hc => ?_) <;> (try simp only [cnds, reduceCtorEq] at hc) <;> (try (first | (exact hc.elim) | (exfalso; omega))))
          refine ⟨(i + 1, updF o i 1), ⟨by simp only; omega, fin, fin2⟩, by simp only; omega, ?_⟩
          (simp (disch := omega) only [Le, AllF, AllR, slotLe, rowLe, refsIn, Option.isSome_some, implies_true, forall_const, AV.int.injEq, AV.bool.injEq, AV.elt.injEq, Int.natCast_add, Int.cast_ofNat_Int, eqs, lk, look, AV.pureA, kill, AV.refs, hty, tyAll, Nat.reduceEqDiff, ↓reduceIte, reduceCtorEq, Nat.reduceLT, Nat.reduceLeDiff, Nat.reduceAdd, Nat.reduceMul, Int.reduceToNat, ne_eq] <;> repeat' (first | rfl | apply And.intro | omega))
      · have hv : o i = lbit op (rbit (dv f) i + rbit (dv g) i) := by unfold lbit; rw [if_neg hl]; exact hz i (by omega)
        have fin : ∀ j, j < i + 1 → o j = lbit op (rbit (dv f) (j : Int) + rbit (dv g) (j : Int)) := fun j hj => by
          by_cases e : j = i
          · rw [e]; exact hv
          · exact ho j (by omega)
        unfold lcond at hl
        generalize hs : rbit (dv f) i + rbit (dv g) i = s at hl
        have s0 : 0 ≤ s ∧ s ≤ 2 := by omega
        have hl' : (op = 0 ∧ s = 0) ∨ (op = 0 ∧ s = 1) ∨ (op = 1 ∧ s = 0) ∨ (op = 2 ∧ s = 0) ∨ (op = 2 ∧ s = 2) := by omega
        rcases hl' with ⟨rfl, rfl⟩ | ⟨rfl, rfl⟩ | ⟨rfl, rfl⟩ | ⟨rfl, rfl⟩ | ⟨rfl, rfl⟩
        all_goals
          repeat' first
            | refine T_seq' ?_
            | refine T_block ?_
            | refine n_then ?_
            | refine x_then ?_
            | refine r_then ?_
            | refine n_block ?_
            | refine r_block ?_
            | refine x_block ?_
            | refine x_block' (by rfl) ?_
            | refine T_exit ?_
            | refine T_skip ?_
            | refine T_ret ?_
            | ((first | refine T_region hE (by rfl) (fun K hK => ?_) | refine T_draw hE (by rfl) (by kernel_rfl) (fun K hK => ?_)); simp (disch := omega) only [eqs, evs, stp, stepW, wantA, opStep, kindOf, headStep, skipStep, stStep, wrStep, cpStep, stA, appA, readSl, isSl, copyA, kill, AV.refs, hd, hdLoad, hdBin, intBin, hdUn, hdConv, hdIdxAddr, hdIdx, hdSlice, bnd, hdCall, hdCallF, hdLen, hdMin, argsA, mapA, partsOk, partsF, lk, look, addR, evA, constA, HOut.ok, hty, hfs, tyAll, List.map, List.all, List.getElem?_cons_zero, List.getElem?_cons_succ, Option.bind_some, Option.map_some, Option.map_none, Option.getD_some, AV.pureA, Nat.reduceEqDiff, ↓reduceIte, reduceCtorEq, Nat.reduceLT, Nat.reduceLeDiff, Nat.reduceAdd, Nat.reduceMul, Int.reduceToNat, IntKind.bits, BEq.rfl, beq_self_eq_true, bne_self_eq_false, Int.reduceBEq, Int.reduceBNe, Int.reduceEq, Int.reduceNe, ne_eq, Int.reduceLT, Int.reduceLE, sRBit, hs]; (repeat refine And.intro (by first | omega | assumption | (and_intros <;> first | omega | assumption) | fail) ?_); refine hK _ ?_; clear hK K)
            | (refine T_cond rfl (fun hc => ?_) (fun hc => ?_) <;> (try simp only [cnds, reduceCtorEq] at hc) <;> (try (first | (exact hc.elim) | (exfalso; omega))))
          refine ⟨(i + 1, o), ⟨by simp only; omega, fin, fun j h => hz j (by simp only at h; omega)⟩, by simp only; omega, ?_⟩
          (simp (disch := omega) only [Le, AllF, AllR, slotLe, rowLe, refsIn, Option.isSome_some, implies_true, forall_const, AV.int.injEq, AV.bool.injEq, AV.elt.injEq, Int.natCast_add, Int.cast_ofNat_Int, eqs, lk, look, AV.pureA, kill, AV.refs, hty, tyAll, Nat.reduceEqDiff, ↓reduceIte, reduceCtorEq, Nat.reduceLT, Nat.reduceLeDiff, Nat.reduceAdd, Nat.reduceMul, Int.reduceToNat, ne_eq] <;> repeat' (first | rfl | apply And.intro | omega))
    · obtain rfl : i = 256 := by omega
      have hb : Dg 2 256 o := fun j hj => by
        rw [ho j hj]; unfold lbit; split <;> omega
      repeat' first
        | refine T_seq' ?_
        | refine T_block ?_
        | refine n_then ?_
        | refine x_then ?_
        | refine r_then ?_
        | refine n_block ?_
        | refine r_block ?_
        | refine x_block ?_
        | refine x_block' (by rfl) ?_
        | refine T_exit ?_
        | refine T_skip ?_
        | refine T_ret ?_
        | ((first | refine T_region hE (by rfl) (fun K hK => ?_) | refine T_draw hE (by rfl) (by kernel_rfl) (fun K hK => ?_)); simp (disch := omega) only [eqs, evs, stp, stepW, wantA, opStep, kindOf, headStep, skipStep, stStep, wrStep, cpStep, stA, appA, readSl, isSl, copyA, kill, AV.refs, hd, hdLoad, hdBin, intBin, hdUn, hdConv, hdIdxAddr, hdIdx, hdSlice, bnd, hdCall, hdCallF, hdLen, hdMin, argsA, mapA, partsOk, partsF, lk, look, addR, evA, constA, HOut.ok, hty, hfs, tyAll, List.map, List.all, List.getElem?_cons_zero, List.getElem?_cons_succ, Option.bind_some, Option.map_some, Option.map_none, Option.getD_some, AV.pureA, Nat.reduceEqDiff, ↓reduceIte, reduceCtorEq, Nat.reduceLT, Nat.reduceLeDiff, Nat.reduceAdd, Nat.reduceMul, Int.reduceToNat, IntKind.bits, BEq.rfl, beq_self_eq_true, bne_self_eq_false, Int.reduceBEq, Int.reduceBNe, Int.reduceEq, Int.reduceNe, ne_eq, Int.reduceLT, Int.reduceLE, sRBits]; (repeat refine And.intro (by first | omega | assumption | (and_intros <;> first | omega | assumption) | fail) ?_); refine hK _ ?_; clear hK K)
        | (refine T_cond rfl (fun hc => ?_) (fun hc => ?_) <;> (try simp only [cnds, reduceCtorEq] at hc) <;> (try (first | (exact hc.elim) | (exfalso; omega))))
      refine hQ _ ?_
      simp (disch := omega) only [resOk, res1, retOk, eqs, lk, look, AV.pureA, kill, AV.refs, hty, tyAll, Nat.reduceEqDiff, ↓reduceIte, reduceCtorEq, Nat.reduceLT, Nat.reduceLeDiff, Nat.reduceAdd, Nat.reduceMul, Int.reduceToNat, ne_eq, sRLogic]
      intro j hj
      rw [wsum_bits (a := lgc (opN op) (dv f) (dv g)) o (fun j hj => by rw [ho j hj, lbit_dig (dv_bd hf).1 (dv_bd hg).1 o0 o1])]

end Go.Proofs.YtijoifajbmhgdaaGreat.Sym
