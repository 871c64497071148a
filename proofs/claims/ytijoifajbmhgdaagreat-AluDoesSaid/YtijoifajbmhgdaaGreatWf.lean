/- Words: shifts and logic, bit by bit. -/
import Derived.Test.YtijoifajbmhgdaaGreatWe
namespace Go.Proofs.YtijoifajbmhgdaaGreat.Sym
set_option linter.unusedVariables false
open Go Go.RowKit Num
set_option maxRecDepth 10000
set_option linter.unusedSimpArgs false

/-! ### A number's bits -/
def bt (x : Int) (k : Nat) : Bool := x.toNat.testBit k
theorem bt_ext {x y : Int} (hx : 0 ≤ x) (hy : 0 ≤ y) (h : ∀ k, bt x k = bt y k) : x = y := by
  have := Nat.eq_of_testBit_eq (x := x.toNat) (y := y.toNat) h
  omega
theorem bt_nat (n k : Nat) : bt (n : Int) k = n.testBit k := by unfold bt; rw [Int.toNat_natCast]
theorem bt_zero (k : Nat) : bt 0 k = false := by unfold bt; simp
theorem bt_hi {x : Int} {n : Nat} (h0 : 0 ≤ x) (h : x < 2 ^ n) {k : Nat} (hk : n ≤ k) : bt x k = false := by
  unfold bt
  refine Nat.testBit_lt_two_pow ?_
  have h' : ((x.toNat : Nat) : Int) < ((2 ^ k : Nat) : Int) := by
    have := ipow_le hk
    have e : ((2 ^ k : Nat) : Int) = 2 ^ k := by simp
    rw [e]; omega
  exact Int.ofNat_lt.1 h'
theorem bt_hiU {x : Int} (h : U x) {k : Nat} (hk : 64 ≤ k) : bt x k = false := bt_hi (n := 64) h.1 (by have := h.2; omega) hk
theorem bt_mod {x : Int} (n : Nat) (h0 : 0 ≤ x) (k : Nat) : bt (x % 2 ^ n) k = (decide (k < n) && bt x k) := by
  obtain ⟨m, rfl⟩ := Int.eq_ofNat_of_zero_le h0
  rw [show ((m : Nat) : Int) % 2 ^ n = ((m % 2 ^ n : Nat) : Int) from by simp, bt_nat, bt_nat, Nat.testBit_mod_two_pow]
theorem bt_div {x : Int} (n : Nat) (h0 : 0 ≤ x) (k : Nat) : bt (x / 2 ^ n) k = bt x (n + k) := by
  obtain ⟨m, rfl⟩ := Int.eq_ofNat_of_zero_le h0
  rw [show ((m : Nat) : Int) / 2 ^ n = ((m / 2 ^ n : Nat) : Int) from by simp, bt_nat, bt_nat, Nat.testBit_div_two_pow, Nat.add_comm]
theorem bt_mul {x : Int} (n : Nat) (h0 : 0 ≤ x) (k : Nat) : bt (x * 2 ^ n) k = (decide (n ≤ k) && bt x (k - n)) := by
  obtain ⟨m, rfl⟩ := Int.eq_ofNat_of_zero_le h0
  rw [show ((m : Nat) : Int) * 2 ^ n = ((m * 2 ^ n : Nat) : Int) from by simp, bt_nat, bt_nat, Nat.testBit_mul_two_pow]
theorem bt_wl (a : Int) (i k : Nat) (hi : i < 4) : bt (wl a i) k = (decide (k < 64) && bt (a % M) (64 * i + k)) := by
  unfold wl dig
  rw [B64_2, ← Int.pow_mul]
  have h := Int.emod_nonneg a (show M ≠ 0 by decide)
  rw [bt_mod 64 (Int.ediv_nonneg h (Int.pow_nonneg (by decide))), bt_div _ h]
theorem bt_limb {f : Nat → Int} (h : W f) (i k : Nat) (hi : i < 4) : bt (f i) k = (decide (k < 64) && bt (wv f) (64 * i + k)) := by
  rw [← wl_wv h i hi, bt_wl _ _ _ hi, modM (wv_bd h).1 (wv_bd h).2]
theorem bt_modM {a : Int} (h : 0 ≤ a) (k : Nat) : bt (a % M) k = (decide (k < 256) && bt a k) := by rw [← M_2, bt_mod 256 h]
theorem bt_wv {f : Nat → Int} (h : W f) {k : Nat} (hk : 256 ≤ k) : bt (wv f) k = false := bt_hi (n := 256) (wv_bd h).1 (by rw [M_2]; exact (wv_bd h).2) hk
theorem bt_or {x y : Int} (hx : U x) (hy : U y) (k : Nat) : bt (bitsA .or .u64 x y) k = (bt x k || bt y k) := by
  rw [bitsA_or hx.1 hx.2 hy.1 hy.2, bt_nat, Nat.testBit_or]; rfl
theorem bt_and {x y : Int} (hx : U x) (hy : U y) (k : Nat) : bt (bitsA .and .u64 x y) k = (bt x k && bt y k) := by
  rw [bitsA_and hx.1 hx.2 hy.1 hy.2, bt_nat, Nat.testBit_and]; rfl
theorem bt_xor {x y : Int} (hx : U x) (hy : U y) (k : Nat) : bt (bitsA .xor .u64 x y) k = (bt x k ^^ bt y k) := by
  rw [bitsA_xor hx.1 hx.2 hy.1 hy.2, bt_nat, Nat.testBit_xor]; rfl
theorem and_bd {x y : Int} (hx : U x) (hy : U y) : U (bitsA .and .u64 x y) := by
  rw [bitsA_and hx.1 hx.2 hy.1 hy.2]
  have := Nat.and_le_left (n := x.toNat) (m := y.toNat)
  have h1 := hx.1; have h2 := hx.2
  exact ⟨by omega, by omega⟩
theorem xor_bd {x y : Int} (hx : U x) (hy : U y) : U (bitsA .xor .u64 x y) := by
  rw [bitsA_xor hx.1 hx.2 hy.1 hy.2]
  have := Nat.xor_lt_two_pow (x := x.toNat) (y := y.toNat) (n := 64) (by have := hx.2; omega) (by have := hy.2; omega)
  exact ⟨by omega, by omega⟩
theorem wl_U (a : Int) (i : Nat) (hi : i < 4) : U (wl a i) := W_U (W_wl a) i hi
theorem dig2_bt (a : Int) (h : 0 ≤ a) (n : Nat) : dig 2 a n = if bt a n = true then 1 else 0 := by
  obtain ⟨m, rfl⟩ := Int.eq_ofNat_of_zero_le h
  unfold dig
  rw [bt_nat, show ((m : Nat) : Int) / 2 ^ n % 2 = ((m / 2 ^ n % 2 : Nat) : Int) from by simp]
  have e : m.testBit n = decide (m / 2 ^ n % 2 = 1) := by
    have := Nat.testBit_div_two_pow (n := n) m 0
    rw [Nat.zero_add] at this
    rw [← this, Nat.testBit_zero]
  rw [e]
  by_cases h : m / 2 ^ n % 2 = 1
  · simp [h]
  · have : m / 2 ^ n % 2 = 0 := by omega
    simp [this]

/-! ### Shifts -/
def sShl : List AV → SOut
  | [.arr .u64 4 f, .int .u64 n] => ⟨W f ∧ 0 ≤ n ∧ n < 18446744073709551616, .arr .u64 4 (wl (wv f * 2 ^ n.toNat))⟩
  | _ => ⟨False, .und⟩
def sShr : List AV → SOut
  | [.arr .u64 4 f, .int .u64 n] => ⟨W f ∧ 0 ≤ n ∧ n < 18446744073709551616, .arr .u64 4 (wl (wv f / 2 ^ n.toNat))⟩
  | _ => ⟨False, .und⟩

theorem pz_U {f : Nat → Int} (h : W f) (i : Int) : U (pz f i) := by
  unfold pz
  split
  · exact W_U h _ (by omega)
  · exact ⟨by decide, by decide⟩
theorem bt_pz {f : Nat → Int} (h : W f) (i : Int) (k : Nat) (hk : k < 64) : bt (pz f i) k = (decide (0 ≤ 64 * i + k) && bt (wv f) (64 * i + k).toNat) := by
  unfold pz
  split
  · rename_i hi
    rw [bt_limb h _ _ (by omega), decide_eq_true hk, decide_eq_true (by omega)]
    congr 2; omega
  · rename_i hi
    rw [bt_zero]
    by_cases h0 : 0 ≤ i
    · rw [bt_wv h (by omega)]; simp
    · rw [decide_eq_false (by omega)]; simp

theorem shl_limb {f : Nat → Int} (h : W f) {i q r : Nat} (hi : i < 4) (hr : r < 64) :
    bitsA .or .u64 (pz f ((i : Int) - q) * 2 ^ r % 18446744073709551616) (pz f ((i : Int) - q - 1) / 2 ^ (64 - r)) = wl (wv f * 2 ^ (64 * q + r)) i := by
  have u1 := pz_U h ((i : Int) - q)
  have u2 := pz_U h ((i : Int) - q - 1)
  have b1 : U (pz f ((i : Int) - q) * 2 ^ r % 18446744073709551616) := ⟨Int.emod_nonneg _ (by decide), Int.emod_lt_of_pos _ (by decide)⟩
  have b2 : U (pz f ((i : Int) - q - 1) / 2 ^ (64 - r)) := ⟨Int.ediv_nonneg u2.1 (Int.pow_nonneg (by decide)), Int.lt_of_le_of_lt (Int.ediv_le_self _ u2.1) u2.2⟩
  refine bt_ext (or_bd b1 b2).1 (wl_U _ i hi).1 fun k => ?_
  rw [bt_or b1 b2, bt_wl _ _ _ hi, bt_modM (Int.mul_nonneg (wv_bd h).1 (Int.pow_nonneg (by decide))), bt_mul _ (wv_bd h).1]
  by_cases hk : k < 64
  · have e1 : bt (pz f ((i : Int) - q) * 2 ^ r % 18446744073709551616) k = (decide (r ≤ k) && bt (pz f ((i : Int) - q)) (k - r)) := by
      rw [show (18446744073709551616 : Int) = 2 ^ 64 from by decide, bt_mod 64 (Int.mul_nonneg u1.1 (Int.pow_nonneg (by decide))), bt_mul _ u1.1, decide_eq_true hk, Bool.true_and]
    rw [e1, bt_div _ u2.1]
    by_cases hrk : r ≤ k
    · have e2 : bt (pz f ((i : Int) - q - 1)) (64 - r + k) = false := bt_hiU u2 (by omega)
      rw [e2, bt_pz h _ _ (by omega)]
      by_cases hq : 64 * q + r ≤ 64 * i + k
      · rw [decide_eq_true hrk, decide_eq_true hk, decide_eq_true hq, decide_eq_true (show 64 * i + k < 256 by omega), decide_eq_true (show (0 : Int) ≤ 64 * ((i : Int) - q) + ((k - r : Nat) : Int) by omega)]
        simp only [Bool.true_and, Bool.or_false]
        congr 1; omega
      · rw [decide_eq_false hq, decide_eq_false (show ¬ (0 : Int) ≤ 64 * ((i : Int) - q) + ((k - r : Nat) : Int) by omega)]
        simp
    · rw [bt_pz h ((i : Int) - q - 1) _ (by omega), decide_eq_false hrk]
      by_cases hq : 64 * q + r ≤ 64 * i + k
      · rw [decide_eq_true hk, decide_eq_true hq, decide_eq_true (show 64 * i + k < 256 by omega), decide_eq_true (show (0 : Int) ≤ 64 * ((i : Int) - q - 1) + ((64 - r + k : Nat) : Int) by omega)]
        simp only [Bool.true_and, Bool.false_and, Bool.false_or]
        congr 1; omega
      · rw [decide_eq_false hq, decide_eq_false (show ¬ (0 : Int) ≤ 64 * ((i : Int) - q - 1) + ((64 - r + k : Nat) : Int) by omega)]
        simp
  · rw [bt_hiU b1 (by omega), bt_hiU b2 (by omega), decide_eq_false hk]; simp

theorem shr_limb {f : Nat → Int} (h : W f) {i q r : Nat} (hi : i < 4) (hr : r < 64) :
    bitsA .or .u64 (pz f ((i : Int) + q) / 2 ^ r) (pz f ((i : Int) + q + 1) * 2 ^ (64 - r) % 18446744073709551616) = wl (wv f / 2 ^ (64 * q + r)) i := by
  have u1 := pz_U h ((i : Int) + q)
  have u2 := pz_U h ((i : Int) + q + 1)
  have b2 : U (pz f ((i : Int) + q + 1) * 2 ^ (64 - r) % 18446744073709551616) := ⟨Int.emod_nonneg _ (by decide), Int.emod_lt_of_pos _ (by decide)⟩
  have b1 : U (pz f ((i : Int) + q) / 2 ^ r) := ⟨Int.ediv_nonneg u1.1 (Int.pow_nonneg (by decide)), Int.lt_of_le_of_lt (Int.ediv_le_self _ u1.1) u1.2⟩
  refine bt_ext (or_bd b1 b2).1 (wl_U _ i hi).1 fun k => ?_
  rw [bt_or b1 b2, bt_wl _ _ _ hi, bt_modM (Int.ediv_nonneg (wv_bd h).1 (Int.pow_nonneg (by decide))), bt_div _ (wv_bd h).1]
  by_cases hk : k < 64
  · have e1 : bt (pz f ((i : Int) + q + 1) * 2 ^ (64 - r) % 18446744073709551616) k = (decide (64 - r ≤ k) && bt (pz f ((i : Int) + q + 1)) (k - (64 - r))) := by
      rw [show (18446744073709551616 : Int) = 2 ^ 64 from by decide, bt_mod 64 (Int.mul_nonneg u2.1 (Int.pow_nonneg (by decide))), bt_mul _ u2.1, decide_eq_true hk, Bool.true_and]
    rw [e1, bt_div _ u1.1, decide_eq_true hk, decide_eq_true (show 64 * i + k < 256 by omega), Bool.true_and, Bool.true_and]
    by_cases hrk : 64 - r ≤ k
    · have e2 : bt (pz f ((i : Int) + q)) (r + k) = false := bt_hiU u1 (by omega)
      rw [e2, bt_pz h _ _ (by omega), decide_eq_true hrk, decide_eq_true (by omega)]
      simp only [Bool.true_and, Bool.false_or]
      congr 1; omega
    · rw [decide_eq_false hrk, bt_pz h _ _ (by omega), decide_eq_true (by omega)]
      simp only [Bool.true_and, Bool.false_and, Bool.or_false]
      congr 1; omega
  · rw [bt_hiU b1 (by omega), bt_hiU b2 (by omega), decide_eq_false hk]; simp

theorem shl_all {f : Nat → Int} (h : W f) {n : Nat} (hn : 256 ≤ n) : ∀ j, j < 4 → (0 : Int) = wl (wv f * 2 ^ n) j := by
  intro j hj
  refine bt_ext (by decide) (wl_U _ j hj).1 fun k => ?_
  rw [bt_zero, bt_wl _ _ _ hj, bt_modM (Int.mul_nonneg (wv_bd h).1 (Int.pow_nonneg (by decide))), bt_mul _ (wv_bd h).1]
  by_cases hk : k < 64
  · rw [decide_eq_false (show ¬ n ≤ 64 * j + k by omega)]; simp
  · simp [hk]
theorem shr_all {f : Nat → Int} (h : W f) {n : Nat} (hn : 256 ≤ n) : ∀ j, j < 4 → (0 : Int) = wl (wv f / 2 ^ n) j := by
  intro j hj
  have : wv f / 2 ^ n = 0 := Int.ediv_eq_zero_of_lt (wv_bd h).1 (Int.lt_of_lt_of_le (wv_bd h).2 (by rw [← M_2]; exact ipow_le hn))
  rw [this]
  refine bt_ext (by decide) (wl_U _ j hj).1 fun k => ?_
  rw [bt_zero, bt_wl _ _ _ hj, Int.zero_emod, bt_zero]; simp

theorem upd_ok {o F : Nat → Int} {k : Nat} {v : Int} (h : ∀ j, j < k → o j = F j) (hv : v = F k) : ∀ j, j < k + 1 → updF o k v j = F j := fun j hj => by
  by_cases e : k = j
  · subst e; rw [updF_same, hv]
  · rw [updF_ne _ _ e]; exact h j (by omega)
theorem c_Shl : Contract Tryz.prog 83 sShl := by
  refine fun_ok [(102, sPart)] ⟨c_part, trivial⟩ Tryz.func83 rfl (by kernel_rfl) Tryz.ntmps83 Tryz.results83 (fun E hE hty hfs xs hp => ?_)
  unfold sShl at hp
  split at hp
  case h_2 => exact hp.elim
  rename_i f n
  obtain ⟨hW, n0, n1⟩ := hp
  refine ⟨by simp, fun Q hQ => ?_⟩
  simp only [params, Nat.reduceAdd]
  by_cases hn : 256 ≤ n
  · repeat' first
      | refine T_seq' ?_
      | refine T_block ?_
      | refine n_then ?_
      | refine x_then ?_
      | refine r_then ?_
      | refine n_block ?_
      | refine r_block ?_
      | refine x_block ?_
      | refine x_block' (by rfl) ?_
      | refine T_exit ?_
      | refine T_skip ?_
      | refine T_ret ?_
      | ((first | refine T_region hE (by rfl) (fun K hK => ?_) | refine T_draw hE (by rfl) (by kernel_rfl) (fun K hK => ?_)); simp (disch := omega) only [eqs, evs, stp, stepW, wantA, opStep, kindOf, headStep, skipStep, stStep, wrStep, cpStep, stA, appA, readSl, isSl, copyA, kill, AV.refs, hd, hdLoad, hdBin, intBin, hdUn, hdConv, hdIdxAddr, hdIdx, hdSlice, bnd, hdCall, hdCallF, hdLen, hdMin, argsA, mapA, partsOk, partsF, lk, look, addR, evA, constA, HOut.ok, hty, hfs, tyAll, List.map, List.all, List.getElem?_cons_zero, List.getElem?_cons_succ, Option.bind_some, Option.map_some, Option.map_none, Option.getD_some, AV.pureA, Nat.reduceEqDiff, ↓reduceIte, reduceCtorEq, Nat.reduceLT, Nat.reduceLeDiff, Nat.reduceAdd, Nat.reduceMul, Int.reduceToNat, IntKind.bits, BEq.rfl, beq_self_eq_true, bne_self_eq_false, Int.reduceBEq, Int.reduceBNe, Int.reduceEq, Int.reduceNe, ne_eq, Int.reduceLT, Int.reduceLE, hn]; (repeat refine And.intro (by first | omega | assumption | (and_intros <;> first | omega | assumption) | fail) ?_); refine hK _ ?_; clear hK K)
      | (refine T_cond rfl (fun hc => ?_) (fun hc => ?_) <;> (try simp only [cnds, reduceCtorEq] at hc) <;> (try (first | (exact hc.elim) | (exfalso; omega))))
    refine hQ _ ?_
    simp (disch := omega) only [resOk, res1, retOk, eqs, lk, look, AV.pureA, kill, AV.refs, hty, tyAll, Nat.reduceEqDiff, ↓reduceIte, reduceCtorEq, Nat.reduceLT, Nat.reduceLeDiff, Nat.reduceAdd, Nat.reduceMul, Int.reduceToNat, ne_eq, sShl]
    exact shl_all hW (by omega)
  · repeat' first
      | refine T_seq' ?_
      | refine T_block ?_
      | refine n_then ?_
      | refine x_then ?_
      | refine r_then ?_
      | refine n_block ?_
      | refine r_block ?_
      | refine x_block ?_
      | refine x_block' (by rfl) ?_
      | refine T_exit ?_
      | refine T_skip ?_
      | refine T_ret ?_
      | ((first | refine T_region hE (by rfl) (fun K hK => ?_) | refine T_draw hE (by rfl) (by kernel_rfl) (fun K hK => ?_)); simp (disch := omega) only [eqs, evs, stp, stepW, wantA, opStep, kindOf, headStep, skipStep, stStep, wrStep, cpStep, stA, appA, readSl, isSl, copyA, kill, AV.refs, hd, hdLoad, hdBin, intBin, hdUn, hdConv, hdIdxAddr, hdIdx, hdSlice, bnd, hdCall, hdCallF, hdLen, hdMin, argsA, mapA, partsOk, partsF, lk, look, addR, evA, constA, HOut.ok, hty, hfs, tyAll, List.map, List.all, List.getElem?_cons_zero, List.getElem?_cons_succ, Option.bind_some, Option.map_some, Option.map_none, Option.getD_some, AV.pureA, Nat.reduceEqDiff, ↓reduceIte, reduceCtorEq, Nat.reduceLT, Nat.reduceLeDiff, Nat.reduceAdd, Nat.reduceMul, Int.reduceToNat, IntKind.bits, BEq.rfl, beq_self_eq_true, bne_self_eq_false, Int.reduceBEq, Int.reduceBNe, Int.reduceEq, Int.reduceNe, ne_eq, Int.reduceLT, Int.reduceLE, hn]; (repeat refine And.intro (by first | omega | assumption | (and_intros <;> first | omega | assumption) | fail) ?_); refine hK _ ?_; clear hK K)
      | (refine T_cond rfl (fun hc => ?_) (fun hc => ?_) <;> (try simp only [cnds, reduceCtorEq] at hc) <;> (try (first | (exact hc.elim) | (exfalso; omega))))
    refine T_for (ι := Nat × (Nat → Int)) (fun i => ⟨[(2, .elt 2 0), (4, .elt 4 0), (5, .int .i64 (n / 64)), (6, .int .u64 (n % 64)), (7, .elt 7 0), (17, .int .i64 i.1)], [(2, ⟨.u64, 4, f⟩), (4, ⟨.u64, 4, fun _ => 0⟩), (7, ⟨.u64, 4, i.2⟩)]⟩)
      (fun i => i.1 ≤ 4 ∧ ∀ j, j < i.1 → i.2 j = wl (wv f * 2 ^ n.toNat) j) (fun i => 4 - i.1)
      ⟨(0, fun _ => 0), ⟨by simp, fun j h1 => by simp at h1⟩, ?_⟩ (fun i hi => ?_)
    · (simp (disch := omega) only [Le, AllF, AllR, slotLe, rowLe, refsIn, Option.isSome_some, implies_true, forall_const, AV.int.injEq, AV.bool.injEq, AV.elt.injEq, Int.natCast_add, Int.cast_ofNat_Int, eqs, lk, look, AV.pureA, kill, AV.refs, hty, tyAll, Nat.reduceEqDiff, ↓reduceIte, reduceCtorEq, Nat.reduceLT, Nat.reduceLeDiff, Nat.reduceAdd, Nat.reduceMul, Int.reduceToNat, ne_eq] <;> repeat' (first | rfl | apply And.intro | omega))
    · obtain ⟨i, o⟩ := i
      obtain ⟨h0, ho⟩ := hi
      simp only at h0 ho ⊢
      by_cases hlt : i < 4
      · have e := shl_limb hW (i := i) (q := (n / 64).toNat) (r := (n % 64).toNat) hlt (by omega)
        rw [show 64 * (n / 64).toNat + (n % 64).toNat = n.toNat from by omega, show (((n / 64).toNat : Nat) : Int) = n / 64 from by omega, show 64 - (n % 64).toNat = (64 - n % 64).toNat from by omega] at e
        repeat' first
          | refine T_seq' ?_
          | refine T_block ?_
          | refine n_then ?_
          | refine x_then ?_
          | refine r_then ?_
          | refine n_block ?_
          | refine r_block ?_
          | refine x_block ?_
          | refine x_block' (by rfl) ?_
          | refine T_exit ?_
          | refine T_skip ?_
          | refine T_ret ?_
          | ((first | refine T_region hE (by rfl) (fun K hK => ?_) | refine T_draw hE (by rfl) (by kernel_rfl) (fun K hK => ?_)); simp (disch := omega) only [eqs, evs, stp, stepW, wantA, opStep, kindOf, headStep, skipStep, stStep, wrStep, cpStep, stA, appA, readSl, isSl, copyA, kill, AV.refs, hd, hdLoad, hdBin, intBin, hdUn, hdConv, hdIdxAddr, hdIdx, hdSlice, bnd, hdCall, hdCallF, hdLen, hdMin, argsA, mapA, partsOk, partsF, lk, look, addR, evA, constA, HOut.ok, hty, hfs, tyAll, List.map, List.all, List.getElem?_cons_zero, List.getElem?_cons_succ, Option.bind_some, Option.map_some, Option.map_none, Option.getD_some, AV.pureA, Nat.reduceEqDiff, ↓reduceIte, reduceCtorEq, Nat.reduceLT, Nat.reduceLeDiff, Nat.reduceAdd, Nat.reduceMul, Int.reduceToNat, IntKind.bits, BEq.rfl, beq_self_eq_true, bne_self_eq_false, Int.reduceBEq, Int.reduceBNe, Int.reduceEq, Int.reduceNe, ne_eq, Int.reduceLT, Int.reduceLE, sPart, wrap_u64, e]; (repeat refine And.intro (by first | omega | assumption | (and_intros <;> first | omega | assumption) | fail) ?_); refine hK _ ?_; clear hK K)
          | (refine T_cond rfl (fun hc => ?_) (fun hc => ?_) <;> (try simp only [cnds, reduceCtorEq] at hc) <;> (try (first | (exact hc.elim) | (exfalso; omega))))
        refine ⟨(i + 1, updF o i (wl (wv f * 2 ^ n.toNat) i)), ⟨by simp only; omega, upd_ok ho rfl⟩, by simp only; omega, ?_⟩
        (simp (disch := omega) only [Le, AllF, AllR, slotLe, rowLe, refsIn, Option.isSome_some, implies_true, forall_const, AV.int.injEq, AV.bool.injEq, AV.elt.injEq, Int.natCast_add, Int.cast_ofNat_Int, eqs, lk, look, AV.pureA, kill, AV.refs, hty, tyAll, Nat.reduceEqDiff, ↓reduceIte, reduceCtorEq, Nat.reduceLT, Nat.reduceLeDiff, Nat.reduceAdd, Nat.reduceMul, Int.reduceToNat, ne_eq] <;> repeat' (first | rfl | apply And.intro | omega))
      · repeat' first
          | refine T_seq' ?_
          | refine T_block ?_
          | refine n_then ?_
          | refine x_then ?_
          | refine r_then ?_
          | refine n_block ?_
          | refine r_block ?_
          | refine x_block ?_
          | refine x_block' (by rfl) ?_
          | refine T_exit ?_
          | refine T_skip ?_
          | refine T_ret ?_
          | ((first | refine T_region hE (by rfl) (fun K hK => ?_) | refine T_draw hE (by rfl) (by kernel_rfl) (fun K hK => ?_)); simp (disch := omega) only [eqs, evs, stp, stepW, wantA, opStep, kindOf, headStep, skipStep, stStep, wrStep, cpStep, stA, appA, readSl, isSl, copyA, kill, AV.refs, hd, hdLoad, hdBin, intBin, hdUn, hdConv, hdIdxAddr, hdIdx, hdSlice, bnd, hdCall, hdCallF, hdLen, hdMin, argsA, mapA, partsOk, partsF, lk, look, addR, evA, constA, HOut.ok, hty, hfs, tyAll, List.map, List.all, List.getElem?_cons_zero, List.getElem?_cons_succ, Option.bind_some, Option.map_some, Option.map_none, Option.getD_some, AV.pureA, Nat.reduceEqDiff, ↓reduceIte, reduceCtorEq, Nat.reduceLT, Nat.reduceLeDiff, Nat.reduceAdd, Nat.reduceMul, Int.reduceToNat, IntKind.bits, BEq.rfl, beq_self_eq_true, bne_self_eq_false, Int.reduceBEq, Int.reduceBNe, Int.reduceEq, Int.reduceNe, ne_eq, Int.reduceLT, Int.reduceLE]; (repeat refine And.intro (by first | omega | assumption | (and_intros <;> first | omega | assumption) | fail) ?_); refine hK _ ?_; clear hK K)
          | (refine T_cond rfl (fun hc => ?_) (fun hc => ?_) <;> (try simp only [cnds, reduceCtorEq] at hc) <;> (try (first | (exact hc.elim) | (exfalso; omega))))
        refine hQ _ ?_
        simp (disch := omega) only [resOk, res1, retOk, eqs, lk, look, AV.pureA, kill, AV.refs, hty, tyAll, Nat.reduceEqDiff, ↓reduceIte, reduceCtorEq, Nat.reduceLT, Nat.reduceLeDiff, Nat.reduceAdd, Nat.reduceMul, Int.reduceToNat, ne_eq, sShl]
        intro j hj
        exact ho j (by omega)

theorem c_Shr : Contract Tryz.prog 85 sShr := by
  refine fun_ok [(102, sPart)] ⟨c_part, trivial⟩ Tryz.func85 rfl (by kernel_rfl) Tryz.ntmps85 Tryz.results85 (fun E hE hty hfs xs hp => ?_)
  unfold sShr at hp
  split at hp
  case h_2 => exact hp.elim
  rename_i f n
  obtain ⟨hW, n0, n1⟩ := hp
  refine ⟨by simp, fun Q hQ => ?_⟩
  simp only [params, Nat.reduceAdd]
  by_cases hn : 256 ≤ n
  · repeat' first
      | refine T_seq' ?_
      | refine T_block ?_
      | refine n_then ?_
      | refine x_then ?_
      | refine r_then ?_
      | refine n_block ?_
      | refine r_block ?_
      | refine x_block ?_
      | refine x_block' (by rfl) ?_
      | refine T_exit ?_
      | refine T_skip ?_
      | refine T_ret ?_
      | ((first | refine T_region hE (by rfl) (fun K hK => ?_) | refine T_draw hE (by rfl) (by kernel_rfl) (fun K hK => ?_)); simp (disch := omega) only [eqs, evs, stp, stepW, wantA, opStep, kindOf, headStep, skipStep, stStep, wrStep, cpStep, stA, appA, readSl, isSl, copyA, kill, AV.refs, hd, hdLoad, hdBin, intBin, hdUn, hdConv, hdIdxAddr, hdIdx, hdSlice, bnd, hdCall, hdCallF, hdLen, hdMin, argsA, mapA, partsOk, partsF, lk, look, addR, evA, constA, HOut.ok, hty, hfs, tyAll, List.map, List.all, List.getElem?_cons_zero, List.getElem?_cons_succ, Option.bind_some, Option.map_some, Option.map_none, Option.getD_some, AV.pureA, Nat.reduceEqDiff, ↓reduceIte, reduceCtorEq, Nat.reduceLT, Nat.reduceLeDiff, Nat.reduceAdd, Nat.reduceMul, Int.reduceToNat, IntKind.bits, BEq.rfl, beq_self_eq_true, bne_self_eq_false, Int.reduceBEq, Int.reduceBNe, Int.reduceEq, Int.reduceNe, ne_eq, Int.reduceLT, Int.reduceLE, hn]; (repeat refine And.intro (by first | omega | assumption | (and_intros <;> first | omega | assumption) | fail) ?_); refine hK _ ?_; clear hK K)
      | (refine T_cond rfl (fun hc => ?_) (fun hc => ?_) <;> (try simp only [cnds, reduceCtorEq] at hc) <;> (try (first | (exact hc.elim) | (exfalso; omega))))
    refine hQ _ ?_
    simp (disch := omega) only [resOk, res1, retOk, eqs, lk, look, AV.pureA, kill, AV.refs, hty, tyAll, Nat.reduceEqDiff, ↓reduceIte, reduceCtorEq, Nat.reduceLT, Nat.reduceLeDiff, Nat.reduceAdd, Nat.reduceMul, Int.reduceToNat, ne_eq, sShr]
    exact shr_all hW (by omega)
  · repeat' first
      | refine T_seq' ?_
      | refine T_block ?_
      | refine n_then ?_
      | refine x_then ?_
      | refine r_then ?_
      | refine n_block ?_
      | refine r_block ?_
      | refine x_block ?_
      | refine x_block' (by rfl) ?_
      | refine T_exit ?_
      | refine T_skip ?_
      | refine T_ret ?_
      | ((first | refine T_region hE (by rfl) (fun K hK => ?_) | refine T_draw hE (by rfl) (by kernel_rfl) (fun K hK => ?_)); simp (disch := omega) only [eqs, evs, stp, stepW, wantA, opStep, kindOf, headStep, skipStep, stStep, wrStep, cpStep, stA, appA, readSl, isSl, copyA, kill, AV.refs, hd, hdLoad, hdBin, intBin, hdUn, hdConv, hdIdxAddr, hdIdx, hdSlice, bnd, hdCall, hdCallF, hdLen, hdMin, argsA, mapA, partsOk, partsF, lk, look, addR, evA, constA, HOut.ok, hty, hfs, tyAll, List.map, List.all, List.getElem?_cons_zero, List.getElem?_cons_succ, Option.bind_some, Option.map_some, Option.map_none, Option.getD_some, AV.pureA, Nat.reduceEqDiff, ↓reduceIte, reduceCtorEq, Nat.reduceLT, Nat.reduceLeDiff, Nat.reduceAdd, Nat.reduceMul, Int.reduceToNat, IntKind.bits, BEq.rfl, beq_self_eq_true, bne_self_eq_false, Int.reduceBEq, Int.reduceBNe, Int.reduceEq, Int.reduceNe, ne_eq, Int.reduceLT, Int.reduceLE, hn]; (repeat refine And.intro (by first | omega | assumption | (and_intros <;> first | omega | assumption) | fail) ?_); refine hK _ ?_; clear hK K)
      | (refine T_cond rfl (fun hc => ?_) (fun hc => ?_) <;> (try simp only [cnds, reduceCtorEq] at hc) <;> (try (first | (exact hc.elim) | (exfalso; omega))))
    refine T_for (ι := Nat × (Nat → Int)) (fun i => ⟨[(2, .elt 2 0), (4, .elt 4 0), (5, .int .i64 (n / 64)), (6, .int .u64 (n % 64)), (7, .elt 7 0), (17, .int .i64 i.1)], [(2, ⟨.u64, 4, f⟩), (4, ⟨.u64, 4, fun _ => 0⟩), (7, ⟨.u64, 4, i.2⟩)]⟩)
      (fun i => i.1 ≤ 4 ∧ ∀ j, j < i.1 → i.2 j = wl (wv f / 2 ^ n.toNat) j) (fun i => 4 - i.1)
      ⟨(0, fun _ => 0), ⟨by simp, fun j h1 => by simp at h1⟩, ?_⟩ (fun i hi => ?_)
    · (simp (disch := omega) only [Le, AllF, AllR, slotLe, rowLe, refsIn, Option.isSome_some, implies_true, forall_const, AV.int.injEq, AV.bool.injEq, AV.elt.injEq, Int.natCast_add, Int.cast_ofNat_Int, eqs, lk, look, AV.pureA, kill, AV.refs, hty, tyAll, Nat.reduceEqDiff, ↓reduceIte, reduceCtorEq, Nat.reduceLT, Nat.reduceLeDiff, Nat.reduceAdd, Nat.reduceMul, Int.reduceToNat, ne_eq] <;> repeat' (first | rfl | apply And.intro | omega))
    · obtain ⟨i, o⟩ := i
      obtain ⟨h0, ho⟩ := hi
      simp only at h0 ho ⊢
      by_cases hlt : i < 4
      · have e := shr_limb hW (i := i) (q := (n / 64).toNat) (r := (n % 64).toNat) hlt (by omega)
        rw [show 64 * (n / 64).toNat + (n % 64).toNat = n.toNat from by omega, show (((n / 64).toNat : Nat) : Int) = n / 64 from by omega, show 64 - (n % 64).toNat = (64 - n % 64).toNat from by omega] at e
        repeat' first
          | refine T_seq' ?_
          | refine T_block ?_
          | refine n_then ?_
          | refine x_then ?_
          | refine r_then ?_
          | refine n_block ?_
          | refine r_block ?_
          | refine x_block ?_
          | refine x_block' (by rfl) ?_
          | refine T_exit ?_
          | refine T_skip ?_
          | refine T_ret ?_
          | ((first | refine T_region hE (by rfl) (fun K hK => ?_) | refine T_draw hE (by rfl) (by kernel_rfl) (fun K hK => ?_)); simp (disch := omega) only [eqs, evs, stp, stepW, wantA, opStep, kindOf, headStep, skipStep, stStep, wrStep, cpStep, stA, appA, readSl, isSl, copyA, kill, AV.refs, hd, hdLoad, hdBin, intBin, hdUn, hdConv, hdIdxAddr, hdIdx, hdSlice, bnd, hdCall, hdCallF, hdLen, hdMin, argsA, mapA, partsOk, partsF, lk, look, addR, evA, constA, HOut.ok, hty, hfs, tyAll, List.map, List.all, List.getElem?_cons_zero, List.getElem?_cons_succ, Option.bind_some, Option.map_some, Option.map_none, Option.getD_some, AV.pureA, Nat.reduceEqDiff, ↓reduceIte, reduceCtorEq, Nat.reduceLT, Nat.reduceLeDiff, Nat.reduceAdd, Nat.reduceMul, Int.reduceToNat, IntKind.bits, BEq.rfl, beq_self_eq_true, bne_self_eq_false, Int.reduceBEq, Int.reduceBNe, Int.reduceEq, Int.reduceNe, ne_eq, Int.reduceLT, Int.reduceLE, sPart, wrap_u64, e]; (repeat refine And.intro (by first | omega | assumption | (and_intros <;> first | omega | assumption) | fail) ?_); refine hK _ ?_; clear hK K)
          | (refine T_cond rfl (fun hc => ?_) (fun hc => ?_) <;> (try simp only [cnds, reduceCtorEq] at hc) <;> (try (first | (exact hc.elim) | (exfalso; omega))))
        refine ⟨(i + 1, updF o i (wl (wv f / 2 ^ n.toNat) i)), ⟨by simp only; omega, upd_ok ho rfl⟩, by simp only; omega, ?_⟩
        (simp (disch := omega) only [Le, AllF, AllR, slotLe, rowLe, refsIn, Option.isSome_some, implies_true, forall_const, AV.int.injEq, AV.bool.injEq, AV.elt.injEq, Int.natCast_add, Int.cast_ofNat_Int, eqs, lk, look, AV.pureA, kill, AV.refs, hty, tyAll, Nat.reduceEqDiff, ↓reduceIte, reduceCtorEq, Nat.reduceLT, Nat.reduceLeDiff, Nat.reduceAdd, Nat.reduceMul, Int.reduceToNat, ne_eq] <;> repeat' (first | rfl | apply And.intro | omega))
      · repeat' first
          | refine T_seq' ?_
          | refine T_block ?_
          | refine n_then ?_
          | refine x_then ?_
          | refine r_then ?_
          | refine n_block ?_
          | refine r_block ?_
          | refine x_block ?_
          | refine x_block' (by rfl) ?_
          | refine T_exit ?_
          | refine T_skip ?_
          | refine T_ret ?_
          | ((first | refine T_region hE (by rfl) (fun K hK => ?_) | refine T_draw hE (by rfl) (by kernel_rfl) (fun K hK => ?_)); simp (disch := omega) only [eqs, evs, stp, stepW, wantA, opStep, kindOf, headStep, skipStep, stStep, wrStep, cpStep, stA, appA, readSl, isSl, copyA, kill, AV.refs, hd, hdLoad, hdBin, intBin, hdUn, hdConv, hdIdxAddr, hdIdx, hdSlice, bnd, hdCall, hdCallF, hdLen, hdMin, argsA, mapA, partsOk, partsF, lk, look, addR, evA, constA, HOut.ok, hty, hfs, tyAll, List.map, List.all, List.getElem?_cons_zero, List.getElem?_cons_succ, Option.bind_some, Option.map_some, Option.map_none, Option.getD_some, AV.pureA, Nat.reduceEqDiff, ↓reduceIte, reduceCtorEq, Nat.reduceLT, Nat.reduceLeDiff, Nat.reduceAdd, Nat.reduceMul, Int.reduceToNat, IntKind.bits, BEq.rfl, beq_self_eq_true, bne_self_eq_false, Int.reduceBEq, Int.reduceBNe, Int.reduceEq, Int.reduceNe, ne_eq, Int.reduceLT, Int.reduceLE]; (repeat refine And.intro (by first | omega | assumption | (and_intros <;> first | omega | assumption) | fail) ?_); refine hK _ ?_; clear hK K)
          | (refine T_cond rfl (fun hc => ?_) (fun hc => ?_) <;> (try simp only [cnds, reduceCtorEq] at hc) <;> (try (first | (exact hc.elim) | (exfalso; omega))))
        refine hQ _ ?_
        simp (disch := omega) only [resOk, res1, retOk, eqs, lk, look, AV.pureA, kill, AV.refs, hty, tyAll, Nat.reduceEqDiff, ↓reduceIte, reduceCtorEq, Nat.reduceLT, Nat.reduceLeDiff, Nat.reduceAdd, Nat.reduceMul, Int.reduceToNat, ne_eq, sShr]
        intro j hj
        exact ho j (by omega)

/-! ### Logic -/
def lgc (op : Nat → Nat → Nat) (a b : Int) : Int := (op a.toNat b.toNat : Nat)
theorem and_limb {f g : Nat → Int} (hf : W f) (hg : W g) (i : Nat) (hi : i < 4) : bitsA .and .u64 (f i) (g i) = wl (lgc (· &&& ·) (wv f) (wv g)) i := by
  refine bt_ext (and_bd (W_U hf i hi) (W_U hg i hi)).1 (wl_U _ i hi).1 fun k => ?_
  rw [bt_and (W_U hf i hi) (W_U hg i hi), bt_wl _ _ _ hi, bt_modM (show 0 ≤ lgc _ (wv f) (wv g) from Int.natCast_nonneg _), bt_limb hf _ _ hi, bt_limb hg _ _ hi]
  unfold lgc
  rw [bt_nat, Nat.testBit_and]
  by_cases hk : k < 64
  · simp [hk, bt, show 64 * i + k < 256 by omega]
  · simp [hk]
theorem or_limb {f g : Nat → Int} (hf : W f) (hg : W g) (i : Nat) (hi : i < 4) : bitsA .or .u64 (f i) (g i) = wl (lgc (· ||| ·) (wv f) (wv g)) i := by
  refine bt_ext (or_bd (W_U hf i hi) (W_U hg i hi)).1 (wl_U _ i hi).1 fun k => ?_
  rw [bt_or (W_U hf i hi) (W_U hg i hi), bt_wl _ _ _ hi, bt_modM (show 0 ≤ lgc _ (wv f) (wv g) from Int.natCast_nonneg _), bt_limb hf _ _ hi, bt_limb hg _ _ hi]
  unfold lgc
  rw [bt_nat, Nat.testBit_or]
  by_cases hk : k < 64
  · simp [hk, bt, show 64 * i + k < 256 by omega]
  · simp [hk]
theorem xor_limb {f g : Nat → Int} (hf : W f) (hg : W g) (i : Nat) (hi : i < 4) : bitsA .xor .u64 (f i) (g i) = wl (lgc (· ^^^ ·) (wv f) (wv g)) i := by
  refine bt_ext (xor_bd (W_U hf i hi) (W_U hg i hi)).1 (wl_U _ i hi).1 fun k => ?_
  rw [bt_xor (W_U hf i hi) (W_U hg i hi), bt_wl _ _ _ hi, bt_modM (show 0 ≤ lgc _ (wv f) (wv g) from Int.natCast_nonneg _), bt_limb hf _ _ hi, bt_limb hg _ _ hi]
  unfold lgc
  rw [bt_nat, Nat.testBit_xor]
  by_cases hk : k < 64
  · simp [hk, bt, show 64 * i + k < 256 by omega]
  · simp [hk]
theorem four {F G : Nat → Int} (h0 : F 0 = G 0) (h1 : F 1 = G 1) (h2 : F 2 = G 2) (h3 : F 3 = G 3) : ∀ j, j < 4 → F j = G j := fun j hj => by
  have : j = 0 ∨ j = 1 ∨ j = 2 ∨ j = 3 := by omega
  rcases this with rfl | rfl | rfl | rfl <;> assumption

def sAnd : List AV → SOut
  | [.arr .u64 4 f, .arr .u64 4 g] => ⟨W f ∧ W g, .arr .u64 4 (wl (lgc (· &&& ·) (wv f) (wv g)))⟩
  | _ => ⟨False, .und⟩
theorem c_And : Contract Tryz.prog 77 sAnd := by
  refine fun_ok [] trivial Tryz.func77 rfl (by kernel_rfl) Tryz.ntmps77 Tryz.results77 (fun E hE hty hfs xs hp => ?_)
  unfold sAnd at hp
  split at hp
  case h_2 => exact hp.elim
  rename_i f g
  obtain ⟨hf, hg⟩ := hp
  refine ⟨by simp, fun Q hQ => ?_⟩
  simp only [params, Nat.reduceAdd]
  repeat' first
    | refine T_seq' ?_
    | refine T_block ?_
    | refine n_then ?_
    | refine x_then ?_
    | refine r_then ?_
    | refine n_block ?_
    | refine r_block ?_
    | refine x_block ?_
    | refine x_block' (by rfl) ?_
    | refine T_exit ?_
    | refine T_skip ?_
    | refine T_ret ?_
    | ((first | refine T_region hE (by rfl) (fun K hK => ?_) | refine T_draw hE (by rfl) (by kernel_rfl) (fun K hK => ?_)); simp (disch := omega) only [eqs, evs, stp, stepW, wantA, opStep, kindOf, headStep, skipStep, stStep, wrStep, cpStep, stA, appA, readSl, isSl, copyA, kill, AV.refs, hd, hdLoad, hdBin, intBin, hdUn, hdConv, hdIdxAddr, hdIdx, hdSlice, bnd, hdCall, hdCallF, hdLen, hdMin, argsA, mapA, partsOk, partsF, lk, look, addR, evA, constA, HOut.ok, hty, hfs, tyAll, List.map, List.all, List.getElem?_cons_zero, List.getElem?_cons_succ, Option.bind_some, Option.map_some, Option.map_none, Option.getD_some, AV.pureA, Nat.reduceEqDiff, ↓reduceIte, reduceCtorEq, Nat.reduceLT, Nat.reduceLeDiff, Nat.reduceAdd, Nat.reduceMul, Int.reduceToNat, IntKind.bits, BEq.rfl, beq_self_eq_true, bne_self_eq_false, Int.reduceBEq, Int.reduceBNe, Int.reduceEq, Int.reduceNe, ne_eq, Int.reduceLT, Int.reduceLE]; (repeat refine And.intro (by first | omega | assumption | (and_intros <;> first | omega | assumption) | fail) ?_); refine hK _ ?_; clear hK K)
    | (refine T_cond rfl (fun hc => ?_) (fun hc => ?_) <;> (try simp only [cnds, reduceCtorEq] at hc) <;> (try (first | (exact hc.elim) | (exfalso; omega))))
  refine hQ _ ?_
  simp (disch := omega) only [resOk, res1, retOk, eqs, lk, look, AV.pureA, kill, AV.refs, hty, tyAll, Nat.reduceEqDiff, ↓reduceIte, reduceCtorEq, Nat.reduceLT, Nat.reduceLeDiff, Nat.reduceAdd, Nat.reduceMul, Int.reduceToNat, ne_eq, sAnd]
  exact four (and_limb hf hg 0 (by omega)) (and_limb hf hg 1 (by omega)) (and_limb hf hg 2 (by omega)) (and_limb hf hg 3 (by omega))
def sOr : List AV → SOut
  | [.arr .u64 4 f, .arr .u64 4 g] => ⟨W f ∧ W g, .arr .u64 4 (wl (lgc (· ||| ·) (wv f) (wv g)))⟩
  | _ => ⟨False, .und⟩
theorem c_Or : Contract Tryz.prog 78 sOr := by
  refine fun_ok [] trivial Tryz.func78 rfl (by kernel_rfl) Tryz.ntmps78 Tryz.results78 (fun E hE hty hfs xs hp => ?_)
  unfold sOr at hp
  split at hp
  case h_2 => exact hp.elim
  rename_i f g
  obtain ⟨hf, hg⟩ := hp
  refine ⟨by simp, fun Q hQ => ?_⟩
  simp only [params, Nat.reduceAdd]
  repeat' first
    | refine T_seq' ?_
    | refine T_block ?_
    | refine n_then ?_
    | refine x_then ?_
    | refine r_then ?_
    | refine n_block ?_
    | refine r_block ?_
    | refine x_block ?_
    | refine x_block' (by rfl) ?_
    | refine T_exit ?_
    | refine T_skip ?_
    | refine T_ret ?_
    | ((first | refine T_region hE (by rfl) (fun K hK => ?_) | refine T_draw hE (by rfl) (by kernel_rfl) (fun K hK => ?_)); simp (disch := omega) only [eqs, evs, stp, stepW, wantA, opStep, kindOf, headStep, skipStep, stStep, wrStep, cpStep, stA, appA, readSl, isSl, copyA, kill, AV.refs, hd, hdLoad, hdBin, intBin, hdUn, hdConv, hdIdxAddr, hdIdx, hdSlice, bnd, hdCall, hdCallF, hdLen, hdMin, argsA, mapA, partsOk, partsF, lk, look, addR, evA, constA, HOut.ok, hty, hfs, tyAll, List.map, List.all, List.getElem?_cons_zero, List.getElem?_cons_succ, Option.bind_some, Option.map_some, Option.map_none, Option.getD_some, AV.pureA, Nat.reduceEqDiff, ↓reduceIte, reduceCtorEq, Nat.reduceLT, Nat.reduceLeDiff, Nat.reduceAdd, Nat.reduceMul, Int.reduceToNat, IntKind.bits, BEq.rfl, beq_self_eq_true, bne_self_eq_false, Int.reduceBEq, Int.reduceBNe, Int.reduceEq, Int.reduceNe, ne_eq, Int.reduceLT, Int.reduceLE]; (repeat refine And.intro (by first | omega | assumption | (and_intros <;> first | omega | assumption) | fail) ?_); refine hK _ ?_; clear hK K)
    | (refine T_cond rfl (fun hc => ?_) (fun hc => ?_) <;> (try simp only [cnds, reduceCtorEq] at hc) <;> (try (first | (exact hc.elim) | (exfalso; omega))))
  refine hQ _ ?_
  simp (disch := omega) only [resOk, res1, retOk, eqs, lk, look, AV.pureA, kill, AV.refs, hty, tyAll, Nat.reduceEqDiff, ↓reduceIte, reduceCtorEq, Nat.reduceLT, Nat.reduceLeDiff, Nat.reduceAdd, Nat.reduceMul, Int.reduceToNat, ne_eq, sOr]
  exact four (or_limb hf hg 0 (by omega)) (or_limb hf hg 1 (by omega)) (or_limb hf hg 2 (by omega)) (or_limb hf hg 3 (by omega))
def sXor : List AV → SOut
  | [.arr .u64 4 f, .arr .u64 4 g] => ⟨W f ∧ W g, .arr .u64 4 (wl (lgc (· ^^^ ·) (wv f) (wv g)))⟩
  | _ => ⟨False, .und⟩
theorem c_Xor : Contract Tryz.prog 79 sXor := by
  refine fun_ok [] trivial Tryz.func79 rfl (by kernel_rfl) Tryz.ntmps79 Tryz.results79 (fun E hE hty hfs xs hp => ?_)
  unfold sXor at hp
  split at hp
  case h_2 => exact hp.elim
  rename_i f g
  obtain ⟨hf, hg⟩ := hp
  refine ⟨by simp, fun Q hQ => ?_⟩
  simp only [params, Nat.reduceAdd]
  repeat' first
    | refine T_seq' ?_
    | refine T_block ?_
    | refine n_then ?_
    | refine x_then ?_
    | refine r_then ?_
    | refine n_block ?_
    | refine r_block ?_
    | refine x_block ?_
    | refine x_block' (by rfl) ?_
    | refine T_exit ?_
    | refine T_skip ?_
    | refine T_ret ?_
    | ((first | refine T_region hE (by rfl) (fun K hK => ?_) | refine T_draw hE (by rfl) (by kernel_rfl) (fun K hK => ?_)); simp (disch := omega) only [eqs, evs, stp, stepW, wantA, opStep, kindOf, headStep, skipStep, stStep, wrStep, cpStep, stA, appA, readSl, isSl, copyA, kill, AV.refs, hd, hdLoad, hdBin, intBin, hdUn, hdConv, hdIdxAddr, hdIdx, hdSlice, bnd, hdCall, hdCallF, hdLen, hdMin, argsA, mapA, partsOk, partsF, lk, look, addR, evA, constA, HOut.ok, hty, hfs, tyAll, List.map, List.all, List.getElem?_cons_zero, List.getElem?_cons_succ, Option.bind_some, Option.map_some, Option.map_none, Option.getD_some, AV.pureA, Nat.reduceEqDiff, ↓reduceIte, reduceCtorEq, Nat.reduceLT, Nat.reduceLeDiff, Nat.reduceAdd, Nat.reduceMul, Int.reduceToNat, IntKind.bits, BEq.rfl, beq_self_eq_true, bne_self_eq_false, Int.reduceBEq, Int.reduceBNe, Int.reduceEq, Int.reduceNe, ne_eq, Int.reduceLT, Int.reduceLE]; (repeat refine And.intro (by first | omega | assumption | (and_intros <;> first | omega | assumption) | fail) ?_); refine hK _ ?_; clear hK K)
    | (refine T_cond rfl (fun hc => ?_) (fun hc => ?_) <;> (try simp only [cnds, reduceCtorEq] at hc) <;> (try (first | (exact hc.elim) | (exfalso; omega))))
  refine hQ _ ?_
  simp (disch := omega) only [resOk, res1, retOk, eqs, lk, look, AV.pureA, kill, AV.refs, hty, tyAll, Nat.reduceEqDiff, ↓reduceIte, reduceCtorEq, Nat.reduceLT, Nat.reduceLeDiff, Nat.reduceAdd, Nat.reduceMul, Int.reduceToNat, ne_eq, sXor]
  exact four (xor_limb hf hg 0 (by omega)) (xor_limb hf hg 1 (by omega)) (xor_limb hf hg 2 (by omega)) (xor_limb hf hg 3 (by omega))

end Go.Proofs.YtijoifajbmhgdaaGreat.Sym
