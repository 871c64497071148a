/- Sums and differences of words and of digits: what the functions are said to do, and that they do it. -/
import Derived.Test.YtijoifajbmhgdaaGreatEv
import Derived.Test.YtijoifajbmhgdaaGreatNum
import Derived.Laws.Externs
import Derived.Shelf.Spec.BitsCarry
namespace Go.Proofs.YtijoifajbmhgdaaGreat.Sym
set_option linter.unusedSimpArgs false
set_option linter.unusedVariables false
open Go Go.RowKit Num
set_option maxRecDepth 10000

def sAdd64 : List AV → SOut
  | [.int .u64 x, .int .u64 y, .int .u64 c] => ⟨(0 ≤ x ∧ x < 18446744073709551616) ∧ (0 ≤ y ∧ y < 18446744073709551616) ∧ 0 ≤ c ∧ c ≤ 1, .pair (.int .u64 ((x + y + c) % 18446744073709551616)) (.int .u64 ((x + y + c) / 18446744073709551616))⟩
  | _ => ⟨False, .und⟩

def sSub64 : List AV → SOut
  | [.int .u64 x, .int .u64 y, .int .u64 c] => ⟨(0 ≤ x ∧ x < 18446744073709551616) ∧ (0 ≤ y ∧ y < 18446744073709551616) ∧ 0 ≤ c ∧ c ≤ 1, .pair (.int .u64 ((x - y - c) % 18446744073709551616)) (.int .u64 (-((x - y - c) / 18446744073709551616)))⟩
  | _ => ⟨False, .und⟩

theorem dens3 {w : World} {O : Nat → Prop} {a b c : AV} {vs : List Value} (h : Dens w O [a, b, c] vs) : ∃ x y z, vs = [x, y, z] ∧ den w (fun _ => 0) O a x ∧ den w (fun _ => 0) O b y ∧ den w (fun _ => 0) O c z := by
  match vs, h with
  | [x, y, z], h => exact ⟨x, y, z, rfl, h.1, h.2.1, h.2.2.1⟩

theorem c_Add64 : Contract Tryz.prog 65 sAdd64 := by
  intro xs vs w O hO hpure hd hp
  unfold sAdd64 at hp
  split at hp
  case h_2 => exact hp.elim
  rename_i x y c
  obtain ⟨vx, vy, vc, rfl, hx, hy, hc⟩ := dens3 hd
  simp only [den] at hx hy hc
  subst hx hy hc
  have hrun : (callFunc 65 #[.int .u64 x, .int .u64 y, .int .u64 c]).run Tryz.prog w = .ok (.value (.tuple #[.int .u64 ((x + y + c) % 18446744073709551616), .int .u64 ((x + y + c) / 18446744073709551616)])) w := by
    rw [run_callFunc_extern Tryz.func65 (by kernel_rfl) (by kernel_rfl) (by kernel_rfl) (e := add64Entry) (by kernel_rfl), run_add64 x y c hp.1.1 hp.2.1.1 hp.2.2.1 hp.2.2.2]
    rfl
  unfold Calls'
  rw [hrun]
  exact ⟨⟨_, _, rfl, rfl, rfl⟩, rfl, Go.RowKit.Below.refl _ _⟩

theorem c_Sub64 : Contract Tryz.prog 97 sSub64 := by
  intro xs vs w O hO hpure hd hp
  unfold sSub64 at hp
  split at hp
  case h_2 => exact hp.elim
  rename_i x y c
  obtain ⟨vx, vy, vc, rfl, hx, hy, hc⟩ := dens3 hd
  simp only [den] at hx hy hc
  subst hx hy hc
  obtain ⟨⟨x0, x1⟩, ⟨y0, y1⟩, c0, c1⟩ := hp
  have hrun : (callFunc 97 #[.int .u64 x, .int .u64 y, .int .u64 c]).run Tryz.prog w = .ok (.value (.tuple #[.int .u64 ((x - y - c) % 18446744073709551616), .int .u64 (-((x - y - c) / 18446744073709551616))])) w := by
    obtain ⟨x, rfl⟩ := Int.eq_ofNat_of_zero_le x0
    obtain ⟨y, rfl⟩ := Int.eq_ofNat_of_zero_le y0
    obtain ⟨c, rfl⟩ := Int.eq_ofNat_of_zero_le c0
    rw [run_callFunc_extern Tryz.func97 (by kernel_rfl) (by kernel_rfl) (by kernel_rfl) (e := sub64Entry) (by kernel_rfl), run_sub64 x y c (by omega)]
    simp only [Result.andThen]
    have e1 : (((x + 18446744073709551616 - y - c) % 18446744073709551616 : Nat) : Int) = ((x : Int) - y - c) % 18446744073709551616 := by omega
    have e2 : ((if x < y + c then 1 else 0 : Nat) : Int) = -(((x : Int) - y - c) / 18446744073709551616) := by split <;> omega
    rw [e1, e2]
  unfold Calls'
  rw [hrun]
  exact ⟨⟨_, _, rfl, rfl, rfl⟩, rfl, Go.RowKit.Below.refl _ _⟩

/-! ### The reference's sums -/
def sRAdd : List AV → SOut
  | [.arr .i64 32 f, .arr .i64 32 g] => ⟨D f ∧ D g, .arr .i64 32 (dl (dv f + dv g))⟩
  | _ => ⟨False, .und⟩

theorem add_round {B : Int} {f g o : Nat → Int} {c : Int} {k : Nat} (h : wsum B o k + c * B ^ k = wsum B f k + wsum B g k) (s : Int) (hs : s = f k + g k + c) :
    wsum B (updF o k (s % B)) (k + 1) + s / B * B ^ (k + 1) = wsum B f (k + 1) + wsum B g (k + 1) := by
  rw [wsum_succ, wsum_succ, wsum_succ, updF_same, wsum_congr (g := o) (fun j hj => updF_ne _ _ (by omega))]
  have e := Int.mul_ediv_add_emod s B
  rw [Int.pow_succ]
  generalize s % B = r at *
  generalize s / B = q at *
  generalize B ^ k = b at *
  grind

theorem sub_round {B : Int} {f g o : Nat → Int} {c : Int} {k : Nat} (h : wsum B o k - c * B ^ k = wsum B f k - wsum B g k) (s : Int) (hs : s = f k - g k - c) :
    wsum B (updF o k (s % B)) (k + 1) - -(s / B) * B ^ (k + 1) = wsum B f (k + 1) - wsum B g (k + 1) := by
  rw [wsum_succ, wsum_succ, wsum_succ, updF_same, wsum_congr (g := o) (fun j hj => updF_ne _ _ (by omega))]
  have e := Int.mul_ediv_add_emod s B
  rw [Int.pow_succ]
  generalize s % B = r at *
  generalize s / B = q at *
  generalize B ^ k = b at *
  grind

theorem Dg_upd {B : Int} {o : Nat → Int} {k : Nat} {z : Int} (h : Dg B k o) (h0 : 0 ≤ z) (h1 : z < B) : Dg B (k + 1) (updF o k z) := fun j hj => by
  by_cases e : k = j
  · subst e; rw [updF_same]; exact ⟨h0, h1⟩
  · rw [updF_ne _ _ e]; exact h j (by omega)

theorem c_RAdd : Contract Tryz.prog 53 sRAdd := by
  refine fun_ok [] trivial Tryz.func53 rfl (by kernel_rfl) Tryz.ntmps53 Tryz.results53 (fun E hE hty hfs xs hp => ?_)
  unfold sRAdd at hp
  split at hp
  case h_2 => exact hp.elim
  rename_i f g
  obtain ⟨hf, hg⟩ := hp
  refine ⟨by simp, fun Q hQ => ?_⟩
  simp only [params, Nat.reduceAdd]
  repeat' first
    | refine T_seq' ?_
    | refine T_block ?_
    | refine n_then ?_
    | refine x_then ?_
    | refine r_then ?_
    | refine n_block ?_
    | refine r_block ?_
    | refine x_block ?_
    | refine x_block' (by rfl) ?_
    | refine T_exit ?_
    | refine T_skip ?_
    | refine T_ret ?_
    | ((first | refine T_region hE (by rfl) (fun K hK => ?_) | refine T_draw hE (by rfl) (by kernel_rfl) (fun K hK => ?_)); simp (disch := omega) only [eqs, evs, stp, stepW, wantA, opStep, kindOf, headStep, skipStep, stStep, wrStep, cpStep, stA, appA, readSl, isSl, copyA, kill, AV.refs, hd, hdLoad, hdBin, intBin, hdUn, hdConv, hdIdxAddr, hdIdx, hdSlice, bnd, hdCall, hdCallF, hdLen, hdMin, argsA, mapA, partsOk, partsF, lk, look, addR, evA, constA, HOut.ok, hty, hfs, tyAll, List.map, List.all, List.getElem?_cons_zero, List.getElem?_cons_succ, Option.bind_some, Option.map_some, Option.map_none, Option.getD_some, AV.pureA, Nat.reduceEqDiff, ↓reduceIte, reduceCtorEq, Nat.reduceLT, Nat.reduceLeDiff, Nat.reduceAdd, Nat.reduceMul, Int.reduceToNat, IntKind.bits, BEq.rfl, beq_self_eq_true, bne_self_eq_false, Int.reduceBEq, Int.reduceBNe, Int.reduceEq, Int.reduceNe, ne_eq, Int.reduceLT, Int.reduceLE]; (repeat refine And.intro (by first | omega | assumption | (and_intros <;> first | omega | assumption) | fail) ?_); refine hK _ ?_; clear hK K)
    | (refine T_cond rfl (fun hc => ?_) (fun hc => ?_) <;> (try simp only [cnds, reduceCtorEq] at hc) <;> (try (first | (exact hc.elim) | (exfalso; omega))))
  refine T_for (ι := Nat × (Nat → Int) × Int) (fun i => ⟨[(2, .elt 2 0), (3, .elt 3 0), (4, .elt 4 0), (5, .elt 5 0), (6, .int .i64 i.2.2), (7, .int .i64 i.1)],
      [(2, ⟨.i64, 32, f⟩), (3, ⟨.i64, 32, g⟩), (4, ⟨.i64, 32, fun _ => 0⟩), (5, ⟨.i64, 32, i.2.1⟩)]⟩)
    (fun i => i.1 ≤ 32 ∧ 0 ≤ i.2.2 ∧ i.2.2 ≤ 1 ∧ Dg 256 i.1 i.2.1 ∧ wsum 256 i.2.1 i.1 + i.2.2 * 256 ^ i.1 = wsum 256 f i.1 + wsum 256 g i.1) (fun i => 32 - i.1)
    ⟨(0, fun _ => 0, 0), ⟨by simp, by simp, by simp, fun j hj => by simp at hj, by simp [wsum]⟩, ?_⟩ (fun i hi => ?_)
  · (simp (disch := omega) only [Le, AllF, AllR, slotLe, rowLe, refsIn, Option.isSome_some, implies_true, forall_const, AV.int.injEq, AV.bool.injEq, AV.elt.injEq, Int.natCast_add, Int.cast_ofNat_Int, eqs, lk, look, AV.pureA, kill, AV.refs, hty, tyAll, Nat.reduceEqDiff, ↓reduceIte, reduceCtorEq, Nat.reduceLT, Nat.reduceLeDiff, Nat.reduceAdd, Nat.reduceMul, Int.reduceToNat, ne_eq] <;> repeat' (first | rfl | apply And.intro | omega))
  · obtain ⟨k, o, c⟩ := i
    obtain ⟨hk, hc0, hc1, ho, hsum⟩ := hi
    simp only at hk hc0 hc1 ho hsum ⊢
    by_cases hlt : k < 32
    · have fk := hf k hlt
      have gk := hg k hlt
      repeat' first
        | refine T_seq' ?_
        | refine T_block ?_
        | refine n_then ?_
        | refine x_then ?_
        | refine r_then ?_
        | refine n_block ?_
        | refine r_block ?_
        | refine x_block ?_
        | refine x_block' (by rfl) ?_
        | refine T_exit ?_
        | refine T_skip ?_
        | refine T_ret ?_
        | ((first | refine T_region hE (by rfl) (fun K hK => ?_) | refine T_draw hE (by rfl) (by kernel_rfl) (fun K hK => ?_)); simp (disch := omega) only [eqs, evs, stp, stepW, wantA, opStep, kindOf, headStep, skipStep, stStep, wrStep, cpStep, stA, appA, readSl, isSl, copyA, kill, AV.refs, hd, hdLoad, hdBin, intBin, hdUn, hdConv, hdIdxAddr, hdIdx, hdSlice, bnd, hdCall, hdCallF, hdLen, hdMin, argsA, mapA, partsOk, partsF, lk, look, addR, evA, constA, HOut.ok, hty, hfs, tyAll, List.map, List.all, List.getElem?_cons_zero, List.getElem?_cons_succ, Option.bind_some, Option.map_some, Option.map_none, Option.getD_some, AV.pureA, Nat.reduceEqDiff, ↓reduceIte, reduceCtorEq, Nat.reduceLT, Nat.reduceLeDiff, Nat.reduceAdd, Nat.reduceMul, Int.reduceToNat, IntKind.bits, BEq.rfl, beq_self_eq_true, bne_self_eq_false, Int.reduceBEq, Int.reduceBNe, Int.reduceEq, Int.reduceNe, ne_eq, Int.reduceLT, Int.reduceLE]; (repeat refine And.intro (by first | omega | assumption | (and_intros <;> first | omega | assumption) | fail) ?_); refine hK _ ?_; clear hK K)
        | (refine T_cond rfl (fun hc => ?_) (fun hc => ?_) <;> (try simp only [cnds, reduceCtorEq] at hc) <;> (try (first | (exact hc.elim) | (exfalso; omega))))
      refine ⟨(k + 1, updF o k ((f k + g k + c) % 256), (f k + g k + c) / 256), ⟨by simp only; omega, by simp only; omega, by simp only; omega, Dg_upd ho (by omega) (by omega), add_round hsum _ rfl⟩, by simp only; omega, ?_⟩
      (simp (disch := omega) only [Le, AllF, AllR, slotLe, rowLe, refsIn, Option.isSome_some, implies_true, forall_const, AV.int.injEq, AV.bool.injEq, AV.elt.injEq, Int.natCast_add, Int.cast_ofNat_Int, eqs, lk, look, AV.pureA, kill, AV.refs, hty, tyAll, Nat.reduceEqDiff, ↓reduceIte, reduceCtorEq, Nat.reduceLT, Nat.reduceLeDiff, Nat.reduceAdd, Nat.reduceMul, Int.reduceToNat, ne_eq] <;> repeat' (first | rfl | apply And.intro | omega))
    · repeat' first
        | refine T_seq' ?_
        | refine T_block ?_
        | refine n_then ?_
        | refine x_then ?_
        | refine r_then ?_
        | refine n_block ?_
        | refine r_block ?_
        | refine x_block ?_
        | refine x_block' (by rfl) ?_
        | refine T_exit ?_
        | refine T_skip ?_
        | refine T_ret ?_
        | ((first | refine T_region hE (by rfl) (fun K hK => ?_) | refine T_draw hE (by rfl) (by kernel_rfl) (fun K hK => ?_)); simp (disch := omega) only [eqs, evs, stp, stepW, wantA, opStep, kindOf, headStep, skipStep, stStep, wrStep, cpStep, stA, appA, readSl, isSl, copyA, kill, AV.refs, hd, hdLoad, hdBin, intBin, hdUn, hdConv, hdIdxAddr, hdIdx, hdSlice, bnd, hdCall, hdCallF, hdLen, hdMin, argsA, mapA, partsOk, partsF, lk, look, addR, evA, constA, HOut.ok, hty, hfs, tyAll, List.map, List.all, List.getElem?_cons_zero, List.getElem?_cons_succ, Option.bind_some, Option.map_some, Option.map_none, Option.getD_some, AV.pureA, Nat.reduceEqDiff, ↓reduceIte, reduceCtorEq, Nat.reduceLT, Nat.reduceLeDiff, Nat.reduceAdd, Nat.reduceMul, Int.reduceToNat, IntKind.bits, BEq.rfl, beq_self_eq_true, bne_self_eq_false, Int.reduceBEq, Int.reduceBNe, Int.reduceEq, Int.reduceNe, ne_eq, Int.reduceLT, Int.reduceLE]; (repeat refine And.intro (by first | omega | assumption | (and_intros <;> first | omega | assumption) | fail) ?_); refine hK _ ?_; clear hK K)
        | (refine T_cond rfl (fun hc => ?_) (fun hc => ?_) <;> (try simp only [cnds, reduceCtorEq] at hc) <;> (try (first | (exact hc.elim) | (exfalso; omega))))
      refine hQ _ ?_
      simp (disch := omega) only [resOk, res1, retOk, eqs, lk, look, AV.pureA, kill, AV.refs, hty, tyAll, Nat.reduceEqDiff, ↓reduceIte, reduceCtorEq, Nat.reduceLT, Nat.reduceLeDiff, Nat.reduceAdd, Nat.reduceMul, Int.reduceToNat, ne_eq, sRAdd]
      intro j hj
      obtain rfl : k = 32 := by omega
      exact dl_of ho (mod_of hsum (wsum_bd (by decide) ho).1 (wsum_bd (by decide) ho).2) j hj

/-! ### The program's sums and differences -/
def sWAdd : List AV → SOut
  | [.arr .u64 4 f, .arr .u64 4 g] => ⟨W f ∧ W g, .arr .u64 4 (wl (wv f + wv g))⟩
  | _ => ⟨False, .und⟩

theorem W_at {f : Nat → Int} (h : W f) (k : Nat) (hk : k < 4) : 0 ≤ f k ∧ f k < 18446744073709551616 := h k hk

theorem c_WAdd : Contract Tryz.prog 25 sWAdd := by
  refine fun_ok [(65, sAdd64)] ⟨c_Add64, trivial⟩ Tryz.func25 rfl (by kernel_rfl) Tryz.ntmps25 Tryz.results25 (fun E hE hty hfs xs hp => ?_)
  unfold sWAdd at hp
  split at hp
  case h_2 => exact hp.elim
  rename_i f g
  obtain ⟨hf, hg⟩ := hp
  refine ⟨by simp, fun Q hQ => ?_⟩
  simp only [params, Nat.reduceAdd]
  repeat' first
    | refine T_seq' ?_
    | refine T_block ?_
    | refine n_then ?_
    | refine x_then ?_
    | refine r_then ?_
    | refine n_block ?_
    | refine r_block ?_
    | refine x_block ?_
    | refine x_block' (by rfl) ?_
    | refine T_exit ?_
    | refine T_skip ?_
    | refine T_ret ?_
    | ((first | refine T_region hE (by rfl) (fun K hK => ?_) | refine T_draw hE (by rfl) (by kernel_rfl) (fun K hK => ?_)); simp (disch := omega) only [eqs, evs, stp, stepW, wantA, opStep, kindOf, headStep, skipStep, stStep, wrStep, cpStep, stA, appA, readSl, isSl, copyA, kill, AV.refs, hd, hdLoad, hdBin, intBin, hdUn, hdConv, hdIdxAddr, hdIdx, hdSlice, bnd, hdCall, hdCallF, hdLen, hdMin, argsA, mapA, partsOk, partsF, lk, look, addR, evA, constA, HOut.ok, hty, hfs, tyAll, List.map, List.all, List.getElem?_cons_zero, List.getElem?_cons_succ, Option.bind_some, Option.map_some, Option.map_none, Option.getD_some, AV.pureA, Nat.reduceEqDiff, ↓reduceIte, reduceCtorEq, Nat.reduceLT, Nat.reduceLeDiff, Nat.reduceAdd, Nat.reduceMul, Int.reduceToNat, IntKind.bits, BEq.rfl, beq_self_eq_true, bne_self_eq_false, Int.reduceBEq, Int.reduceBNe, Int.reduceEq, Int.reduceNe, ne_eq, Int.reduceLT, Int.reduceLE]; (repeat refine And.intro (by first | omega | assumption | (and_intros <;> first | omega | assumption) | fail) ?_); refine hK _ ?_; clear hK K)
    | (refine T_cond rfl (fun hc => ?_) (fun hc => ?_) <;> (try simp only [cnds, reduceCtorEq] at hc) <;> (try (first | (exact hc.elim) | (exfalso; omega))))
  refine T_for (ι := Nat × (Nat → Int) × Int) (fun i => ⟨[(2, .elt 2 0), (3, .elt 3 0), (4, .elt 4 0), (5, .elt 5 0), (6, .int .u64 i.2.2), (10, .int .i64 i.1)],
      [(2, ⟨.u64, 4, f⟩), (3, ⟨.u64, 4, g⟩), (4, ⟨.u64, 4, fun _ => 0⟩), (5, ⟨.u64, 4, i.2.1⟩)]⟩)
    (fun i => i.1 ≤ 4 ∧ 0 ≤ i.2.2 ∧ i.2.2 ≤ 1 ∧ Dg B64 i.1 i.2.1 ∧ wsum B64 i.2.1 i.1 + i.2.2 * B64 ^ i.1 = wsum B64 f i.1 + wsum B64 g i.1) (fun i => 4 - i.1)
    ⟨(0, fun _ => 0, 0), ⟨by simp, by simp, by simp, fun j hj => by simp at hj, by simp [wsum]⟩, ?_⟩ (fun i hi => ?_)
  · (simp (disch := omega) only [Le, AllF, AllR, slotLe, rowLe, refsIn, Option.isSome_some, implies_true, forall_const, AV.int.injEq, AV.bool.injEq, AV.elt.injEq, Int.natCast_add, Int.cast_ofNat_Int, eqs, lk, look, AV.pureA, kill, AV.refs, hty, tyAll, Nat.reduceEqDiff, ↓reduceIte, reduceCtorEq, Nat.reduceLT, Nat.reduceLeDiff, Nat.reduceAdd, Nat.reduceMul, Int.reduceToNat, ne_eq] <;> repeat' (first | rfl | apply And.intro | omega))
  · obtain ⟨k, o, c⟩ := i
    obtain ⟨hk, hc0, hc1, ho, hsum⟩ := hi
    simp only at hk hc0 hc1 ho hsum ⊢
    by_cases hlt : k < 4
    · have fk := W_at hf k hlt
      have gk := W_at hg k hlt
      repeat' first
        | refine T_seq' ?_
        | refine T_block ?_
        | refine n_then ?_
        | refine x_then ?_
        | refine r_then ?_
        | refine n_block ?_
        | refine r_block ?_
        | refine x_block ?_
        | refine x_block' (by rfl) ?_
        | refine T_exit ?_
        | refine T_skip ?_
        | refine T_ret ?_
        | ((first | refine T_region hE (by rfl) (fun K hK => ?_) | refine T_draw hE (by rfl) (by kernel_rfl) (fun K hK => ?_)); simp (disch := omega) only [eqs, evs, stp, stepW, wantA, opStep, kindOf, headStep, skipStep, stStep, wrStep, cpStep, stA, appA, readSl, isSl, copyA, kill, AV.refs, hd, hdLoad, hdBin, intBin, hdUn, hdConv, hdIdxAddr, hdIdx, hdSlice, bnd, hdCall, hdCallF, hdLen, hdMin, argsA, mapA, partsOk, partsF, lk, look, addR, evA, constA, HOut.ok, hty, hfs, tyAll, List.map, List.all, List.getElem?_cons_zero, List.getElem?_cons_succ, Option.bind_some, Option.map_some, Option.map_none, Option.getD_some, AV.pureA, Nat.reduceEqDiff, ↓reduceIte, reduceCtorEq, Nat.reduceLT, Nat.reduceLeDiff, Nat.reduceAdd, Nat.reduceMul, Int.reduceToNat, IntKind.bits, BEq.rfl, beq_self_eq_true, bne_self_eq_false, Int.reduceBEq, Int.reduceBNe, Int.reduceEq, Int.reduceNe, ne_eq, Int.reduceLT, Int.reduceLE, sAdd64]; (repeat refine And.intro (by first | omega | assumption | (and_intros <;> first | omega | assumption) | fail) ?_); refine hK _ ?_; clear hK K)
        | (refine T_cond rfl (fun hc => ?_) (fun hc => ?_) <;> (try simp only [cnds, reduceCtorEq] at hc) <;> (try (first | (exact hc.elim) | (exfalso; omega))))
      refine ⟨(k + 1, updF o k ((f k + g k + c) % 18446744073709551616), (f k + g k + c) / 18446744073709551616), ⟨by simp only; omega, by simp only; omega, by simp only; omega, Dg_upd ho (Int.emod_nonneg _ (by decide)) (Int.emod_lt_of_pos _ (by decide)), add_round hsum _ rfl⟩, by simp only; omega, ?_⟩
      (simp (disch := omega) only [Le, AllF, AllR, slotLe, rowLe, refsIn, Option.isSome_some, implies_true, forall_const, AV.int.injEq, AV.bool.injEq, AV.elt.injEq, Int.natCast_add, Int.cast_ofNat_Int, eqs, lk, look, AV.pureA, kill, AV.refs, hty, tyAll, Nat.reduceEqDiff, ↓reduceIte, reduceCtorEq, Nat.reduceLT, Nat.reduceLeDiff, Nat.reduceAdd, Nat.reduceMul, Int.reduceToNat, ne_eq] <;> repeat' (first | rfl | apply And.intro | omega))
    · repeat' first
        | refine T_seq' ?_
        | refine T_block ?_
        | refine n_then ?_
        | refine x_then ?_
        | refine r_then ?_
        | refine n_block ?_
        | refine r_block ?_
        | refine x_block ?_
        | refine x_block' (by rfl) ?_
        | refine T_exit ?_
        | refine T_skip ?_
        | refine T_ret ?_
        | ((first | refine T_region hE (by rfl) (fun K hK => ?_) | refine T_draw hE (by rfl) (by kernel_rfl) (fun K hK => ?_)); simp (disch := omega) only [eqs, evs, stp, stepW, wantA, opStep, kindOf, headStep, skipStep, stStep, wrStep, cpStep, stA, appA, readSl, isSl, copyA, kill, AV.refs, hd, hdLoad, hdBin, intBin, hdUn, hdConv, hdIdxAddr, hdIdx, hdSlice, bnd, hdCall, hdCallF, hdLen, hdMin, argsA, mapA, partsOk, partsF, lk, look, addR, evA, constA, HOut.ok, hty, hfs, tyAll, List.map, List.all, List.getElem?_cons_zero, List.getElem?_cons_succ, Option.bind_some, Option.map_some, Option.map_none, Option.getD_some, AV.pureA, Nat.reduceEqDiff, ↓reduceIte, reduceCtorEq, Nat.reduceLT, Nat.reduceLeDiff, Nat.reduceAdd, Nat.reduceMul, Int.reduceToNat, IntKind.bits, BEq.rfl, beq_self_eq_true, bne_self_eq_false, Int.reduceBEq, Int.reduceBNe, Int.reduceEq, Int.reduceNe, ne_eq, Int.reduceLT, Int.reduceLE]; (repeat refine And.intro (by first | omega | assumption | (and_intros <;> first | omega | assumption) | fail) ?_); refine hK _ ?_; clear hK K)
        | (refine T_cond rfl (fun hc => ?_) (fun hc => ?_) <;> (try simp only [cnds, reduceCtorEq] at hc) <;> (try (first | (exact hc.elim) | (exfalso; omega))))
      refine hQ _ ?_
      simp (disch := omega) only [resOk, res1, retOk, eqs, lk, look, AV.pureA, kill, AV.refs, hty, tyAll, Nat.reduceEqDiff, ↓reduceIte, reduceCtorEq, Nat.reduceLT, Nat.reduceLeDiff, Nat.reduceAdd, Nat.reduceMul, Int.reduceToNat, ne_eq, sWAdd]
      intro j hj
      obtain rfl : k = 4 := by omega
      exact wl_of ho (mod_of (c := c) (by rw [← B64_pow4]; exact hsum) (wv_bd ho).1 (wv_bd ho).2) j hj

def sWSub : List AV → SOut
  | [.arr .u64 4 f, .arr .u64 4 g] => ⟨W f ∧ W g, .arr .u64 4 (wl (wv f - wv g))⟩
  | _ => ⟨False, .und⟩

theorem c_WSub : Contract Tryz.prog 71 sWSub := by
  refine fun_ok [(97, sSub64)] ⟨c_Sub64, trivial⟩ Tryz.func71 rfl (by kernel_rfl) Tryz.ntmps71 Tryz.results71 (fun E hE hty hfs xs hp => ?_)
  unfold sWSub at hp
  split at hp
  case h_2 => exact hp.elim
  rename_i f g
  obtain ⟨hf, hg⟩ := hp
  refine ⟨by simp, fun Q hQ => ?_⟩
  simp only [params, Nat.reduceAdd]
  repeat' first
    | refine T_seq' ?_
    | refine T_block ?_
    | refine n_then ?_
    | refine x_then ?_
    | refine r_then ?_
    | refine n_block ?_
    | refine r_block ?_
    | refine x_block ?_
    | refine x_block' (by rfl) ?_
    | refine T_exit ?_
    | refine T_skip ?_
    | refine T_ret ?_
    | ((first | refine T_region hE (by rfl) (fun K hK => ?_) | refine T_draw hE (by rfl) (by kernel_rfl) (fun K hK => ?_)); simp (disch := omega) only [eqs, evs, stp, stepW, wantA, opStep, kindOf, headStep, skipStep, stStep, wrStep, cpStep, stA, appA, readSl, isSl, copyA, kill, AV.refs, hd, hdLoad, hdBin, intBin, hdUn, hdConv, hdIdxAddr, hdIdx, hdSlice, bnd, hdCall, hdCallF, hdLen, hdMin, argsA, mapA, partsOk, partsF, lk, look, addR, evA, constA, HOut.ok, hty, hfs, tyAll, List.map, List.all, List.getElem?_cons_zero, List.getElem?_cons_succ, Option.bind_some, Option.map_some, Option.map_none, Option.getD_some, AV.pureA, Nat.reduceEqDiff, ↓reduceIte, reduceCtorEq, Nat.reduceLT, Nat.reduceLeDiff, Nat.reduceAdd, Nat.reduceMul, Int.reduceToNat, IntKind.bits, BEq.rfl, beq_self_eq_true, bne_self_eq_false, Int.reduceBEq, Int.reduceBNe, Int.reduceEq, Int.reduceNe, ne_eq, Int.reduceLT, Int.reduceLE]; (repeat refine And.intro (by first | omega | assumption | (and_intros <;> first | omega | assumption) | fail) ?_); refine hK _ ?_; clear hK K)
    | (refine T_cond rfl (fun hc => ?_) (fun hc => ?_) <;> (try simp only [cnds, reduceCtorEq] at hc) <;> (try (first | (exact hc.elim) | (exfalso; omega))))
  refine T_for (ι := Nat × (Nat → Int) × Int) (fun i => ⟨[(2, .elt 2 0), (3, .elt 3 0), (4, .elt 4 0), (5, .elt 5 0), (6, .int .u64 i.2.2), (10, .int .i64 i.1)],
      [(2, ⟨.u64, 4, f⟩), (3, ⟨.u64, 4, g⟩), (4, ⟨.u64, 4, fun _ => 0⟩), (5, ⟨.u64, 4, i.2.1⟩)]⟩)
    (fun i => i.1 ≤ 4 ∧ 0 ≤ i.2.2 ∧ i.2.2 ≤ 1 ∧ Dg B64 i.1 i.2.1 ∧ wsum B64 i.2.1 i.1 - i.2.2 * B64 ^ i.1 = wsum B64 f i.1 - wsum B64 g i.1) (fun i => 4 - i.1)
    ⟨(0, fun _ => 0, 0), ⟨by simp, by simp, by simp, fun j hj => by simp at hj, by simp [wsum]⟩, ?_⟩ (fun i hi => ?_)
  · (simp (disch := omega) only [Le, AllF, AllR, slotLe, rowLe, refsIn, Option.isSome_some, implies_true, forall_const, AV.int.injEq, AV.bool.injEq, AV.elt.injEq, Int.natCast_add, Int.cast_ofNat_Int, eqs, lk, look, AV.pureA, kill, AV.refs, hty, tyAll, Nat.reduceEqDiff, ↓reduceIte, reduceCtorEq, Nat.reduceLT, Nat.reduceLeDiff, Nat.reduceAdd, Nat.reduceMul, Int.reduceToNat, ne_eq] <;> repeat' (first | rfl | apply And.intro | omega))
  · obtain ⟨k, o, c⟩ := i
    obtain ⟨hk, hc0, hc1, ho, hsum⟩ := hi
    simp only at hk hc0 hc1 ho hsum ⊢
    by_cases hlt : k < 4
    · have fk := W_at hf k hlt
      have gk := W_at hg k hlt
      repeat' first
        | refine T_seq' ?_
        | refine T_block ?_
        | refine n_then ?_
        | refine x_then ?_
        | refine r_then ?_
        | refine n_block ?_
        | refine r_block ?_
        | refine x_block ?_
        | refine x_block' (by rfl) ?_
        | refine T_exit ?_
        | refine T_skip ?_
        | refine T_ret ?_
        | ((first | refine T_region hE (by rfl) (fun K hK => ?_) | refine T_draw hE (by rfl) (by kernel_rfl) (fun K hK => ?_)); simp (disch := omega) only [eqs, evs, stp, stepW, wantA, opStep, kindOf, headStep, skipStep, stStep, wrStep, cpStep, stA, appA, readSl, isSl, copyA, kill, AV.refs, hd, hdLoad, hdBin, intBin, hdUn, hdConv, hdIdxAddr, hdIdx, hdSlice, bnd, hdCall, hdCallF, hdLen, hdMin, argsA, mapA, partsOk, partsF, lk, look, addR, evA, constA, HOut.ok, hty, hfs, tyAll, List.map, List.all, List.getElem?_cons_zero, List.getElem?_cons_succ, Option.bind_some, Option.map_some, Option.map_none, Option.getD_some, AV.pureA, Nat.reduceEqDiff, ↓reduceIte, reduceCtorEq, Nat.reduceLT, Nat.reduceLeDiff, Nat.reduceAdd, Nat.reduceMul, Int.reduceToNat, IntKind.bits, BEq.rfl, beq_self_eq_true, bne_self_eq_false, Int.reduceBEq, Int.reduceBNe, Int.reduceEq, Int.reduceNe, ne_eq, Int.reduceLT, Int.reduceLE, sSub64]; (repeat refine And.intro (by first | omega | assumption | (and_intros <;> first | omega | assumption) | fail) ?_); refine hK _ ?_; clear hK K)
        | (refine T_cond rfl (fun hc => ?_) (fun hc => ?_) <;> (try simp only [cnds, reduceCtorEq] at hc) <;> (try (first | (exact hc.elim) | (exfalso; omega))))
      refine ⟨(k + 1, updF o k ((f k - g k - c) % 18446744073709551616), -((f k - g k - c) / 18446744073709551616)), ⟨by simp only; omega, by simp only; omega, by simp only; omega, Dg_upd ho (Int.emod_nonneg _ (by decide)) (Int.emod_lt_of_pos _ (by decide)), sub_round hsum _ rfl⟩, by simp only; omega, ?_⟩
      (simp (disch := omega) only [Le, AllF, AllR, slotLe, rowLe, refsIn, Option.isSome_some, implies_true, forall_const, AV.int.injEq, AV.bool.injEq, AV.elt.injEq, Int.natCast_add, Int.cast_ofNat_Int, eqs, lk, look, AV.pureA, kill, AV.refs, hty, tyAll, Nat.reduceEqDiff, ↓reduceIte, reduceCtorEq, Nat.reduceLT, Nat.reduceLeDiff, Nat.reduceAdd, Nat.reduceMul, Int.reduceToNat, ne_eq] <;> repeat' (first | rfl | apply And.intro | omega))
    · repeat' first
        | refine T_seq' ?_
        | refine T_block ?_
        | refine n_then ?_
        | refine x_then ?_
        | refine r_then ?_
        | refine n_block ?_
        | refine r_block ?_
        | refine x_block ?_
        | refine x_block' (by rfl) ?_
        | refine T_exit ?_
        | refine T_skip ?_
        | refine T_ret ?_
        | ((first | refine T_region hE (by rfl) (fun K hK => ?_) | refine T_draw hE (by rfl) (by kernel_rfl) (fun K hK => ?_)); simp (disch := omega) only [eqs, evs, stp, stepW, wantA, opStep, kindOf, headStep, skipStep, stStep, wrStep, cpStep, stA, appA, readSl, isSl, copyA, kill, AV.refs, hd, hdLoad, hdBin, intBin, hdUn, hdConv, hdIdxAddr, hdIdx, hdSlice, bnd, hdCall, hdCallF, hdLen, hdMin, argsA, mapA, partsOk, partsF, lk, look, addR, evA, constA, HOut.ok, hty, hfs, tyAll, List.map, List.all, List.getElem?_cons_zero, List.getElem?_cons_succ, Option.bind_some, Option.map_some, Option.map_none, Option.getD_some, AV.pureA, Nat.reduceEqDiff, ↓reduceIte, reduceCtorEq, Nat.reduceLT, Nat.reduceLeDiff, Nat.reduceAdd, Nat.reduceMul, Int.reduceToNat, IntKind.bits, BEq.rfl, beq_self_eq_true, bne_self_eq_false, Int.reduceBEq, Int.reduceBNe, Int.reduceEq, Int.reduceNe, ne_eq, Int.reduceLT, Int.reduceLE]; (repeat refine And.intro (by first | omega | assumption | (and_intros <;> first | omega | assumption) | fail) ?_); refine hK _ ?_; clear hK K)
        | (refine T_cond rfl (fun hc => ?_) (fun hc => ?_) <;> (try simp only [cnds, reduceCtorEq] at hc) <;> (try (first | (exact hc.elim) | (exfalso; omega))))
      refine hQ _ ?_
      simp (disch := omega) only [resOk, res1, retOk, eqs, lk, look, AV.pureA, kill, AV.refs, hty, tyAll, Nat.reduceEqDiff, ↓reduceIte, reduceCtorEq, Nat.reduceLT, Nat.reduceLeDiff, Nat.reduceAdd, Nat.reduceMul, Int.reduceToNat, ne_eq, sWSub]
      intro j hj
      obtain rfl : k = 4 := by omega
      exact wl_of ho (mod_of (c := -c) (by rw [← B64_pow4]; have h := hsum; unfold wv; grind) (wv_bd ho).1 (wv_bd ho).2) j hj

end Go.Proofs.YtijoifajbmhgdaaGreat.Sym
