/- Whatever instruction and three words are given, the law on instructions answers true. The input reads as it did. Conditions: none beyond those of the given statement. -/
import Derived.Test.YtijoifajbmhgdaaGreatRows
import Derived.Test.YtijoifajbmhgdaaGreatAk
import Derived.Test.YtijoifajbmhgdaaGreatLift
import Derived.Test.YtijoifajbmhgdaaGreatInit
namespace Go.Proofs.YtijoifajbmhgdaaGreat
open Go Go.RowKit Num Go.ChangeShapes Go.WideShapes Go.ChangeAt Sym
set_option linter.unusedVariables false
set_option linter.unusedSimpArgs false

theorem aluDoesOwn : ownKnob Tryz.prog.godebug = none := by kernel_rfl
theorem aluDoesLaid : laidOutB Tryz.prog = true := by kernel_rfl

set_option maxRecDepth 100000 in
theorem aluDoesLifted (os : Os) (started : os.Started) (H : Type) (enc : TypeId × Value → H) :
    ReturnsInHanded {} Tryz.checked os 3 .any (Rows.aluDoesSpec.pre6 enc Tryz.prog Tryz.f3 Rows.aluDoesRow.domain false) (Rows.aluDoesSpec.post enc Tryz.prog Tryz.f3 false true false false) := by
  refine returnsInHanded_of_change (C := Tryz.checked) aluDoesOwn started (by kernel_rfl) Tryz.func3
    (ChangeSpec.witness6 (enc := enc) (C := Tryz.checked) false ⟨#[], #[.int .u8 0, .agg #[.int .u64 0, .int .u64 0, .int .u64 0, .int .u64 0], .agg #[.int .u64 0, .int .u64 0, .int .u64 0, .int .u64 0], .agg #[.int .u64 0, .int .u64 0, .int .u64 0, .int .u64 0]], []⟩ 8 (by kernel_rfl) (by kernel_rfl) (by kernel_rfl) (by kernel_rfl)) ?_
  intro W0 base args ds gs before hval0 hW hcnd _
  have hval : ∀ (j : Nat) t v, Tryz.f3.params[j]? = some t → args[j]? = some v → Value.okWide Tryz.prog W0 .any base t v := hval0
  have hW' := hW
  obtain ⟨p, q, hA0, hV, rfl, hfz, hnd⟩ := hW
  have hA : DataW.TrodAll enc Tryz.prog W0 0 (fun _ => true) true Tryz.f3.params.toList args.toList ds p := hA0
  rw [Tryz.params3] at hA hval
  obtain ⟨v0, vs0, d0, ds0, p0, q0, hargs, rfl, rfl, h0, r0⟩ := trodAll_cons hA
  obtain ⟨v1, vs1, d1, ds1, p1, q1, rfl, rfl, rfl, h1, r1⟩ := trodAll_cons r0
  obtain ⟨v2, vs2, d2, ds2, p2, q2, rfl, rfl, rfl, h2, r2⟩ := trodAll_cons r1
  obtain ⟨v3, vs3, d3, ds3, p3, q3, rfl, rfl, rfl, h3, r3⟩ := trodAll_cons r2
  obtain ⟨rfl, rfl, rfl⟩ := trodAll_nil r3
  obtain rfl : args = #[v0, v1, v2, v3] := by cases args; simp_all
  obtain ⟨rfl, rfl⟩ := trodVars_none hV
  have k0 := h0
  have lt0 : ∀ x ∈ p0, x.block < W0.heap.size := by obtain ⟨m, hm⟩ := k0; exact DataW.trod_lt m _ _ _ hm
  obtain ⟨f0, w0, e0⟩ := arg_u8 (hval 0 5 v0 rfl rfl) h0
  have k1 := h1
  have lt1 : ∀ x ∈ p1, x.block < W0.heap.size := by obtain ⟨m, hm⟩ := k1; exact DataW.trod_lt m _ _ _ hm
  obtain ⟨f1, w1, e1⟩ := arg_word h1
  have k2 := h2
  have lt2 : ∀ x ∈ p2, x.block < W0.heap.size := by obtain ⟨m, hm⟩ := k2; exact DataW.trod_lt m _ _ _ hm
  obtain ⟨f2, w2, e2⟩ := arg_word h2
  have k3 := h3
  have lt3 : ∀ x ∈ p3, x.block < W0.heap.size := by obtain ⟨m, hm⟩ := k3; exact DataW.trod_lt m _ _ _ hm
  obtain ⟨f3, w3, e3⟩ := arg_word h3
  clear hA0 hval0
  refine (walk_of c_AluDoes Tryz.func3 (by kernel_rfl) (by kernel_rfl) (xs := [.int .u8 f0, .arr .u64 4 f1, .arr .u64 4 f2, .arr .u64 4 f3]) (vs := #[v0, v1, v2, v3]) (w := W0) ⟨e0, e1, e2, e3, trivial⟩ rfl ⟨w0, w1, w2, w3⟩ rfl).mono fun e W1 ⟨he, bel⟩ => ?_
  subst he
  exact ⟨_, rfl, _, _, _, [], _, [], hW', trodAll_mk1 (shut_bool Tryz.underlying4 _), (trodAll_cons_mk (Below.trod aluDoesLaid (by kernel_rfl) (of_decide_eq_true (by kernel_rfl)) k0 bel lt0) (trodAll_cons_mk (Below.trod aluDoesLaid (by kernel_rfl) (of_decide_eq_true (by kernel_rfl)) k1 bel lt1) (trodAll_cons_mk (Below.trod aluDoesLaid (by kernel_rfl) (of_decide_eq_true (by kernel_rfl)) k2 bel lt2) (trodAll_cons_mk (Below.trod aluDoesLaid (by kernel_rfl) (of_decide_eq_true (by kernel_rfl)) k3 bel lt3) trodAll_mk0)))), rfl, bel.frame _, fun h => by cases h⟩

theorem aluDoesClosed : joinedFacts Tryz.pinned.checked.prog 3 Tryz.f3 Rows.aluDoesSpec Rows.aluDoesRow = true := by
  simp only [joinedFacts, Bool.and_eq_true, and_assoc]
  exact ⟨by kernel_rfl, by kernel_rfl, by kernel_rfl, by kernel_rfl, by kernel_rfl, by kernel_rfl, by kernel_rfl, by kernel_rfl, by kernel_rfl, by kernel_rfl, by kernel_rfl, by kernel_rfl, by kernel_rfl, by kernel_rfl, by kernel_rfl, by kernel_rfl, by kernel_rfl, by kernel_rfl, by kernel_rfl, by kernel_rfl, by kernel_rfl, by kernel_rfl, by kernel_rfl, by kernel_rfl, by kernel_rfl, cutEnter, (show (Rows.aluDoesRow.lifted == Tryz.prog.liftsFinal) = true by rw [cutFinal]; rfl), (show (Tryz.prog.make == some Rows.aluDoesRow.make) = true by rw [cutMake]; rfl), by kernel_rfl, by kernel_rfl, by kernel_rfl, by kernel_rfl⟩

theorem aluDoesOver : Rows.aluDoesRow.holds Tryz.pinned (OpenSpec.ofChange Rows.aluDoesSpec) :=
  OpenClaim.holds_of_wide 3 Tryz.f3 rfl rfl rfl rfl rfl rfl rfl ⟨rfl, rfl, rfl, rfl, rfl⟩ rfl rfl rfl rfl rfl (by kernel_rfl) Tryz.func3 aluDoesClosed
    (of_decide_eq_true (by kernel_rfl)) (by unfold Func.isWrapper; first | (rw [if_pos (by decide +kernel)]; kernel_rfl) | (rw [if_neg (by decide +kernel)]; exact ⟨rfl, rfl⟩))
    (fun os started H enc _ => aluDoesLifted os started H enc)

/-- The statement. -/
theorem aluDoesProved : Rows.AluDoesSaid := aluDoesOver
#print axioms aluDoesProved

end Go.Proofs.YtijoifajbmhgdaaGreat
