/- Whatever base fee and two numbers are given, the law on eighths of the base fee answers true. The input reads as it did. Conditions: none beyond those of the given statement. -/
import Derived.Test.YtijoifajbmhgdaaRows
import Derived.Test.YtijoifajbmhgdaaFd
import Derived.Test.YtijoifajbmhgdaaLift
import Derived.Test.YtijoifajbmhgdaaInit
namespace Go.Proofs.Ytijoifajbmhgdaa
open Go Go.RowKit Num Go.ChangeShapes Go.WideShapes Go.ChangeAt Sym
set_option linter.unusedVariables false
set_option linter.unusedSimpArgs false

theorem feeEighthOwn : ownKnob Try.prog.godebug = none := by kernel_rfl
theorem feeEighthLaid : laidOutB Try.prog = true := by kernel_rfl

set_option maxRecDepth 100000 in
theorem feeEighthLifted (os : Os) (started : os.Started) (H : Type) (enc : TypeId × Value → H) :
    ReturnsInHanded {} Try.checked os 13 .any (Rows.feeEighthSpec.pre6 enc Try.prog Try.f13 Rows.feeEighthRow.domain false) (Rows.feeEighthSpec.post enc Try.prog Try.f13 false true false false) := by
  refine returnsInHanded_of_change (C := Try.checked) feeEighthOwn started (by kernel_rfl) Try.func13
    (ChangeSpec.witness6 (enc := enc) (C := Try.checked) false ⟨#[], #[.agg #[.int .u64 0, .int .u64 0, .int .u64 0, .int .u64 0], .int .u64 0, .int .u64 0], []⟩ 8 (by kernel_rfl) (by kernel_rfl) (by kernel_rfl) (by kernel_rfl)) ?_
  intro W0 base args ds gs before hval0 hW hcnd _
  have hval : ∀ (j : Nat) t v, Try.f13.params[j]? = some t → args[j]? = some v → Value.okWide Try.prog W0 .any base t v := hval0
  have hW' := hW
  obtain ⟨p, q, hA0, hV, rfl, hfz, hnd⟩ := hW
  have hA : DataW.TrodAll enc Try.prog W0 0 (fun _ => true) true Try.f13.params.toList args.toList ds p := hA0
  rw [Try.params13] at hA hval
  obtain ⟨v0, vs0, d0, ds0, p0, q0, hargs, rfl, rfl, h0, r0⟩ := trodAll_cons hA
  obtain ⟨v1, vs1, d1, ds1, p1, q1, rfl, rfl, rfl, h1, r1⟩ := trodAll_cons r0
  obtain ⟨v2, vs2, d2, ds2, p2, q2, rfl, rfl, rfl, h2, r2⟩ := trodAll_cons r1
  obtain ⟨rfl, rfl, rfl⟩ := trodAll_nil r2
  obtain rfl : args = #[v0, v1, v2] := by cases args; simp_all
  obtain ⟨rfl, rfl⟩ := trodVars_none hV
  have k0 := h0
  have lt0 : ∀ x ∈ p0, x.block < W0.heap.size := by obtain ⟨m, hm⟩ := k0; exact DataW.trod_lt m _ _ _ hm
  obtain ⟨f0, w0, e0⟩ := arg_word h0
  have k1 := h1
  have lt1 : ∀ x ∈ p1, x.block < W0.heap.size := by obtain ⟨m, hm⟩ := k1; exact DataW.trod_lt m _ _ _ hm
  obtain ⟨f1, w1, e1⟩ := arg_u64 (hval 1 22 v1 rfl rfl) h1
  have k2 := h2
  have lt2 : ∀ x ∈ p2, x.block < W0.heap.size := by obtain ⟨m, hm⟩ := k2; exact DataW.trod_lt m _ _ _ hm
  obtain ⟨f2, w2, e2⟩ := arg_u64 (hval 2 22 v2 rfl rfl) h2
  clear hA0 hval0
  refine (walk_of c_FeeEighth Try.func13 (by kernel_rfl) (by kernel_rfl) (xs := [.arr .u64 4 f0, .int .u64 f1, .int .u64 f2]) (vs := #[v0, v1, v2]) (w := W0) ⟨e0, e1, e2, trivial⟩ rfl ⟨w0, w1, w2⟩ rfl).mono fun e W1 ⟨he, bel⟩ => ?_
  subst he
  exact ⟨_, rfl, _, _, _, [], _, [], hW', trodAll_mk1 (shut_bool Try.underlying4 _), (trodAll_cons_mk (Below.trod feeEighthLaid (by kernel_rfl) (of_decide_eq_true (by kernel_rfl)) k0 bel lt0) (trodAll_cons_mk (Below.trod feeEighthLaid (by kernel_rfl) (of_decide_eq_true (by kernel_rfl)) k1 bel lt1) (trodAll_cons_mk (Below.trod feeEighthLaid (by kernel_rfl) (of_decide_eq_true (by kernel_rfl)) k2 bel lt2) trodAll_mk0))), rfl, bel.frame _, fun h => by cases h⟩

theorem feeEighthClosed : joinedFacts Try.pinned.checked.prog 13 Try.f13 Rows.feeEighthSpec Rows.feeEighthRow = true := by
  simp only [joinedFacts, Bool.and_eq_true, and_assoc]
  exact ⟨by kernel_rfl, by kernel_rfl, by kernel_rfl, by kernel_rfl, by kernel_rfl, by kernel_rfl, by kernel_rfl, by kernel_rfl, by kernel_rfl, by kernel_rfl, by kernel_rfl, by kernel_rfl, by kernel_rfl, by kernel_rfl, by kernel_rfl, by kernel_rfl, by kernel_rfl, by kernel_rfl, by kernel_rfl, by kernel_rfl, by kernel_rfl, by kernel_rfl, by kernel_rfl, by kernel_rfl, by kernel_rfl, cutEnter, (show (Rows.feeEighthRow.lifted == Try.prog.liftsFinal) = true by rw [cutFinal]; rfl), (show (Try.prog.make == some Rows.feeEighthRow.make) = true by rw [cutMake]; rfl), by kernel_rfl, by kernel_rfl, by kernel_rfl, by kernel_rfl⟩

theorem feeEighthOver : Rows.feeEighthRow.holds Try.pinned (OpenSpec.ofChange Rows.feeEighthSpec) :=
  OpenClaim.holds_of_wide 13 Try.f13 rfl rfl rfl rfl rfl rfl rfl ⟨rfl, rfl, rfl, rfl, rfl⟩ rfl rfl rfl rfl rfl (by kernel_rfl) Try.func13 feeEighthClosed
    (of_decide_eq_true (by kernel_rfl)) (by unfold Func.isWrapper; first | (rw [if_pos (by decide +kernel)]; kernel_rfl) | (rw [if_neg (by decide +kernel)]; exact ⟨rfl, rfl⟩))
    (fun os started H enc _ => feeEighthLifted os started H enc)

/-- The statement. -/
theorem feeEighthProved : Rows.FeeEighthSaid := feeEighthOver
#print axioms feeEighthProved

end Go.Proofs.Ytijoifajbmhgdaa
