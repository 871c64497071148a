/- Whatever two words and number are given, the law on instructions that are alike answers true. The input reads as it did. Conditions: none beyond those of the given statement. -/
import Derived.Test.YtijoifajbmhgdaaRows
import Derived.Test.YtijoifajbmhgdaaAd
import Derived.Test.YtijoifajbmhgdaaLift
import Derived.Test.YtijoifajbmhgdaaInit
namespace Go.Proofs.Ytijoifajbmhgdaa
open Go Go.RowKit Num Go.ChangeShapes Go.WideShapes Go.ChangeAt Sym
set_option linter.unusedVariables false
set_option linter.unusedSimpArgs false

theorem aluAlikeOwn : ownKnob Try.prog.godebug = none := by kernel_rfl
theorem aluAlikeLaid : laidOutB Try.prog = true := by kernel_rfl

set_option maxRecDepth 100000 in
theorem aluAlikeLifted (os : Os) (started : os.Started) (H : Type) (enc : TypeId × Value → H) :
    ReturnsInHanded {} Try.checked os 26 .any (Rows.aluAlikeSpec.pre6 enc Try.prog Try.f26 Rows.aluAlikeRow.domain false) (Rows.aluAlikeSpec.post enc Try.prog Try.f26 false true false false) := by
  refine returnsInHanded_of_change (C := Try.checked) aluAlikeOwn started (by kernel_rfl) Try.func26
    (ChangeSpec.witness6 (enc := enc) (C := Try.checked) false ⟨#[], #[.agg #[.int .u64 0, .int .u64 0, .int .u64 0, .int .u64 0], .agg #[.int .u64 0, .int .u64 0, .int .u64 0, .int .u64 0], .int .u8 0], []⟩ 8 (by kernel_rfl) (by kernel_rfl) (by kernel_rfl) (by kernel_rfl)) ?_
  intro W0 base args ds gs before hval0 hW hcnd _
  have hval : ∀ (j : Nat) t v, Try.f26.params[j]? = some t → args[j]? = some v → Value.okWide Try.prog W0 .any base t v := hval0
  have hW' := hW
  obtain ⟨p, q, hA0, hV, rfl, hfz, hnd⟩ := hW
  have hA : DataW.TrodAll enc Try.prog W0 0 (fun _ => true) true Try.f26.params.toList args.toList ds p := hA0
  rw [Try.params26] at hA hval
  obtain ⟨v0, vs0, d0, ds0, p0, q0, hargs, rfl, rfl, h0, r0⟩ := trodAll_cons hA
  obtain ⟨v1, vs1, d1, ds1, p1, q1, rfl, rfl, rfl, h1, r1⟩ := trodAll_cons r0
  obtain ⟨v2, vs2, d2, ds2, p2, q2, rfl, rfl, rfl, h2, r2⟩ := trodAll_cons r1
  obtain ⟨rfl, rfl, rfl⟩ := trodAll_nil r2
  obtain rfl : args = #[v0, v1, v2] := by cases args; simp_all
  obtain ⟨rfl, rfl⟩ := trodVars_none hV
  have k0 := h0
  have lt0 : ∀ x ∈ p0, x.block < W0.heap.size := by obtain ⟨m, hm⟩ := k0; exact DataW.trod_lt m _ _ _ hm
  obtain ⟨f0, w0, e0⟩ := arg_word h0
  have k1 := h1
  have lt1 : ∀ x ∈ p1, x.block < W0.heap.size := by obtain ⟨m, hm⟩ := k1; exact DataW.trod_lt m _ _ _ hm
  obtain ⟨f1, w1, e1⟩ := arg_word h1
  have k2 := h2
  have lt2 : ∀ x ∈ p2, x.block < W0.heap.size := by obtain ⟨m, hm⟩ := k2; exact DataW.trod_lt m _ _ _ hm
  obtain ⟨f2, w2, e2⟩ := arg_u8 (hval 2 5 v2 rfl rfl) h2
  clear hA0 hval0
  refine (walk_of c_AluAlike Try.func26 (by kernel_rfl) (by kernel_rfl) (xs := [.arr .u64 4 f0, .arr .u64 4 f1, .int .u8 f2]) (vs := #[v0, v1, v2]) (w := W0) ⟨e0, e1, e2, trivial⟩ rfl ⟨w0, w1, w2⟩ rfl).mono fun e W1 ⟨he, bel⟩ => ?_
  subst he
  exact ⟨_, rfl, _, _, _, [], _, [], hW', trodAll_mk1 (shut_bool Try.underlying4 _), (trodAll_cons_mk (Below.trod aluAlikeLaid (by kernel_rfl) (of_decide_eq_true (by kernel_rfl)) k0 bel lt0) (trodAll_cons_mk (Below.trod aluAlikeLaid (by kernel_rfl) (of_decide_eq_true (by kernel_rfl)) k1 bel lt1) (trodAll_cons_mk (Below.trod aluAlikeLaid (by kernel_rfl) (of_decide_eq_true (by kernel_rfl)) k2 bel lt2) trodAll_mk0))), rfl, bel.frame _, fun h => by cases h⟩

theorem aluAlikeClosed : joinedFacts Try.pinned.checked.prog 26 Try.f26 Rows.aluAlikeSpec Rows.aluAlikeRow = true := by
  simp only [joinedFacts, Bool.and_eq_true, and_assoc]
  exact ⟨by kernel_rfl, by kernel_rfl, by kernel_rfl, by kernel_rfl, by kernel_rfl, by kernel_rfl, by kernel_rfl, by kernel_rfl, by kernel_rfl, by kernel_rfl, by kernel_rfl, by kernel_rfl, by kernel_rfl, by kernel_rfl, by kernel_rfl, by kernel_rfl, by kernel_rfl, by kernel_rfl, by kernel_rfl, by kernel_rfl, by kernel_rfl, by kernel_rfl, by kernel_rfl, by kernel_rfl, by kernel_rfl, cutEnter, (show (Rows.aluAlikeRow.lifted == Try.prog.liftsFinal) = true by rw [cutFinal]; rfl), (show (Try.prog.make == some Rows.aluAlikeRow.make) = true by rw [cutMake]; rfl), by kernel_rfl, by kernel_rfl, by kernel_rfl, by kernel_rfl⟩

theorem aluAlikeOver : Rows.aluAlikeRow.holds Try.pinned (OpenSpec.ofChange Rows.aluAlikeSpec) :=
  OpenClaim.holds_of_wide 26 Try.f26 rfl rfl rfl rfl rfl rfl rfl ⟨rfl, rfl, rfl, rfl, rfl⟩ rfl rfl rfl rfl rfl (by kernel_rfl) Try.func26 aluAlikeClosed
    (of_decide_eq_true (by kernel_rfl)) (by unfold Func.isWrapper; first | (rw [if_pos (by decide +kernel)]; kernel_rfl) | (rw [if_neg (by decide +kernel)]; exact ⟨rfl, rfl⟩))
    (fun os started H enc _ => aluAlikeLifted os started H enc)

/-- The statement. -/
theorem aluAlikeProved : Rows.AluAlikeSaid := aluAlikeOver
#print axioms aluAlikeProved

end Go.Proofs.Ytijoifajbmhgdaa
