/- From what a law's function does to known values to its row: the arguments, opened. -/
import Derived.Test.YtijoifajbmhgdaaGreatEv
import Derived.Test.YtijoifajbmhgdaaGreatNum
import Derived.ProofKit
import Derived.OpenShut
import Derived.ShutString
import Derived.ChangeOld
import Derived.Below
namespace Go.Proofs.YtijoifajbmhgdaaGreat.Sym
open Go Go.RowKit Num Go.ChangeShapes Go.WideShapes Go.ChangeAt
set_option maxRecDepth 10000
set_option linter.unusedSimpArgs false
set_option linter.unusedVariables false

section
variable {H : Type} {enc : TypeId × Value → H} {P : Program} {w : World} {base : Nat} {spare : Nat → Bool} {held : Bool}

theorem agg_of {v : Value} {n : Nat} (hn : n ≠ 1) (h : v.cells.toList.length = n) : ∃ cs, v = .agg cs := by
  cases v <;> first | exact ⟨_, rfl⟩ | (exfalso; apply hn; rw [← h]; rfl)

theorem open_nums {t e : TypeId} {n : Nat} {k : IntKind} {v : Value} {d : DataW H} {p : List MemPlace} (ht : P.underlying t = some (.array n e)) (he : P.underlying e = some (.int k)) (hce : P.cellsOf e = 1) (hct : P.cellsOf t = n) (hn : n ≠ 1)
    (h : DataW.Trod enc P w base spare held t v d p) : ∃ f, v = .agg (cells k n f) ∧ ∀ j, j < n → (Lit.int k (f j)).wf = true := by
  obtain ⟨fuel, hf⟩ := h
  obtain ⟨xs, m, _, _, hlen, _, hx⟩ := DataW.trod_array ht hf
  rw [hct] at hlen
  obtain ⟨cs, rfl⟩ := agg_of hn hlen
  have hsz : cs.size = n := by simpa [Value.cells] using hlen
  have each : ∀ i, i < n → ∃ z, cs[i]? = some (.int k z) ∧ (Lit.int k z).wf = true := fun i hi => by
    have := hx i hi
    rw [hce, Nat.mul_one] at this
    cases hxi : xs[i]? with
    | none =>
      rw [List.getElem?_eq_none_iff] at hxi
      omega
    | some y =>
      rw [hxi] at this
      obtain ⟨z, hz, _, hw⟩ := DataW.trod_int he this
      refine ⟨z, ?_, hw⟩
      simp only [Value.cells] at hz
      have h0 : ((cs.toList.drop i).take 1)[0]? = some (.int k z) := by rw [hz]; rfl
      rw [List.getElem?_take_of_lt (by omega), List.getElem?_drop, Nat.add_zero, Array.getElem?_toList] at h0
      exact h0
  refine ⟨fun i => match cs[i]? with | some (.int _ z) => z | _ => 0, ?_, fun j hj => ?_⟩
  · congr 1
    refine eq_cells hsz fun j hj => ?_
    obtain ⟨z, hz, _⟩ := each j hj
    rw [hz]
  · obtain ⟨z, hz, hw⟩ := each j hj
    simp only [hz]; exact hw

end

section
variable {H : Type} {enc : TypeId × Value → H} {w : World} {base : Nat} {spare : Nat → Bool} {held : Bool} {d : DataW H} {p : List MemPlace} {v : Value}

theorem wf_u64 {z : Int} (h : (Lit.int .u64 z).wf = true) : 0 ≤ z ∧ z < 18446744073709551616 := by
  simp [Lit.wf, IntKind.min, IntKind.max, IntKind.signed, IntKind.bits] at h; omega
theorem wf_u8 {z : Int} (h : (Lit.int .u8 z).wf = true) : 0 ≤ z ∧ z < 256 := by
  simp [Lit.wf, IntKind.min, IntKind.max, IntKind.signed, IntKind.bits] at h; omega

theorem arg_word (h : DataW.Trod enc Tryz.prog w base spare held 24 v d p) : ∃ f, W f ∧ den w (fun _ => 0) (fun _ => False) (.arr .u64 4 f) v := by
  obtain ⟨f, hv, hw⟩ := open_nums Tryz.underlying24 Tryz.underlying22 (by kernel_rfl) (by kernel_rfl) (by decide) h
  exact ⟨f, fun j hj => wf_u64 (hw j hj), hv⟩

theorem arg_u64 {r : Reach} {b0 : Nat} (hval : Value.okWide Tryz.prog w r b0 22 v) (h : DataW.Trod enc Tryz.prog w base spare held 22 v d p) : ∃ z, (0 ≤ z ∧ z < 18446744073709551616) ∧ den w (fun _ => 0) (fun _ => False) (.int .u64 z) v := by
  obtain ⟨z, hv, _, _, hw⟩ := open_int Tryz.underlying22 hval h
  exact ⟨z, wf_u64 hw, hv⟩
theorem arg_uint {r : Reach} {b0 : Nat} (hval : Value.okWide Tryz.prog w r b0 66 v) (h : DataW.Trod enc Tryz.prog w base spare held 66 v d p) : ∃ z, (0 ≤ z ∧ z < 18446744073709551616) ∧ den w (fun _ => 0) (fun _ => False) (.int .u64 z) v := by
  obtain ⟨z, hv, _, _, hw⟩ := open_int Tryz.underlying66 hval h
  exact ⟨z, wf_u64 hw, hv⟩
theorem arg_u8 {r : Reach} {b0 : Nat} (hval : Value.okWide Tryz.prog w r b0 5 v) (h : DataW.Trod enc Tryz.prog w base spare held 5 v d p) : ∃ z, (0 ≤ z ∧ z < 256) ∧ den w (fun _ => 0) (fun _ => False) (.int .u8 z) v := by
  obtain ⟨z, hv, _, _, hw⟩ := open_int Tryz.underlying5 hval h
  exact ⟨z, wf_u8 hw, hv⟩

end

/-- A law's walk. -/
theorem walk_of {g : FuncId} {fn : Func} {s : List AV → SOut} (hc : Contract Tryz.prog g s) (hf : Tryz.prog.funcs[g]? = some fn) (hb : fn.body.isSome = true) (hn : (fn.name == "runtime.NumGoroutine") = false)
    {xs : List AV} {vs : Array Value} {w : World} (hd : Dens w (fun _ => False) xs vs.toList) (hp : xs.all (·.pureA) = true) (hpre : (s xs).pre) (hv : (s xs).v = .bool true) :
    Calls Tryz.prog g vs w fun e w' => e = .returned (.bool true) ∧ Below w.heap.size w w' := by
  have h := hc xs vs.toList w (fun _ => False) (fun _ h => h.elim) hp hd hpre
  obtain ⟨c, hb⟩ := Option.isSome_iff_exists.1 hb
  rw [Array.toArray_toList] at h
  have hcf : (callFunc g vs).run Tryz.prog w = .ok (.enter g vs) w := by
    have h1 : fn.name ≠ "runtime.NumGoroutine" := by simpa using hn
    simp [callFunc, hf, h1, hb]
  unfold Calls' at h
  rw [hcf] at h
  obtain ⟨_, h⟩ := h
  refine h.mono fun e w' hq => ?_
  cases e with
  | returned v =>
    simp only at hq
    obtain ⟨q1, _, q2⟩ := hq
    rw [hv] at q1
    simp only [den] at q1
    exact ⟨by rw [q1], q2⟩
  | _ => exact hq.elim

end Go.Proofs.YtijoifajbmhgdaaGreat.Sym
