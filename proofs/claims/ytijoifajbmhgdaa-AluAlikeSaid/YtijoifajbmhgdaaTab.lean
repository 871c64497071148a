/- This program's types, as the small machine asks them; the environment of a proof. -/
import Derived.Test.YtijoifajbmhgdaaRows
import Derived.Test.YtijoifajbmhgdaaSymH
namespace Go.Proofs.Ytijoifajbmhgdaa.Sym
set_option linter.unusedSimpArgs false
set_option linter.unusedVariables false
open Go Go.RowKit
set_option maxRecDepth 10000

def tys : List (TypeId × Ty) :=
   (24, .arr .u64 4 22) ::
   (3, .int .i64) ::
   (22, .int .u64) ::
   (28, .arr .i64 32 3) ::
   (4, .bool) ::
   (5, .int .u8) ::
   (33, .int .u64) ::
   (64, .sl .i64 3) ::
   (85, .arr .i64 256 3) ::
   (41, .arr .u8 32 5) ::
   (40, .sl .u8 5) ::
   (90, .arr .u64 4 22) ::
   (95, .arr .u64 8 22) ::
   (88, .func) ::
   (9, .str) ::
   []

def TysOk (P : Program) : List (TypeId × Ty) → Prop
  | [] => True
  | (t, y) :: r => TyOk P t y ∧ TysOk P r

theorem TysOk.get {P : Program} : ∀ {l : List (TypeId × Ty)}, TysOk P l → ∀ t y, look l t = some y → TyOk P t y
  | [], _, _, _, h => by simp [look] at h
  | (t', y') :: r, hl, t, y, h => by
    simp only [look] at h
    by_cases e : t' = t
    · subst e; rw [if_pos rfl] at h; injection h with h; subst h; exact hl.1
    · rw [if_neg e] at h; exact hl.2.get t y h

theorem tys_ok : TysOk Try.prog tys := by
  refine And.intro ?_ ?_
  · exact ⟨by kernel_rfl, by kernel_rfl, by kernel_rfl, by kernel_rfl, by kernel_rfl⟩
  refine And.intro ?_ ?_
  · exact ⟨by kernel_rfl, by kernel_rfl⟩
  refine And.intro ?_ ?_
  · exact ⟨by kernel_rfl, by kernel_rfl⟩
  refine And.intro ?_ ?_
  · exact ⟨by kernel_rfl, by kernel_rfl, by kernel_rfl, by kernel_rfl, by kernel_rfl⟩
  refine And.intro ?_ ?_
  · show Try.prog.underlying _ = _; kernel_rfl
  refine And.intro ?_ ?_
  · exact ⟨by kernel_rfl, by kernel_rfl⟩
  refine And.intro ?_ ?_
  · exact ⟨by kernel_rfl, by kernel_rfl⟩
  refine And.intro ?_ ?_
  · exact ⟨by kernel_rfl, by kernel_rfl, by kernel_rfl, of_decide_eq_true (by kernel_rfl)⟩
  refine And.intro ?_ ?_
  · exact ⟨by kernel_rfl, by kernel_rfl, by kernel_rfl, by kernel_rfl, by kernel_rfl⟩
  refine And.intro ?_ ?_
  · exact ⟨by kernel_rfl, by kernel_rfl, by kernel_rfl, by kernel_rfl, by kernel_rfl⟩
  refine And.intro ?_ ?_
  · exact ⟨by kernel_rfl, by kernel_rfl, by kernel_rfl, of_decide_eq_true (by kernel_rfl)⟩
  refine And.intro ?_ ?_
  · exact ⟨by kernel_rfl, by kernel_rfl, by kernel_rfl, by kernel_rfl, by kernel_rfl⟩
  refine And.intro ?_ ?_
  · exact ⟨by kernel_rfl, by kernel_rfl, by kernel_rfl, by kernel_rfl, by kernel_rfl⟩
  refine And.intro ?_ ?_
  · unfold TyOk; rw [Try.underlying88]
  refine And.intro ?_ ?_
  · show Try.prog.underlying _ = _; kernel_rfl
  exact trivial

theorem mixed : Try.prog.follows .mixedOrders = true := by kernel_rfl

theorem ty_get (t : TypeId) (y : Ty) (h : look tys t = some y) : TyOk Try.prog t y := TysOk.get tys_ok t y h

theorem env_good {fs : Fs} (h : FsOk Try.prog fs) : (Env.mk Try.prog tys fs).Good := good_of ty_get h mixed

/-- The form in which a function is proved. -/
theorem fun_ok (fs : Fs) (h : FsOk Try.prog fs) {g : FuncId} {fn : Func} {c : Code} {s : List AV → SOut} (hf : Try.prog.funcs[g]? = some fn) (hb : fn.body = some c) (hn : (fn.name == "runtime.NumGoroutine") = false)
    {sz : Nat} (hsz : fn.ntmps = sz) {rs : List ResultVar} (hrs : fn.results = rs.toArray)
    (hh : ∀ E : Env, E.Good → E.ty = tys → E.fs = fs → ∀ xs, (s xs).pre → xs.length ≤ sz ∧ ∀ Q : Exit → St → Prop, (∀ σ, resOk E rs σ (s xs).v → Q .ret σ) → Tri E sz c Q ⟨params 0 xs, []⟩) : Contract Try.prog g s :=
  fun_of ty_get h mixed hf hb hn hsz hrs hh

theorem ty24 : look tys 24 = some (.arr .u64 4 22) := rfl
theorem ty3 : look tys 3 = some (.int .i64) := rfl
theorem ty22 : look tys 22 = some (.int .u64) := rfl
theorem ty28 : look tys 28 = some (.arr .i64 32 3) := rfl
theorem ty4 : look tys 4 = some (.bool) := rfl
theorem ty5 : look tys 5 = some (.int .u8) := rfl
theorem ty33 : look tys 33 = some (.int .u64) := rfl
theorem ty64 : look tys 64 = some (.sl .i64 3) := rfl
theorem ty85 : look tys 85 = some (.arr .i64 256 3) := rfl
theorem ty41 : look tys 41 = some (.arr .u8 32 5) := rfl
theorem ty40 : look tys 40 = some (.sl .u8 5) := rfl
theorem ty90 : look tys 90 = some (.arr .u64 4 22) := rfl
theorem ty95 : look tys 95 = some (.arr .u64 8 22) := rfl
theorem ty88 : look tys 88 = some (.func) := rfl
theorem ty9 : look tys 9 = some (.str) := rfl

/-- All of them. -/
theorem tyAll :
    (look tys 24 = some (.arr .u64 4 22)) ∧
    (look tys 3 = some (.int .i64)) ∧
    (look tys 22 = some (.int .u64)) ∧
    (look tys 28 = some (.arr .i64 32 3)) ∧
    (look tys 4 = some (.bool)) ∧
    (look tys 5 = some (.int .u8)) ∧
    (look tys 33 = some (.int .u64)) ∧
    (look tys 64 = some (.sl .i64 3)) ∧
    (look tys 85 = some (.arr .i64 256 3)) ∧
    (look tys 41 = some (.arr .u8 32 5)) ∧
    (look tys 40 = some (.sl .u8 5)) ∧
    (look tys 90 = some (.arr .u64 4 22)) ∧
    (look tys 95 = some (.arr .u64 8 22)) ∧
    (look tys 88 = some (.func)) ∧
    (look tys 9 = some (.str)) :=
  ⟨
   rfl,
   rfl,
   rfl,
   rfl,
   rfl,
   rfl,
   rfl,
   rfl,
   rfl,
   rfl,
   rfl,
   rfl,
   rfl,
   rfl,
   rfl⟩

end Go.Proofs.Ytijoifajbmhgdaa.Sym
