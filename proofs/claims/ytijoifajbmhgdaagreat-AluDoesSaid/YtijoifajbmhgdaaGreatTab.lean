/- This program's types, as the small machine asks them; the environment of a proof. -/
import Derived.Test.YtijoifajbmhgdaaGreatRows
import Derived.Test.YtijoifajbmhgdaaGreatSymH
namespace Go.Proofs.YtijoifajbmhgdaaGreat.Sym
set_option linter.unusedSimpArgs false
set_option linter.unusedVariables false
open Go Go.RowKit
set_option maxRecDepth 10000

def tys : List (TypeId × Ty) :=
   (24, .arr .u64 4 22) ::
   (3, .int .i64) ::
   (22, .int .u64) ::
   (36, .arr .i64 32 3) ::
   (4, .bool) ::
   (5, .int .u8) ::
   (66, .int .u64) ::
   (53, .sl .i64 3) ::
   (59, .arr .i64 256 3) ::
   (83, .arr .u8 32 5) ::
   (33, .arr .u64 4 22) ::
   (67, .arr .u64 8 22) ::
   (31, .func) ::
   (9, .str) ::
   []

def TysOk (P : Program) : List (TypeId × Ty) → Prop
  | [] => True
  | (t, y) :: r => TyOk P t y ∧ TysOk P r

theorem TysOk.get {P : Program} : ∀ {l : List (TypeId × Ty)}, TysOk P l → ∀ t y, look l t = some y → TyOk P t y
  | [], _, _, _, h => by simp [look] at h
  | (t', y') :: r, hl, t, y, h => by
    simp only [look] at h
    by_cases e : t' = t
    · subst e; rw [if_pos rfl] at h; injection h with h; subst h; exact hl.1
    · rw [if_neg e] at h; exact hl.2.get t y h

theorem tys_ok : TysOk Tryz.prog tys := by
  refine And.intro ?_ ?_
  · exact ⟨by kernel_rfl, by kernel_rfl, by kernel_rfl, by kernel_rfl, by kernel_rfl⟩
  refine And.intro ?_ ?_
  · exact ⟨by kernel_rfl, by kernel_rfl⟩
  refine And.intro ?_ ?_
  · exact ⟨by kernel_rfl, by kernel_rfl⟩
  refine And.intro ?_ ?_
  · exact ⟨by kernel_rfl, by kernel_rfl, by kernel_rfl, by kernel_rfl, by kernel_rfl⟩
  refine And.intro ?_ ?_
  · show Tryz.prog.underlying _ = _; kernel_rfl
  refine And.intro ?_ ?_
  · exact ⟨by kernel_rfl, by kernel_rfl⟩
  refine And.intro ?_ ?_
  · exact ⟨by kernel_rfl, by kernel_rfl⟩
  refine And.intro ?_ ?_
  · exact ⟨by kernel_rfl, by kernel_rfl, by kernel_rfl, of_decide_eq_true (by kernel_rfl)⟩
  refine And.intro ?_ ?_
  · exact ⟨by kernel_rfl, by kernel_rfl, by kernel_rfl, by kernel_rfl, by kernel_rfl⟩
  refine And.intro ?_ ?_
  · exact ⟨by kernel_rfl, by kernel_rfl, by kernel_rfl, by kernel_rfl, by kernel_rfl⟩
  refine And.intro ?_ ?_
  · exact ⟨by kernel_rfl, by kernel_rfl, by kernel_rfl, by kernel_rfl, by kernel_rfl⟩
  refine And.intro ?_ ?_
  · exact ⟨by kernel_rfl, by kernel_rfl, by kernel_rfl, by kernel_rfl, by kernel_rfl⟩
  refine And.intro ?_ ?_
  · unfold TyOk; rw [Tryz.underlying31]
  refine And.intro ?_ ?_
  · show Tryz.prog.underlying _ = _; kernel_rfl
  exact trivial

theorem mixed : Tryz.prog.follows .mixedOrders = true := by kernel_rfl

theorem ty_get (t : TypeId) (y : Ty) (h : look tys t = some y) : TyOk Tryz.prog t y := TysOk.get tys_ok t y h

theorem env_good {fs : Fs} (h : FsOk Tryz.prog fs) : (Env.mk Tryz.prog tys fs).Good := good_of ty_get h mixed

/-- The form in which a function is proved. -/
theorem fun_ok (fs : Fs) (h : FsOk Tryz.prog fs) {g : FuncId} {fn : Func} {c : Code} {s : List AV → SOut} (hf : Tryz.prog.funcs[g]? = some fn) (hb : fn.body = some c) (hn : (fn.name == "runtime.NumGoroutine") = false)
    {sz : Nat} (hsz : fn.ntmps = sz) {rs : List ResultVar} (hrs : fn.results = rs.toArray)
    (hh : ∀ E : Env, E.Good → E.ty = tys → E.fs = fs → ∀ xs, (s xs).pre → xs.length ≤ sz ∧ ∀ Q : Exit → St → Prop, (∀ σ, resOk E rs σ (s xs).v → Q .ret σ) → Tri E sz c Q ⟨params 0 xs, []⟩) : Contract Tryz.prog g s :=
  fun_of ty_get h mixed hf hb hn hsz hrs hh

theorem ty24 : look tys 24 = some (.arr .u64 4 22) := rfl
theorem ty3 : look tys 3 = some (.int .i64) := rfl
theorem ty22 : look tys 22 = some (.int .u64) := rfl
theorem ty36 : look tys 36 = some (.arr .i64 32 3) := rfl
theorem ty4 : look tys 4 = some (.bool) := rfl
theorem ty5 : look tys 5 = some (.int .u8) := rfl
theorem ty66 : look tys 66 = some (.int .u64) := rfl
theorem ty53 : look tys 53 = some (.sl .i64 3) := rfl
theorem ty59 : look tys 59 = some (.arr .i64 256 3) := rfl
theorem ty83 : look tys 83 = some (.arr .u8 32 5) := rfl
theorem ty33 : look tys 33 = some (.arr .u64 4 22) := rfl
theorem ty67 : look tys 67 = some (.arr .u64 8 22) := rfl
theorem ty31 : look tys 31 = some (.func) := rfl
theorem ty9 : look tys 9 = some (.str) := rfl

/-- All of them. -/
theorem tyAll :
    (look tys 24 = some (.arr .u64 4 22)) ∧
    (look tys 3 = some (.int .i64)) ∧
    (look tys 22 = some (.int .u64)) ∧
    (look tys 36 = some (.arr .i64 32 3)) ∧
    (look tys 4 = some (.bool)) ∧
    (look tys 5 = some (.int .u8)) ∧
    (look tys 66 = some (.int .u64)) ∧
    (look tys 53 = some (.sl .i64 3)) ∧
    (look tys 59 = some (.arr .i64 256 3)) ∧
    (look tys 83 = some (.arr .u8 32 5)) ∧
    (look tys 33 = some (.arr .u64 4 22)) ∧
    (look tys 67 = some (.arr .u64 8 22)) ∧
    (look tys 31 = some (.func)) ∧
    (look tys 9 = some (.str)) :=
  ⟨
   rfl,
   rfl,
   rfl,
   rfl,
   rfl,
   rfl,
   rfl,
   rfl,
   rfl,
   rfl,
   rfl,
   rfl,
   rfl,
   rfl⟩

end Go.Proofs.YtijoifajbmhgdaaGreat.Sym
