/- One operation that writes no row: from a state that is known to the state that the small machine says. -/
import Derived.Test.YtijoifajbmhgdaaGreatSymC
namespace Go.Proofs.YtijoifajbmhgdaaGreat.Sym
open Go Go.RowKit
set_option linter.unusedSimpArgs false
set_option linter.unusedVariables false

theorem evA_den {C : Ctx} {F : Nat → AV} {R : Nat → Option Row} {β : Nat → Nat} {a : Act} {w : World} (h : RepB C F R β a w) (x : Operand) : den w β (own C R β) (evA F x) (a.eval x) := by
  cases x with
  | tmp t => exact h.slot t
  | const v =>
    simp only [evA, Act.eval]
    unfold constA
    split
    · rfl
    · rfl
    · rfl
    · exact ⟨none, 0, rfl, Nat.le_refl _, .inl rfl⟩
    · rfl
    · trivial
  | global g => trivial
  | func g => rfl

theorem evA_refs {F : Nat → AV} {R : Nat → Option Row} (h : ∀ s id, (F s).refs id = true → R id ≠ none) (x : Operand) (id : Nat) (hi : (evA F x).refs id = true) : R id ≠ none := by
  cases x with
  | tmp t => exact h t id hi
  | const v =>
    simp only [evA] at hi
    unfold constA at hi
    split at hi <;> simp [AV.refs] at hi
  | global g => simp [evA, AV.refs] at hi
  | func g => simp [evA, AV.refs] at hi

theorem pure_refs : ∀ (x : AV), x.pureA = true → ∀ id, x.refs id = false
  | .und, _, _ => rfl
  | .skp, _, _ => rfl
  | .int _ _, _, _ => rfl
  | .bool _, _, _ => rfl
  | .arr _ _ _, _, _ => rfl
  | .elt _ _, h, _ => by simp [AV.pureA] at h
  | .sl _ _ _, h, _ => by simp [AV.pureA] at h
  | .rsl _ _ _, _, _ => rfl
  | .pt _ _, _, _ => rfl
  | .pa _ _ _, _, _ => rfl
  | .str _, _, _ => rfl
  | .pair a b, h, id => by
    simp [AV.pureA] at h
    simp [AV.refs, pure_refs a h.1 id, pure_refs b h.2 id]
  | .fn _, _, _ => rfl
  | .nilfn, _, _ => rfl

/-- Of a value that names no row the numbers of the rows' blocks say nothing. -/
theorem den_pure {w : World} {O O' : Nat → Prop} (hO : ∀ b, ¬ O b → ¬ O' b) (x : AV) (h : x.pureA = true) (β β' : Nat → Nat) (v : Value) (hv : den w β O x v) : den w β' O' x v :=
  den_change (fun b _ ho => ⟨hO b ho, rfl⟩) x (fun id hi => by rw [pure_refs x h id] at hi; cases hi) v hv

theorem pickA_eq (t : Bool) (a b : AV) : pickA t a b = if t = true then a else b := by
  cases t <;> cases a <;> cases b <;> rfl

section
variable {E : Env} {C : Ctx} {F : Nat → AV} {R : Nat → Option Row} {β : Nat → Nat} {a : Act} {w w' : World} {o : Oper} {d : Nat} {K : Act → World → Prop} {Q : Exit → Act → World → Prop}

theorem fin_put {x : Value} {v : AV} (hB : RepB C F R β a w) (hd : o.dst = some d) (hlt : d < C.sz) (hK : ∀ a' w', Rep C (updF F d v) R a' w' → K a' w') (hrun : (execOp a.eval o).run E.P w = .ok (.value x) w)
    (hx : den w β (own C R β) v x) (hv : ∀ id, v.refs id = true → R id ≠ none) : o.wp E.P a w K Q := by
  unfold Oper.wp
  rw [hrun]
  simp only [Oper.upon, hd]
  exact hK _ _ ⟨β, hB.put (Below.refl _ _) hlt hx hv⟩

theorem fin_new {x : Value} {v : AV} {c : Array Value} {t : TypeId} {r : Row} (hB : RepB C F R β a w) (hd : o.dst = some d) (hlt : d < C.sz) (hf : R d = none)
    (hrun : (execOp a.eval o).run E.P w = .ok (.value x) (w.alloc (.cells c t))) (hn : r.n ≤ c.size) (hc : ∀ j, j < r.n → c[j]? = some (.int r.k (r.f j)))
    (hx : ∀ O, den (w.alloc (.cells c t)) (updF β d w.heap.size) O v x) (hv : ∀ i, v.refs i = true → i = d)
    (hK : ∀ a' w', Rep C (updF F d v) (updF R d (some r)) a' w' → K a' w') : o.wp E.P a w K Q := by
  unfold Oper.wp
  rw [hrun]
  simp only [Oper.upon, hd]
  exact hK _ _ ⟨_, hB.new hlt hf hn hc (hx _) hv⟩

theorem own_lt (hB : RepB C F R β a w) : ∀ b, own C R β b → b < w.heap.size := by
  rintro b (h | ⟨id, hi, rfl⟩)
  · have := C.hO b h
    have := hB.below.size
    omega
  · exact hB.lt hi

theorem row_cell {r : Row} {id : Nat} (hB : RepB C F R β a w) (hr : R id = some r) : ∃ c t, w.heap[β id]? = some (.cells c t (0, 0)) ∧ r.n ≤ c.size ∧ ∀ j, j < r.n → w.cell? ⟨β id, j, none⟩ = some (.int r.k (r.f j)) := by
  obtain ⟨c, t, hh, hn, hc⟩ := hB.row id r hr
  exact ⟨c, t, hh, hn, fun j hj => by rw [cell_row hh]; exact hc j hj⟩

theorem dens_of (hB : RepB C F R β a w) : ∀ (xs : List Operand), (argsA F xs).all (·.pureA) = true → Dens w (own C R β) (argsA F xs) (xs.map a.eval)
  | [], _ => trivial
  | x :: xs, h => by
    simp only [argsA, List.map_cons, List.all_cons, Bool.and_eq_true] at h
    exact ⟨den_pure (fun _ k => k) _ h.1 β _ _ (evA_den hB x), dens_of hB xs h.2⟩

theorem call_sound (hE : E.Ok) (hB : RepB C F R β a w) (f : Operand) (args : Array Operand) (ats : Array TypeId) (ty : TypeId) (pos : String) (after : Array Edge) (gd : Option (Nat × Bool)) (hlt : d < C.sz)
    (hp : (hdCallF E.fs (evA F f) (argsA F args.toList)).pre)
    (hK : ∀ a' w', Rep C (updF F d (hdCallF E.fs (evA F f) (argsA F args.toList)).v) R a' w' → K a' w') :
    (Oper.mk (some d) (.call ⟨.value f, args, ats⟩) ty pos after gd).wp E.P a w K Q := by
  have hf := evA_den hB f
  unfold hdCallF at hp hK
  split at hp
  case h_2 => exact hp.elim
  rename_i g hg
  rw [hg] at hf hK
  simp only [den] at hf
  split at hp
  case h_2 => exact hp.elim
  rename_i s hs
  simp only [hs] at hK
  obtain ⟨hpure, hpre⟩ := hp
  have hc := hE.fs g s hs (argsA F args.toList) (args.toList.map a.eval) w (own C R β) (own_lt hB) hpure (dens_of hB _ hpure) hpre
  have hargs : (args.toList.map a.eval).toArray = args.map a.eval := by apply Array.ext' ; simp
  rw [hargs] at hc
  have hrun : (execOp a.eval (Oper.mk (some d) (.call ⟨.value f, args, ats⟩) ty pos after gd)).run E.P w = (callFunc g (args.map a.eval)).run E.P w := by
    simp [execOp, resolve, hf, Deferred.ofValue, invoke]
  unfold Oper.wp
  rw [hrun]
  unfold Calls' at hc
  split at hc
  · rename_i v w1 hv
    rw [hv]
    simp only [Oper.upon]
    exact hK _ _ ⟨β, hB.put hc.2.2 hlt (den_pure (fun _ k => k) _ hc.2.1 _ _ _ hc.1) (fun id hi => by rw [pure_refs _ hc.2.1 id] at hi; cases hi)⟩
  · rename_i f' as w1 hv
    obtain ⟨rfl, hc⟩ := hc
    rw [hv]
    simp only [Oper.upon]
    refine hc.mono fun e w2 he => ?_
    cases e with
    | returned v =>
      exact hK _ _ ⟨β, hB.put he.2.2 hlt (den_pure (fun _ k => k) _ he.2.1 _ _ _ he.1) (fun id hi => by rw [pure_refs _ he.2.1 id] at hi; cases hi)⟩
    | panicked c => exact he.elim
    | outgrown => exact he.elim
  · exact hc.elim

theorem run_bound {z : Int} {k : IntKind} {y : Nat} (code : BoundsCode) (h0 : 0 ≤ z) (h1 : z.toNat ≤ y) (P : Program) (w : World) : (Instr.sliceBound (.int k z) y code).run P w = .ok z.toNat w := by
  have h2 : z ≤ y := by omega
  simp [Instr.sliceBound, asIntOf, h0, h2]

theorem bnd_cases (hB : RepB C F R β a w) (o : Option Operand) (n : Nat) (h : (bnd (mapA F o) n).1) :
    (o = none ∧ (bnd (mapA F o) n).2 = n) ∨ ∃ x k z, o = some x ∧ a.eval x = .int k z ∧ 0 ≤ z ∧ (bnd (mapA F o) n).2 = z.toNat := by
  cases o with
  | none => exact .inl ⟨rfl, rfl⟩
  | some x =>
    have hx := evA_den hB x
    simp only [mapA] at h ⊢
    cases hv : evA F x with
    | int k z =>
      rw [hv] at h hx
      exact .inr ⟨x, k, z, rfl, hx, h, rfl⟩
    | _ => rw [hv] at h; exact h.elim

/-- The places of a slice expression without a third one. -/
theorem run_bounds (hB : RepB C F R β a w) (lo hi : Option Operand) (isSl : Bool) (len cap : Nat) (hl : (bnd (mapA F lo) 0).1) (hh : (bnd (mapA F hi) len).1)
    (h1 : (bnd (mapA F lo) 0).2 ≤ (bnd (mapA F hi) len).2) (h2 : (bnd (mapA F hi) len).2 ≤ cap) (P : Program) :
    (Instr.sliceBounds isSl len cap (lo.map a.eval) (hi.map a.eval) none).run P w = .ok ((bnd (mapA F lo) 0).2, (bnd (mapA F hi) len).2, cap) w := by
  rcases bnd_cases hB lo 0 hl with ⟨rfl, el⟩ | ⟨x, k, z, rfl, ex, zl, el⟩ <;> rcases bnd_cases hB hi len hh with ⟨rfl, eh⟩ | ⟨y, k', z', rfl, ey, zh, eh⟩ <;> rw [el, eh] at h1 <;> rw [eh] at h2 <;> rw [el, eh]
  · simp [Instr.sliceBounds]
  · simp [Instr.sliceBounds, ey, run_bound _ zh h2]
  · simp [Instr.sliceBounds, ex, run_bound _ zl h1]
  · simp [Instr.sliceBounds, ex, ey, run_bound _ zh h2, run_bound _ zl h1]

end
end Go.Proofs.YtijoifajbmhgdaaGreat.Sym
