/- The model's operations do what the small machine says: one law a kind of operation. -/
import Derived.Test.YtijoifajbmhgdaaGreatSymB
namespace Go.Proofs.YtijoifajbmhgdaaGreat.Sym
open Go Go.RowKit
set_option linter.unusedSimpArgs false
set_option linter.unusedVariables false

theorem add_mid (b o j : Nat) : (⟨b, o, none⟩ : Addr).add j = ⟨b, o + j, none⟩ := by unfold Addr.add; split <;> simp_all

section runs
variable {P : Program}

theorem run_und {t : TypeId} {d : TypeDesc} (h : P.underlying t = some d) (w : World) : (underlying t).run P w = .ok d w := run_underlying h w

theorem run_size {t : TypeId} {n : Nat} (h : (P.info? t).map (·.size) = some n) (w : World) : (sizeOf t).run P w = .ok n w := by
  cases hq : P.info? t with
  | none => simp [hq] at h
  | some i => simp [hq] at h; simp [sizeOf, typeInfo, hq, h]

theorem run_zero {t : TypeId} {n : Nat} {v : Value} (h : (P.info? t).map (fun i => (i.zero, i.size)) = some (some v, n)) (w : World) : (zeroValue t).run P w = .ok v w := by
  cases hq : P.info? t with
  | none => simp [hq] at h
  | some i => simp [hq] at h; simp [zeroValue, typeInfo, hq, h.1]

theorem size_of_zs {t : TypeId} {n : Nat} {v : Option Value} (h : (P.info? t).map (fun i => (i.zero, i.size)) = some (v, n)) : (P.info? t).map (·.size) = some n := by
  cases hq : P.info? t with
  | none => simp [hq] at h
  | some i => simp [hq] at h; simp [h.2]

theorem run_agg_int {t : TypeId} {k : IntKind} (h : P.underlying t = some (.int k)) (w : World) : (isAgg t).run P w = .ok false w := by
  simp [isAgg, run_und h]
theorem run_agg_arr {t : TypeId} {n e : Nat} (h : P.underlying t = some (.array n e)) (w : World) : (isAgg t).run P w = .ok true w := by
  simp [isAgg, run_und h]

theorem run_alloc_arr {t : TypeId} {k : IntKind} {n e : Nat} (h : TyOk P t (.arr k n e)) (w : World) :
    (Instr.alloc t true (.tuple #[])).run P w = .ok (.pointer (some ⟨w.heap.size, 0, none⟩)) (w.alloc (.cells (cells k n fun _ => 0) t)) := by
  obtain ⟨h1, h2, h3, h4, h5⟩ := h
  simp [Instr.alloc, run_zero h4, newVar, newRow, newObj, Sem.run, Value.cells]

theorem run_box_arr (t : TypeId) (cs : Array Value) (w : World) :
    (Instr.box t (.agg cs)).run P w = .ok (.pointer (some ⟨w.heap.size, 0, none⟩)) (w.alloc (.cells cs t)) := by
  simp [Instr.box, newVar, newRow, newObj, Sem.run, Value.cells]

theorem cell_row {w : World} {b : Nat} {c : Array Value} {t : TypeId} {fr : Nat × Nat} (h : w.heap[b]? = some (.cells c t fr)) (j : Nat) : w.cell? ⟨b, j, none⟩ = c[j]? := by
  simp [World.cell?, h]

theorem run_load_one {t : TypeId} {k : IntKind} (h : P.underlying t = some (.int k)) {w : World} {b o : Nat} {v : Value} (hc : w.cell? ⟨b, o, none⟩ = some v) :
    (Instr.loadAt t (.pointer (some ⟨b, o, none⟩))).run P w = .ok v w := by
  simp [Instr.loadAt, Instr.sureAddr, loadVar, run_agg_int h, hc]

theorem run_load_arr {t : TypeId} {k : IntKind} {n e : Nat} (h : TyOk P t (.arr k n e)) {w : World} {b o : Nat} {f : Nat → Int}
    (hc : ∀ j, j < n → w.cell? ⟨b, o + j, none⟩ = some (.int k (f j))) : (Instr.loadAt t (.pointer (some ⟨b, o, none⟩))).run P w = .ok (.agg (cells k n f)) w := by
  obtain ⟨h1, h2, h3, h4, h5⟩ := h
  have hl := run_loadCells_list (P := P) (w := w) ⟨b, o, none⟩ (cellsL k n f) (fun j v hv => by
    rw [cellsL_get] at hv
    by_cases hj : j < n
    · rw [if_pos hj] at hv; rw [add_mid, hc j hj]; exact hv
    · rw [if_neg hj] at hv; cases hv)
  rw [cellsL_length] at hl
  simp [Instr.loadAt, Instr.sureAddr, loadVar, run_agg_arr h1, run_size (size_of_zs h4), hl, cells]

/-- Parts into a row of whole numbers. -/
theorem fill_parts {w : World} {β : Nat → Nat} {O : Nat → Prop} {F : Nat → AV} {ρ : Operand → Value} (hρ : ∀ x, den w β O (evA F x) (ρ x)) (k : IntKind) (n : Nat) :
    ∀ (ps : List (Nat × Operand)) (f : Nat → Int), partsOk F k n ps → Instr.fill (fun i => some (i * 1, 1)) (cells k n f) (ps.map fun p => (p.1, ρ p.2)) = some (cells k n (partsF F ps f))
  | [], f, _ => rfl
  | (i, x) :: r, f, h => by
    obtain ⟨h1, h2⟩ := h
    have hx := hρ x
    cases hv : evA F x with
    | int k' z =>
      rw [hv] at h1 hx
      obtain ⟨rfl, hi⟩ := h1
      simp only [den] at hx
      have hset : (cells k' n f).setIfInBounds i (.int k' z) = cells k' n (updF f i z) := by
        refine eq_cells (by simp [cells_size]) fun j hj => ?_
        by_cases e : i = j
        · subst e; rw [Array.getElem?_setIfInBounds_self_of_lt (by rw [cells_size]; exact hi)]; simp [updF]
        · rw [Array.getElem?_setIfInBounds_ne e, cells_get, if_pos hj]; simp [updF, e]
      have ih := fill_parts hρ k' n r (updF f i z) h2
      have hfold : ((Value.int k' z).cells.zipIdx.foldl (fun cs (c, j) => cs.setIfInBounds (i * 1 + j) c) (cells k' n f)) = cells k' n (updF f i z) := by
        rw [← hset]; simp [Value.cells]
      simp only [List.map_cons, Instr.fill, hx, partsF, hv]
      rw [if_neg (by simp [Value.cells, cells_size]; omega), hfold]
      exact ih
    | _ => rw [hv] at h1; exact h1.elim

theorem run_build_arr {t : TypeId} {k : IntKind} {n e : Nat} (h : TyOk P t (.arr k n e)) {w w' : World} {β : Nat → Nat} {O : Nat → Prop} {F : Nat → AV} {ρ : Operand → Value} (hρ : ∀ x, den w' β O (evA F x) (ρ x))
    (ps : Array (Nat × Operand)) (hp : partsOk F k n ps.toList) : (Instr.build t (ps.map fun (i, x) => (i, ρ x))).run P w = .ok (.agg (cells k n (partsF F ps.toList fun _ => 0))) w := by
  obtain ⟨h1, h2, h3, h4, h5⟩ := h
  have hf := fill_parts hρ k n ps.toList (fun _ => 0) hp
  simp [Instr.build, run_zero h4, run_und h1, run_size h3, Value.cells]
  rw [show (List.map (fun x => (x.fst, ρ x.snd)) ps.toList) = ps.toList.map (fun p => (p.1, ρ p.2)) from rfl]
  simp only [Nat.mul_one] at hf
  rw [hf]
  rfl

theorem range_zero (k : IntKind) (n : Nat) : (Array.range n).map (fun i => (#[Value.int k 0])[i % 1]!) = cells k n fun _ => 0 := by
  refine eq_cells (by simp) fun j hj => ?_
  simp [hj, Nat.mod_one]

theorem run_buildSlice {t e : TypeId} {k : IntKind} (h : TyOk P t (.sl k e)) {w w' : World} {β : Nat → Nat} {O : Nat → Prop} {F : Nat → AV} {ρ : Operand → Value} (hρ : ∀ x, den w' β O (evA F x) (ρ x))
    (len : Nat) (hl : len ≤ 1000) (ps : Array (Nat × Operand)) (hp : partsOk F k len ps.toList) :
    (Instr.buildSlice t len (ps.map fun (i, x) => (i, ρ x))).run P w = .ok (.slice (some ⟨w.heap.size, 0, none⟩) len len) (w.alloc (.cells (cells k len (partsF F ps.toList fun _ => 0)) e)) := by
  obtain ⟨h1, h2, h3, h4⟩ := h
  have hf := fill_parts hρ k len ps.toList (fun _ => 0) hp
  simp only [Nat.mul_one] at hf
  have hm : (List.map (fun x => (x.fst, ρ x.snd)) ps.toList) = ps.toList.map (fun p => (p.1, ρ p.2)) := rfl
  by_cases h0 : len = 0
  · subst h0
    have hz : (Array.map (fun x => (default : Value)) (Array.range 0)) = cells k 0 fun _ => 0 := by simp [cells, cellsL]
    simp [Instr.buildSlice, run_und h1, run_size (size_of_zs h3), hm]
    rw [hz, hf]
    simp [newRow, newObj, Sem.run]
  · have hb' : ¬ (16777216 < len) := by omega
    have hz := range_zero k len
    simp [Instr.buildSlice, run_und h1, run_size (size_of_zs h3), run_zero h3, Value.cells, h0, hm, hb', Nat.mod_one] at hz ⊢
    rw [hz, hf]
    simp [newRow, newObj, Sem.run]

theorem wrap_i64 {z : Int} (h0 : -9223372036854775808 ≤ z) (h1 : z ≤ 9223372036854775807) : IntKind.i64.wrap z = z := IntWalk.i64_in z ⟨by omega, by omega⟩

theorem run_makeSlice' {t e : TypeId} {k : IntKind} (h : TyOk P t (.sl k e)) (w : World) (z : Int) (h0 : 0 ≤ z) (hz : z ≤ 4294967296) :
    (Instr.makeSlice t (.int .i64 z) (.int .i64 z)).run P w = .ok (.slice (some ⟨w.heap.size, 0, none⟩) z.toNat z.toNat) (w.alloc (.cells (cells k z.toNat fun _ => 0) e)) := by
  obtain ⟨h1, h2, h3, h4⟩ := h
  have hw := wrap_i64 (z := z) (by omega) (by omega)
  have hzr := range_zero k z.toNat
  cases hq : P.info? e with
  | none => simp [hq] at h3
  | some i =>
    simp [hq] at h3
    have hb : i.bytes ≤ 8 := by simpa [Program.bytesOf, hq] using h4
    have hbz : (i.bytes : Int) * z ≤ 34359738368 := by
      have := Int.mul_le_mul (show (i.bytes : Int) ≤ 8 by omega) hz h0 (by omega)
      omega
    have hbn : z.toNat * i.bytes ≤ 34359738368 := by
      have := Nat.mul_le_mul (show z.toNat ≤ 4294967296 by omega) hb
      omega
    have hbz0 : 0 ≤ (i.bytes : Int) * z := Int.mul_nonneg (by omega) h0
    have c1 : ¬ (z < 0) := by omega
    have c2 : ¬ (281474976710656 < (i.bytes : Int) * z) := by omega
    have c3 : ¬ (140737488355328 < z.toNat * i.bytes) := by omega
    by_cases hzero : z.toNat = 0
    · simp [Instr.makeSlice, run_und h1, asInt, asIntOf, typeInfo, hq, hw, c1, c2, c3, askRoom, roomBytes, sizeOf, h3.1, h3.2, zeroValue, hzero, newRow, newObj, Sem.run]
      congr 2
      simp [cells, cellsL]
    · simp [Nat.mod_one] at hzr
      simp [Instr.makeSlice, run_und h1, asInt, asIntOf, typeInfo, hq, hw, c1, c2, c3, askRoom, roomBytes, sizeOf, h3.1, h3.2, zeroValue, hzero, newRow, newObj, Sem.run, Value.cells, Nat.mod_one, hzr]

/-! ### Numbers -/
theorem guard_int (op : BinOp) (t : TypeId) (x y : Operand) (k k' : IntKind) (a b : Int) (w : World) : (eqGuard op t x y (.int k a) (.int k' b)).run P w = .ok () w := by
  cases op <;> simp [eqGuard]
theorem guard_bool (op : BinOp) (t : TypeId) (x y : Operand) (a b : Bool) (w : World) : (eqGuard op t x y (.bool a) (.bool b)).run P w = .ok () w := by
  cases op <;> simp [eqGuard]
theorem guard_fn (op : BinOp) (t : TypeId) (x y : Operand) (fn : Fn) (p q : Array Value) (w : World) : (eqGuard op t x y (.func fn p q) .nilFunc).run P w = .ok () w := by
  cases op <;> simp [eqGuard]
theorem guard_nil (op : BinOp) (t : TypeId) (x y : Operand) (w : World) : (eqGuard op t x y .nilFunc .nilFunc).run P w = .ok () w := by
  cases op <;> simp [eqGuard]
theorem guard_agg (op : BinOp) (t : TypeId) (x y : Operand) (xs ys : Array Value) (hm : P.eqGuardType P.depth t = false) (w : World) : (eqGuard op t x y (.agg xs) (.agg ys)).run P w = .ok () w :=
  run_eqGuard_agg w op t x y xs ys hm

theorem run_int_bin (op : BinOp) (t : TypeId) (k k' : IntKind) (a b : Int) (w : World) (h : (intBin op k k' a b).pre) :
    ∃ v, (binOp op t (.int k a) (.int k' b)).run P w = .ok v w ∧ ∀ β O, den w β O (intBin op k k' a b).v v := by
  cases op <;> simp only [intBin, HOut.fail] at h ⊢
  case add => subst h; exact ⟨_, by simp [binOp, Op.intArith], fun _ _ => rfl⟩
  case sub => subst h; exact ⟨_, by simp [binOp, Op.intArith], fun _ _ => rfl⟩
  case mul => subst h; exact ⟨_, by simp [binOp, Op.intArith], fun _ _ => rfl⟩
  case quo => obtain ⟨rfl, hb⟩ := h; exact ⟨_, by simp [binOp, Op.intDiv, hb], fun _ _ => rfl⟩
  case rem => obtain ⟨rfl, hb⟩ := h; exact ⟨_, by simp [binOp, Op.intDiv, hb], fun _ _ => rfl⟩
  case and => subst h; exact ⟨_, by simp [binOp, Op.intBits, bitsA], fun _ _ => rfl⟩
  case or => subst h; exact ⟨_, by simp [binOp, Op.intBits, bitsA], fun _ _ => rfl⟩
  case xor => subst h; exact ⟨_, by simp [binOp, Op.intBits, bitsA], fun _ _ => rfl⟩
  case shl => exact ⟨_, by simp [binOp, Op.shift, show ¬ b < 0 by omega], fun _ _ => rfl⟩
  case shr =>
    exact ⟨.int k (a / 2 ^ (min b.toNat k.bits)), by simp [binOp, Op.shift, show ¬ b < 0 by omega]; exact Int.fdiv_eq_ediv_of_nonneg _ (Int.pow_nonneg (by omega)), fun _ _ => rfl⟩
  case eql => subst h; exact ⟨_, by simp [binOp, Op.intCmp], fun _ _ => rfl⟩
  case neq => subst h; exact ⟨_, by simp [binOp, Op.intCmp], fun _ _ => rfl⟩
  case lss => subst h; exact ⟨_, by simp [binOp, Op.intCmp], fun _ _ => rfl⟩
  case leq => subst h; exact ⟨_, by simp [binOp, Op.intCmp], fun _ _ => rfl⟩
  case gtr => subst h; exact ⟨_, by simp [binOp, Op.intCmp], fun _ _ => rfl⟩
  case geq => subst h; exact ⟨_, by simp [binOp, Op.intCmp], fun _ _ => rfl⟩

/-- Two rows of whole numbers, held against each other. -/
theorem run_eq_items {e : TypeId} {k : IntKind} (he : P.underlying e = some (.int k)) (hs : (P.info? e).map (·.size) = some 1) (d n : Nat) (f g : Nat → Int) (w : World) :
    ∀ (l : List Nat), (∀ i ∈ l, i < n) → (Op.eqItems (d + 1) e 1 (cells k n f) (cells k n g) l).run P w = .ok (decide (∀ i ∈ l, f i = g i)) w
  | [], _ => by simp [Op.eqItems]
  | i :: r, h => by
    have hi := h i (by simp)
    have ih := run_eq_items he hs d n f g w r (fun j hj => h j (by simp [hj]))
    have pf : ∀ (q : Nat → Int), (part e (cells k n q) (i * 1)).run P w = .ok (.int k (q i)) w := fun q => by
      simp [part, run_agg_int he, cells_get, hi]
    simp only [Op.eqItems, Sem.run_bind, pf, Result.andThen_ok, run_equalIn_int w d e k k (f i) (g i) he]
    by_cases hfg : f i = g i
    · simp [hfg, ih]
    · simp [hfg]

theorem run_eq_arr {t : TypeId} {k : IntKind} {n e : Nat} (h : TyOk P t (.arr k n e)) (f g : Nat → Int) (w : World) :
    (Op.equalIn 10000 t (.agg (cells k n f)) (.agg (cells k n g))).run P w = .ok (eqA n f g) w := by
  obtain ⟨h1, h2, h3, h4, h5⟩ := h
  cases hq : P.info? e with
  | none => simp [hq] at h3
  | some i =>
  have hc : P.cellsOf e = 1 := by simpa [Program.cellsOf, hq] using h3
  rw [run_equalIn_array w 9999 (cells k n f) (cells k n g) h1 hq, hc, run_eq_items h2 h3 9998 n f g w (List.range n) (fun i hi => List.mem_range.1 hi)]
  simp [eqA]

end runs
end Go.Proofs.YtijoifajbmhgdaaGreat.Sym
