/- A small machine of known values: what a frame's slots and the call's own rows of numbers hold; how it stands to the model's worlds. -/
import Derived.WalkKit
import Derived.Below
import Derived.Orders
import Derived.ChangeKeysEq
namespace Go.Proofs.YtijoifajbmhgdaaGreat.Sym
set_option linter.unusedSimpArgs false
set_option linter.unusedVariables false
open Go Go.RowKit

/-! ### Rows of whole numbers -/
def cellsL (k : IntKind) (n : Nat) (f : Nat → Int) : List Value := (List.range n).map fun j => Value.int k (f j)
def cells (k : IntKind) (n : Nat) (f : Nat → Int) : Array Value := (cellsL k n f).toArray

theorem cellsL_length (k : IntKind) (n : Nat) (f : Nat → Int) : (cellsL k n f).length = n := by simp [cellsL]
theorem cells_size (k : IntKind) (n : Nat) (f : Nat → Int) : (cells k n f).size = n := by simp [cells, cellsL]
theorem cellsL_get (k : IntKind) (n : Nat) (f : Nat → Int) (j : Nat) : (cellsL k n f)[j]? = if j < n then some (.int k (f j)) else none := by
  unfold cellsL
  rw [List.getElem?_map]
  by_cases h : j < n
  · rw [List.getElem?_range h, if_pos h]; rfl
  · rw [if_neg h, List.getElem?_eq_none (by simpa using h)]; rfl
theorem cells_get (k : IntKind) (n : Nat) (f : Nat → Int) (j : Nat) : (cells k n f)[j]? = if j < n then some (.int k (f j)) else none := by
  rw [cells, List.getElem?_toArray, cellsL_get]
theorem cells_congr {k : IntKind} {n : Nat} {f g : Nat → Int} (h : ∀ j, j < n → f j = g j) : cells k n f = cells k n g := by
  unfold cells cellsL
  congr 1
  exact List.map_congr_left fun j hj => by rw [h j (List.mem_range.1 hj)]
theorem cells_one (k : IntKind) (n : Nat) (f : Nat → Int) : ∀ v ∈ cellsL k n f, v.oneCell' = true := by
  intro v hv
  obtain ⟨j, _, rfl⟩ := List.mem_map.1 hv
  rfl
theorem eq_cells {k : IntKind} {n : Nat} {f : Nat → Int} {c : Array Value} (hs : c.size = n) (h : ∀ j, j < n → c[j]? = some (.int k (f j))) : c = cells k n f := by
  apply Array.ext (by rw [hs, cells_size])
  intro i h1 h2
  have a := h i (by omega)
  have b := cells_get k n f i
  rw [if_pos (by omega)] at b
  rw [Array.getElem?_eq_getElem h1] at a
  rw [Array.getElem?_eq_getElem h2] at b
  exact Option.some.inj (a.trans b.symm)

/-! ### What is known of a value -/
inductive AV where
  | und
  | skp
  | int (k : IntKind) (z : Int)
  | bool (b : Bool)
  | arr (k : IntKind) (n : Nat) (f : Nat → Int)
  | elt (id : Nat) (i : Nat)
  | sl (id : Nat) (off len : Nat)
  | rsl (k : IntKind) (n : Nat) (f : Nat → Int)
  | pt (k : IntKind) (z : Int)
  | pa (k : IntKind) (n : Nat) (f : Nat → Int)
  | str (s : ByteArray)
  | pair (a b : AV)
  | fn (g : FuncId)
  | nilfn

structure Row where
  k : IntKind
  n : Nat
  f : Nat → Int

def AV.refs : AV → Nat → Bool
  | .elt i _, id => i == id
  | .sl i _ _, id => i == id
  | .pair a b, id => a.refs id || b.refs id
  | _, _ => false

def rowOk (w : World) (b : Nat) (r : Row) : Prop :=
  ∃ c t, w.heap[b]? = some (.cells c t (0, 0)) ∧ r.n ≤ c.size ∧ ∀ j, j < r.n → c[j]? = some (.int r.k (r.f j))

def den (w : World) (β : Nat → Nat) (ow : Nat → Prop) : AV → Value → Prop
  | .und, _ => True
  | .skp, v => v = undef
  | .int k z, v => v = .int k z
  | .bool b, v => v = .bool b
  | .arr k n f, v => v = .agg (cells k n f)
  | .elt id i, v => v = .pointer (some ⟨β id, i, none⟩)
  | .sl id off len, v => ∃ cap c t, v = .slice (some ⟨β id, off, none⟩) len cap ∧ len ≤ cap ∧ w.heap[β id]? = some (.cells c t (0, 0)) ∧ off + cap ≤ c.size
  | .rsl k n f, v => ∃ a cap, v = .slice a n cap ∧ n ≤ cap ∧ (n = 0 ∨ ∃ b o, a = some ⟨b, o, none⟩ ∧ ¬ ow b ∧ ∀ j, j < n → w.cell? ⟨b, o + j, none⟩ = some (.int k (f j)))
  | .pt k z, v => ∃ b o, v = .pointer (some ⟨b, o, none⟩) ∧ ¬ ow b ∧ w.cell? ⟨b, o, none⟩ = some (.int k z)
  | .pa k n f, v => ∃ b o, v = .pointer (some ⟨b, o, none⟩) ∧ (n = 0 ∨ ¬ ow b) ∧ ∀ j, j < n → w.cell? ⟨b, o + j, none⟩ = some (.int k (f j))
  | .str s, v => v = .string s
  | .pair x y, v => ∃ vx vy, v = .tuple #[vx, vy] ∧ den w β ow x vx ∧ den w β ow y vy
  | .fn g, v => v = .func (.func g) #[] #[]
  | .nilfn, v => v = .nilFunc

theorem lt_of_cell {w : World} {b o : Nat} {v : Value} (h : w.cell? ⟨b, o, none⟩ = some v) : b < w.heap.size :=
  block_lt_of_cell (a := ⟨b, o, none⟩) h

/-- A known value stays known: old blocks that are not the call's own are as they were, and its own ones are there, no smaller. -/
theorem den_change {w w' : World} {β β' : Nat → Nat} {ow ow' : Nat → Prop}
    (h1 : ∀ b, b < w.heap.size → ¬ ow b → ¬ ow' b ∧ w'.heap[b]? = w.heap[b]?) :
    ∀ (x : AV) (_ : ∀ id, x.refs id = true → β' id = β id ∧ ∀ c t, w.heap[β id]? = some (.cells c t (0, 0)) → ∃ c' t', w'.heap[β id]? = some (.cells c' t' (0, 0)) ∧ c.size ≤ c'.size)
      (v : Value), den w β ow x v → den w' β' ow' x v
  | .und, _, _, _ => trivial
  | .skp, _, _, h => h
  | .int _ _, _, _, h => h
  | .bool _, _, _, h => h
  | .arr _ _ _, _, _, h => h
  | .fn _, _, _, h => h
  | .nilfn, _, _, h => h
  | .elt id i, hr, v, h => by
    have e := (hr id (by simp [AV.refs])).1
    simpa [den, e] using h
  | .sl id off len, hr, v, h => by
    obtain ⟨e, k⟩ := hr id (by simp [AV.refs])
    obtain ⟨cap, c, t, hv, hl, hh, hs⟩ := h
    obtain ⟨c', t', hh', hs'⟩ := k c t hh
    exact ⟨cap, c', t', by rw [e]; exact hv, hl, by rw [e]; exact hh', by omega⟩
  | .rsl k n f, _, v, h => by
    obtain ⟨a, cap, hv, hl, h⟩ := h
    refine ⟨a, cap, hv, hl, ?_⟩
    rcases h with h | ⟨b, o, ha, hb, hc⟩
    · exact .inl h
    · by_cases hn : n = 0
      · exact .inl hn
      · have hlt := lt_of_cell (hc 0 (by omega))
        obtain ⟨p, q⟩ := h1 b hlt hb
        exact .inr ⟨b, o, ha, p, fun j hj => by rw [World.cell?_of_block (w := w) q]; exact hc j hj⟩
  | .pt k z, _, v, h => by
    obtain ⟨b, o, hv, hb, hc⟩ := h
    obtain ⟨p, q⟩ := h1 b (lt_of_cell hc) hb
    exact ⟨b, o, hv, p, by rw [World.cell?_of_block (w := w) q]; exact hc⟩
  | .pa k n f, _, v, h => by
    obtain ⟨b, o, hv, hb, hc⟩ := h
    by_cases hn : n = 0
    · exact ⟨b, o, hv, .inl hn, fun j hj => by omega⟩
    · obtain ⟨p, q⟩ := h1 b (lt_of_cell (hc 0 (by omega))) (hb.resolve_left hn)
      exact ⟨b, o, hv, .inr p, fun j hj => by rw [World.cell?_of_block (w := w) q]; exact hc j hj⟩
  | .str s, _, _, h => h
  | .pair x y, hr, v, h => by
    obtain ⟨vx, vy, hv, hx, hy⟩ := h
    exact ⟨vx, vy, hv, den_change h1 x (fun id hi => hr id (by simp [AV.refs, hi])) vx hx, den_change h1 y (fun id hi => hr id (by simp [AV.refs, hi])) vy hy⟩

/-! ### A state, and what it says of a frame and a world -/
def updF {α : Type} (F : Nat → α) (d : Nat) (v : α) : Nat → α := fun s => if d = s then v else F s

/-- Where a call began: the world, the blocks that are nobody's to be read as lasting, the frame's size. -/
structure Ctx where
  w0 : World
  O : Nat → Prop
  sz : Nat
  hO : ∀ b, O b → b < w0.heap.size

def own (C : Ctx) (R : Nat → Option Row) (β : Nat → Nat) (b : Nat) : Prop := C.O b ∨ ∃ id, R id ≠ none ∧ β id = b

structure RepB (C : Ctx) (F : Nat → AV) (R : Nat → Option Row) (β : Nat → Nat) (a : Act) (w : World) : Prop where
  slot : ∀ s, den w β (own C R β) (F s) (a.tmps.getD s undef)
  row : ∀ id r, R id = some r → rowOk w (β id) r
  base : ∀ id, R id ≠ none → C.w0.heap.size ≤ β id
  inj : ∀ id id', R id ≠ none → R id' ≠ none → β id = β id' → id = id'
  closed : ∀ s id, (F s).refs id = true → R id ≠ none
  below : Below C.w0.heap.size C.w0 w
  size : a.tmps.size = C.sz
  defers : a.defers = []

def Rep (C : Ctx) (F : Nat → AV) (R : Nat → Option Row) (a : Act) (w : World) : Prop := ∃ β, RepB C F R β a w

theorem RepB.lt {C : Ctx} {F : Nat → AV} {R : Nat → Option Row} {β : Nat → Nat} {a : Act} {w : World} (h : RepB C F R β a w) {id : Nat} (hi : R id ≠ none) : β id < w.heap.size := by
  cases hr : R id with
  | none => exact absurd hr hi
  | some r =>
    obtain ⟨c, t, hh, _⟩ := h.row id r hr
    exact (Array.getElem?_eq_some_iff.1 hh).1

/-- Less may be said of the slots. -/
theorem Rep.weak {C : Ctx} {F F' : Nat → AV} {R : Nat → Option Row} {a : Act} {w : World} (h : Rep C F R a w) (hF : ∀ s, F' s = F s ∨ F' s = .und) : Rep C F' R a w := by
  obtain ⟨β, h⟩ := h
  refine ⟨β, { h with slot := fun s => ?_, closed := fun s id hi => ?_ }⟩
  · rcases hF s with e | e
    · rw [e]; exact h.slot s
    · rw [e]; trivial
  · rcases hF s with e | e
    · exact h.closed s id (by rw [← e]; exact hi)
    · rw [e] at hi; simp [AV.refs] at hi

theorem getD_set (a : Array Value) (d s : Nat) (v u : Value) (hd : d < a.size) : (a.setIfInBounds d v).getD s u = if d = s then v else a.getD s u := by
  by_cases e : d = s
  · subst e; simp [hd]
  · simp [Array.getElem?_setIfInBounds_ne e, e]

/-- A slot is written; the world has gone on, below it is as it was. -/
theorem RepB.put {C : Ctx} {F : Nat → AV} {R : Nat → Option Row} {β : Nat → Nat} {a : Act} {w w' : World} (h : RepB C F R β a w) (hb : Below w.heap.size w w')
    {d : Nat} (hd : d < C.sz) {x : Value} {v : AV} (hx : den w' β (own C R β) v x) (hv : ∀ id, v.refs id = true → R id ≠ none) :
    RepB C (updF F d v) R β (a.put (some d) x) w' := by
  have keep : ∀ (u : AV) (y : Value), (∀ id, u.refs id = true → R id ≠ none) → den w β (own C R β) u y → den w' β (own C R β) u y := fun u y hu hy =>
    den_change (fun b hb' ho => ⟨ho, hb.block b hb'⟩) u (fun id hi => ⟨rfl, fun c t hc => ⟨c, t, by rw [hb.block _ (h.lt (hu id hi))]; exact hc, Nat.le_refl _⟩⟩) y hy
  refine ⟨fun s => ?_, fun id r hr => ?_, h.base, h.inj, fun s id hi => ?_, ?_, ?_, ?_⟩
  · simp only [Act.put, updF]
    rw [getD_set _ _ _ _ _ (by rw [h.size]; exact hd)]
    by_cases e : d = s
    · rw [if_pos e, if_pos e]; exact hx
    · rw [if_neg e, if_neg e]; exact keep _ _ (h.closed s) (h.slot s)
  · obtain ⟨c, t, hh, hn, hc⟩ := h.row id r hr
    exact ⟨c, t, by rw [hb.block _ (h.lt (by rw [hr]; simp))]; exact hh, hn, hc⟩
  · simp only [updF] at hi
    by_cases e : d = s
    · rw [if_pos e] at hi; exact hv id hi
    · rw [if_neg e] at hi; exact h.closed s id hi
  · exact h.below.trans (hb.mono h.below.size)
  · simp [Act.put, h.size]
  · simp [Act.put, h.defers]

/-- No slot is written. -/
theorem RepB.go {C : Ctx} {F : Nat → AV} {R : Nat → Option Row} {β : Nat → Nat} {a : Act} {w w' : World} (h : RepB C F R β a w) (hb : Below w.heap.size w w') :
    RepB C F R β a w' := by
  have keep : ∀ (u : AV) (y : Value), (∀ id, u.refs id = true → R id ≠ none) → den w β (own C R β) u y → den w' β (own C R β) u y := fun u y hu hy =>
    den_change (fun b hb' ho => ⟨ho, hb.block b hb'⟩) u (fun id hi => ⟨rfl, fun c t hc => ⟨c, t, by rw [hb.block _ (h.lt (hu id hi))]; exact hc, Nat.le_refl _⟩⟩) y hy
  refine ⟨fun s => keep _ _ (h.closed s) (h.slot s), fun id r hr => ?_, h.base, h.inj, h.closed, h.below.trans (hb.mono h.below.size), h.size, h.defers⟩
  obtain ⟨c, t, hh, hn, hc⟩ := h.row id r hr
  exact ⟨c, t, by rw [hb.block _ (h.lt (by rw [hr]; simp))]; exact hh, hn, hc⟩

theorem Rep.drew {C : Ctx} {F : Nat → AV} {R : Nat → Option Row} {a : Act} {w : World} (h : Rep C F R a w) : Rep C F R a w.drew := by
  obtain ⟨β, h⟩ := h
  exact ⟨β, h.go (Below.refl _ _).drew⟩

/-- A new block of the call's own. -/
theorem RepB.new {C : Ctx} {F : Nat → AV} {R : Nat → Option Row} {β : Nat → Nat} {a : Act} {w : World} (h : RepB C F R β a w)
    {d : Nat} (hd : d < C.sz) {id : Nat} (hf : R id = none) {c : Array Value} {t : TypeId} {r : Row} (hn : r.n ≤ c.size) (hc : ∀ j, j < r.n → c[j]? = some (.int r.k (r.f j)))
    {x : Value} {v : AV} (hx : den (w.alloc (.cells c t)) (updF β id w.heap.size) (own C (updF R id (some r)) (updF β id w.heap.size)) v x) (hv : ∀ i, v.refs i = true → i = id) :
    RepB C (updF F d v) (updF R id (some r)) (updF β id w.heap.size) (a.put (some d) x) (w.alloc (.cells c t)) := by
  have hid : ∀ i, R i ≠ none → id ≠ i := fun i hi e => hi (e ▸ hf)
  have hβ : ∀ i, R i ≠ none → updF β id w.heap.size i = β i := fun i hi => by simp [updF, hid i hi]
  have heap : ∀ b, b < w.heap.size → (w.alloc (.cells c t)).heap[b]? = w.heap[b]? := fun b hb => Below.heap_alloc w _ b hb
  have now : ∀ b, b < w.heap.size → ¬ own C R β b → ¬ own C (updF R id (some r)) (updF β id w.heap.size) b := by
    rintro b hb ho (hO | ⟨i, hi, e⟩)
    · exact ho (.inl hO)
    by_cases hii : id = i
    · subst hii; simp [updF] at e; omega
    · have hi' : R i ≠ none := by simpa [updF, hii] using hi
      exact ho (.inr ⟨i, hi', by rw [← e, hβ i hi']⟩)
  have keep : ∀ (u : AV) (y : Value), (∀ i, u.refs i = true → R i ≠ none) → den w β (own C R β) u y → den (w.alloc (.cells c t)) (updF β id w.heap.size) (own C (updF R id (some r)) (updF β id w.heap.size)) u y := fun u y hu hy =>
    den_change (fun b hb' ho => ⟨now b hb' ho, heap b hb'⟩) u (fun i hi => ⟨hβ i (hu i hi), fun c' t' hc' => ⟨c', t', by rw [heap _ (h.lt (hu i hi))]; exact hc', Nat.le_refl _⟩⟩) y hy
  refine ⟨fun s => ?_, fun i r' hr => ?_, fun i hi => ?_, fun i j hi hj e => ?_, fun s i hi => ?_, ?_, ?_, ?_⟩
  · simp only [Act.put]
    rw [getD_set _ _ _ _ _ (by rw [h.size]; exact hd)]
    by_cases e : d = s
    · simp only [updF, if_pos e]; exact hx
    · rw [if_neg e]; simp only [updF, if_neg e]; exact keep _ _ (h.closed s) (h.slot s)
  · by_cases hii : id = i
    · subst hii
      simp only [updF, if_true, Option.some.injEq] at hr
      subst hr
      exact ⟨c, t, by simp only [updF, if_true]; exact heap_alloc_new w _, hn, hc⟩
    · have hr' : R i = some r' := by simpa [updF, hii] using hr
      obtain ⟨c', t', hh, hn', hc'⟩ := h.row i r' hr'
      exact ⟨c', t', by rw [hβ i (by rw [hr']; simp), heap _ (h.lt (by rw [hr']; simp))]; exact hh, hn', hc'⟩
  · by_cases hii : id = i
    · subst hii; simp only [updF, if_true]; exact h.below.size
    · have hi' : R i ≠ none := by simpa [updF, hii] using hi
      rw [hβ i hi']; exact h.base i hi'
  · by_cases hii : id = i
    · by_cases hjj : id = j
      · omega
      · have hj' : R j ≠ none := by simpa [updF, hjj] using hj
        rw [hβ j hj'] at e
        subst hii
        simp only [updF, if_true] at e
        have := h.lt hj'
        omega
    · have hi' : R i ≠ none := by simpa [updF, hii] using hi
      by_cases hjj : id = j
      · rw [hβ i hi'] at e
        subst hjj
        simp only [updF, if_true] at e
        have := h.lt hi'
        omega
      · have hj' : R j ≠ none := by simpa [updF, hjj] using hj
        rw [hβ i hi', hβ j hj'] at e
        exact h.inj i j hi' hj' e
  · by_cases e : d = s
    · simp only [updF, if_pos e] at hi
      have := hv i hi
      subst this
      simp [updF]
    · simp only [updF, if_neg e] at hi
      have := h.closed s i hi
      by_cases hii : id = i
      · subst hii; simp [updF]
      · simpa [updF, hii] using this
  · exact h.below.alloc h.below.size _
  · simp [Act.put, h.size]
  · simp [Act.put, h.defers]

/-- One of the call's own rows is written. -/
theorem RepB.write {C : Ctx} {F : Nat → AV} {R : Nat → Option Row} {β : Nat → Nat} {a : Act} {w : World} (h : RepB C F R β a w)
    {id : Nat} (hi : R id ≠ none) {c c' : Array Value} {t : TypeId} (hh : w.heap[β id]? = some (.cells c t (0, 0))) (hs : c.size ≤ c'.size) {r : Row} (hn : r.n ≤ c'.size)
    (hc : ∀ j, j < r.n → c'[j]? = some (.int r.k (r.f j))) :
    RepB C F (updF R id (some r)) β a (w.setRow (β id) c') := by
  have same := setRow_heap w (β id) c c' t (0, 0) hh
  have other : ∀ b, b ≠ β id → (w.setRow (β id) c').heap[b]? = w.heap[b]? := fun b hb => setRow_other w (β id) b c' hb
  have owns : ∀ b, own C (updF R id (some r)) β b ↔ own C R β b := fun b => by
    constructor
    · rintro (hO | ⟨i, hi', e⟩)
      · exact .inl hO
      by_cases hii : id = i
      · subst hii; exact .inr ⟨id, hi, e⟩
      · exact .inr ⟨i, by simpa [updF, hii] using hi', e⟩
    · rintro (hO | ⟨i, hi', e⟩)
      · exact .inl hO
      refine .inr ⟨i, ?_, e⟩
      by_cases hii : id = i
      · simp [updF, hii]
      · simpa [updF, hii] using hi'
  have Rne : ∀ i, updF R id (some r) i ≠ none ↔ R i ≠ none := fun i => by
    by_cases hii : id = i
    · subst hii; simp [updF, hi]
    · simp [updF, hii]
  refine ⟨fun s => ?_, fun i r' hr => ?_, fun i hi' => h.base i ((Rne i).1 hi'), fun i j hi' hj' e => h.inj i j ((Rne i).1 hi') ((Rne j).1 hj') e, fun s i hi' => (Rne i).2 (h.closed s i hi'), ?_, h.size, h.defers⟩
  · refine den_change (fun b _ ho => ⟨fun ho' => ho ((owns b).1 ho'), other b (fun e => ho (.inr ⟨id, hi, e.symm⟩))⟩) _ (fun i hi' => ⟨rfl, fun c1 t1 hc1 => ?_⟩) _ (h.slot s)
    by_cases hii : i = id
    · subst hii
      rw [hh] at hc1
      injection hc1 with hc1
      injection hc1 with e1 e2
      subst e1
      exact ⟨c', t, same, hs⟩
    · exact ⟨c1, t1, by rw [other _ (fun e => hii (h.inj i id (h.closed s i hi') hi e))]; exact hc1, Nat.le_refl _⟩
  · by_cases hii : id = i
    · subst hii
      simp only [updF, if_true, Option.some.injEq] at hr
      subst hr
      exact ⟨c', t, same, hn, hc⟩
    · have hr' : R i = some r' := by simpa [updF, hii] using hr
      obtain ⟨c1, t1, hh1, hn1, hc1⟩ := h.row i r' hr'
      exact ⟨c1, t1, by rw [other _ (fun e => hii (h.inj i id (by rw [hr']; simp) hi e).symm)]; exact hh1, hn1, hc1⟩
  · refine h.below.trans ⟨rfl, rfl, rfl, by simp, fun b hb => other b ?_⟩
    have := h.base id hi
    omega

/-- A row of the call's own is given up: no slot names it any more. -/
theorem Rep.drop {C : Ctx} {F : Nat → AV} {R R' : Nat → Option Row} {a : Act} {w : World} (h : Rep C F R a w) (hR : ∀ id, R' id = R id ∨ R' id = none)
    (hc : ∀ s id, (F s).refs id = true → R' id ≠ none) : Rep C F R' a w := by
  obtain ⟨β, h⟩ := h
  have hne : ∀ id, R' id ≠ none → R id ≠ none := fun id hi e => by rcases hR id with k | k <;> simp_all
  refine ⟨β, fun s => ?_, fun id r hr => h.row id r ?_, fun id hi => h.base id (hne id hi), fun i j hi hj e => h.inj i j (hne i hi) (hne j hj) e, hc, h.below, h.size, h.defers⟩
  · exact den_change (fun b _ ho => ⟨fun k => ho (k.imp id fun ⟨i, hi, e⟩ => ⟨i, hne i hi, e⟩), rfl⟩) _ (fun i hi => ⟨rfl, fun c t hc => ⟨c, t, hc, Nat.le_refl _⟩⟩) _ (h.slot s)
  · rcases hR id with k | k
    · rw [← k]; exact hr
    · rw [k] at hr; cases hr

end Go.Proofs.YtijoifajbmhgdaaGreat.Sym
