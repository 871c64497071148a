/- The operations that write a row of the call's own; one step of the small machine; a region in the order of the text. -/
import Derived.Test.YtijoifajbmhgdaaGreatSymE
import Derived.Laws.AppendOwn
namespace Go.Proofs.YtijoifajbmhgdaaGreat.Sym
open Go Go.RowKit
set_option linter.unusedSimpArgs false
set_option linter.unusedVariables false

structure St where
  F : List (Nat × AV)
  R : List (Nat × Row)

def lk : List (Nat × AV) → Nat → AV
  | [], _ => .und
  | (s, v) :: r, t => if s = t then v else lk r t

theorem lk_cons (F : List (Nat × AV)) (d : Nat) (v : AV) : lk ((d, v) :: F) = updF (lk F) d v := rfl
theorem look_cons (R : List (Nat × Row)) (d : Nat) (r : Row) : look ((d, r) :: R) = updF (look R) d (some r) := by funext t; rfl

def kill (id : Nat) : List (Nat × AV) → List (Nat × AV)
  | [] => []
  | (s, v) :: r => (s, if v.refs id = true then .und else v) :: kill id r

theorem kill_lk (id : Nat) : ∀ (F : List (Nat × AV)) (s : Nat), lk (kill id F) s = if (lk F s).refs id = true then .und else lk F s
  | [], s => by simp [kill, lk, AV.refs]
  | (t, v) :: r, s => by
    simp only [kill, lk]
    by_cases e : t = s
    · simp only [if_pos e]
    · simp only [if_neg e]; exact kill_lk id r s

structure WOut where
  pre : Prop
  id : Nat
  row : Row
  v : AV

def WOut.fail : WOut := ⟨False, 0, ⟨.i64, 0, fun _ => 0⟩, .und⟩

def stA (ty : Option Ty) (x y : AV) (R : Nat → Option Row) : WOut :=
  match x, y, ty with
  | .elt id i, .int k z, some (.int _) => match R id with
    | some r => ⟨r.k = k ∧ i < r.n, id, ⟨r.k, r.n, updF r.f i z⟩, .und⟩
    | none => .fail
  | .elt id i, .arr k n f, some (.arr k' n' _) => match R id with
    | some r => ⟨i = 0 ∧ k = k' ∧ n = n' ∧ r.n = n, id, ⟨k, n, f⟩, .und⟩
    | none => .fail
  | _, _, _ => .fail

def appF (n : Nat) (f g : Nat → Int) : Nat → Int := fun j => if j < n then f j else g (j - n)
def cpF (o n : Nat) (f g : Nat → Int) : Nat → Int := fun j => if o ≤ j ∧ j < o + n then g (j - o) else f j

/-- What a slice value holds: premise, kind, length, numbers. -/
structure SlOut where
  pre : Prop
  k : IntKind
  n : Nat
  f : Nat → Int

def readSl (x : AV) (not : Nat) (R : Nat → Option Row) : SlOut :=
  match x with
  | .rsl k n f => ⟨True, k, n, f⟩
  | .sl id o n => match R id with
    | some r => ⟨id ≠ not ∧ o + n ≤ r.n, r.k, n, shF r.f o⟩
    | none => ⟨False, .i64, 0, fun _ => 0⟩
  | _ => ⟨False, .i64, 0, fun _ => 0⟩

def isSl : Option Ty → Prop
  | some (.sl _ _) => True
  | _ => False

def appA (ty ty' : Option Ty) (x y : AV) (R : Nat → Option Row) : WOut :=
  match x, ty with
  | .sl id o n, some (.sl k _) => match R id with
    | some r => ⟨o = 0 ∧ r.n = n ∧ r.k = k ∧ (readSl y id R).pre ∧ (readSl y id R).k = k ∧ n + (readSl y id R).n ≤ 1048576 ∧ isSl ty', id,
        ⟨k, n + (readSl y id R).n, appF n r.f (readSl y id R).f⟩, .sl id 0 (n + (readSl y id R).n)⟩
    | none => .fail
  | _, _ => .fail

def copyA (ty : Option Ty) (x y : AV) (R : Nat → Option Row) : WOut :=
  match x, y, ty with
  | .sl id o n, .rsl k m g, some (.sl k' _) => match R id with
    | some r => ⟨o + n ≤ r.n ∧ r.k = k ∧ k' = k, id, ⟨k, r.n, cpF o (min m n) r.f g⟩, .int .i64 (min m n : Nat)⟩
    | none => .fail
  | _, _, _ => .fail

theorem run_store_seg {P : Program} {w : World} {b : Nat} {c : Array Value} {t : TypeId} (hh : w.heap[b]? = some (.cells c t (0, 0))) (k : IntKind) (n : Nat) (f : Nat → Int) (o : Nat) (ho : o + n ≤ c.size) :
    ∃ c' : Array Value, (storeCells ⟨b, o, none⟩ (cellsL k n f) 0).run P w = .ok () (w.setRow b c') ∧ c'.size = c.size ∧ ∀ i, c'[i]? = if o ≤ i ∧ i < o + n then some (.int k (f (i - o))) else c[i]? := by
  have h := run_storeCells_at (P := P) b o t (cellsL k n f) 0 c w hh (by rw [cellsL_length]; omega) (cells_one k n f)
  refine ⟨_, h, ?_, fun i => ?_⟩
  · simp [cellsL_length]; omega
  · rw [List.getElem?_toArray]
    have hlt : (List.take (o + 0) c.toList).length = o := by simp; omega
    by_cases h1 : i < o
    · rw [if_neg (by omega), List.append_assoc, List.getElem?_append_left (by rw [hlt]; exact h1), List.getElem?_take, if_pos (by omega)]
      simp
    · by_cases h2 : i < o + n
      · rw [if_pos ⟨by omega, h2⟩, List.append_assoc, List.getElem?_append_right (by rw [hlt]; omega), hlt, List.getElem?_append_left (by rw [cellsL_length]; omega), cellsL_get, if_pos (by omega)]
      · rw [if_neg (by omega), List.append_assoc, List.getElem?_append_right (by rw [hlt]; omega), hlt, List.getElem?_append_right (by rw [cellsL_length]; omega), cellsL_length, List.getElem?_drop]
        rw [Array.getElem?_toList]
        congr 1
        omega

theorem run_cells_of {P : Program} {w : World} {b o : Nat} {k : IntKind} {n : Nat} {f : Nat → Int} (h : ∀ j, j < n → w.cell? ⟨b, o + j, none⟩ = some (.int k (f j))) :
    (loadCells ⟨b, o, none⟩ n).run P w = .ok (cells k n f) w := by
  have hl := run_loadCells_list (P := P) (w := w) ⟨b, o, none⟩ (cellsL k n f) (fun j v hv => by
    rw [cellsL_get] at hv
    by_cases hj : j < n
    · rw [if_pos hj] at hv; rw [add_mid, h j hj]; exact hv
    · rw [if_neg hj] at hv; cases hv)
  rw [cellsL_length] at hl
  exact hl

/-- What a slice holds is read. -/
theorem run_first {P : Program} {C : Ctx} {F : Nat → AV} {R : Nat → Option Row} {β : Nat → Nat} {a : Act} {w : World} (hB : RepB C F R β a w) {x : AV} {v : Value} (not : Nat) (hx : den w β (own C R β) x v) (hp : (readSl x not R).pre) :
    (∃ p cap, v = .slice p (readSl x not R).n cap) ∧ ∀ m, m ≤ (readSl x not R).n → (Builtin.firstCells 1 m v).run P w = .ok (cells (readSl x not R).k m (readSl x not R).f) w := by
  unfold readSl at hp ⊢
  split at hp
  · rename_i k n f
    obtain ⟨p, cap, rfl, hle, hc⟩ := hx
    refine ⟨⟨p, cap, rfl⟩, fun m hm => ?_⟩
    simp only at hm ⊢
    rcases hc with rfl | ⟨b, o, rfl, _, hc⟩
    · obtain rfl : m = 0 := by omega
      cases p <;> simp [Builtin.firstCells, loadCells, loadCellsFrom, cells, cellsL]
    · simp only [Builtin.firstCells, Nat.mul_one]
      exact run_cells_of fun j hj => hc j (by omega)
  · rename_i id o n
    obtain ⟨cap, c, t, rfl, hle, hh, hcs⟩ := hx
    cases hr : R id with
    | none => simp [hr] at hp
    | some r =>
      simp only [hr] at hp ⊢
      refine ⟨⟨_, cap, rfl⟩, fun m hm => ?_⟩
      obtain ⟨c', t', hh', hn, hc⟩ := hB.row id r hr
      simp only [Builtin.firstCells, Nat.mul_one]
      exact run_cells_of fun j hj => by rw [cell_row hh']; exact hc (o + j) (by omega)
  · exact hp.elim

section
variable {E : Env} {C : Ctx} {σ : St} {a : Act} {w : World} {o : Oper} {d : Nat} {K : Act → World → Prop} {Q : Exit → Act → World → Prop}

def Rp (C : Ctx) (σ : St) (a : Act) (w : World) : Prop := Rep C (lk σ.F) (look σ.R) a w

theorem store_sound (hE : E.Ok) (hr : Rp C σ a w) (hd : o.dst = none) (t : TypeId) (x y : Operand) (ho : o.op = .store t x y)
    (hp : (stA (look E.ty t) (evA (lk σ.F) x) (evA (lk σ.F) y) (look σ.R)).pre)
    (hK : ∀ a' w', Rp C ⟨σ.F, ((stA (look E.ty t) (evA (lk σ.F) x) (evA (lk σ.F) y) (look σ.R)).id, (stA (look E.ty t) (evA (lk σ.F) x) (evA (lk σ.F) y) (look σ.R)).row) :: σ.R⟩ a' w' → K a' w') : o.wp E.P a w K Q := by
  obtain ⟨β, hB⟩ := hr
  have hx := evA_den hB x
  have hy := evA_den hB y
  have ex : (execOp a.eval o).run E.P w = ((Instr.storeAt t (a.eval x) (a.eval y)).run E.P w).andThen fun _ w' => .ok .skip w' := by
    unfold execOp; simp only [ho]; simp
  unfold stA at hp hK
  split at hp
  · rename_i id i k z k' hvx hvy hty
    simp only [hvx, hvy, hty] at hK
    cases hr : look σ.R id with
    | none => simp [hr, WOut.fail] at hp
    | some r =>
      simp only [hr] at hp hK
      obtain ⟨hk, hi⟩ := hp
      rw [hvx] at hx; rw [hvy] at hy
      simp only [den] at hx hy
      have hT := hE.ty t _ hty
      obtain ⟨c, t', hh, hn, hc⟩ := hB.row id r hr
      have hcell : w.cell? ⟨β id, i, none⟩ = some (.int r.k (r.f i)) := by rw [cell_row hh]; exact hc i hi
      have hfz : w.frozen? ⟨β id, i, none⟩ = false := frozen_of_row w (β id) i c t' hh
      have hset := setCell_eq_setRow w (β id) i c t' (0, 0) (.int k z) hh
      have hrun : (execOp a.eval o).run E.P w = .ok .skip (w.setRow (β id) (c.setIfInBounds i (.int k z))) := by
        rw [ex, hx, hy]
        simp only [Instr.storeAt, Instr.sureAddr, Sem.run_bind, Sem.run_pure, Result.andThen_ok, storeVar, run_size (size_of_zs hT.2), Value.cells]
        simp [storeCells, store, Sem.run, Addr.add, hcell, hfz, hset]
      unfold Oper.wp
      rw [hrun]
      simp only [Oper.upon, hd, Act.put]
      refine hK _ _ ⟨β, ?_⟩
      simp only [look_cons]
      refine hB.write (by rw [hr]; simp) hh (by simp) (by simpa using hn) (fun j hj => ?_)
      simp only [updF]
      by_cases e : i = j
      · subst e; rw [if_pos rfl, Array.getElem?_setIfInBounds_self_of_lt (Nat.lt_of_lt_of_le hi hn), hk]
      · rw [if_neg e, Array.getElem?_setIfInBounds_ne e]; exact hc j hj
  · rename_i id i k n f k' n' e hvx hvy hty
    simp only [hvx, hvy, hty] at hK
    cases hr : look σ.R id with
    | none => simp [hr, WOut.fail] at hp
    | some r =>
      simp only [hr] at hp hK
      obtain ⟨rfl, rfl, rfl, hn⟩ := hp
      rw [hvx] at hx; rw [hvy] at hy
      simp only [den] at hx hy
      have hT := hE.ty t _ hty
      obtain ⟨c, t', hh, hcn, hc⟩ := hB.row id r hr
      have hsz := size_of_zs hT.2.2.2.1
      obtain ⟨cur', hst, hcs, hco⟩ := run_store_seg (P := E.P) hh k n f 0 (by omega)
      have hrun : (execOp a.eval o).run E.P w = .ok .skip (w.setRow (β id) cur') := by
        rw [ex, hx, hy]
        simp only [Instr.storeAt, Instr.sureAddr, Sem.run_bind, Sem.run_pure, Result.andThen_ok, storeVar, run_size hsz, Value.cells]
        simp [cells, hst, cellsL_length]
      unfold Oper.wp
      rw [hrun]
      simp only [Oper.upon, hd, Act.put]
      refine hK _ _ ⟨β, ?_⟩
      simp only [look_cons]
      exact hB.write (by rw [hr]; simp) hh (by omega) (by simp only; omega) (fun j hj => by rw [hco, if_pos ⟨by omega, by simp only at hj; omega⟩]; simp)
  · exact hp.elim

theorem next_fits {need cap bytes : Nat} (h : cap < need) (hb : bytes ≤ 8) (hn : need ≤ 1048576) : Builtin.nextslicecap need cap * bytes ≤ 281474976710656 := by
  refine growslice_fits h ?_
  have := Nat.mul_le_mul hn hb
  omega

/-- Where the row is no more the call's own, and no slot names it. -/
theorem Rep.lose {C : Ctx} {F : Nat → AV} {R : Nat → Option Row} {a : Act} {w : World} (h : Rep C F R a w) (id : Nat) (hF : ∀ s, (F s).refs id = false) :
    Rep C F (fun i => if i = id then none else R i) a w := by
  refine h.drop (fun i => ?_) (fun s i hi => ?_)
  · by_cases e : i = id
    · right; simp [e]
    · left; simp [e]
  · have e : i ≠ id := fun e => by rw [e, hF s] at hi; cases hi
    obtain ⟨β, hB⟩ := h
    simpa [e] using hB.closed s i hi

theorem app_sound (hE : E.Ok) (hr : Rp C σ a w) (x y : Operand) (t t' : TypeId) (ty : TypeId) (pos : String) (after : Array Edge) (gd : Option (Nat × Bool)) (hlt : d < C.sz)
    (hp : (appA (look E.ty t) (look E.ty t') (evA (lk σ.F) x) (evA (lk σ.F) y) (look σ.R)).pre)
    (hK : ∀ a' w', Rp C ⟨(d, (appA (look E.ty t) (look E.ty t') (evA (lk σ.F) x) (evA (lk σ.F) y) (look σ.R)).v) :: kill (appA (look E.ty t) (look E.ty t') (evA (lk σ.F) x) (evA (lk σ.F) y) (look σ.R)).id σ.F,
      ((appA (look E.ty t) (look E.ty t') (evA (lk σ.F) x) (evA (lk σ.F) y) (look σ.R)).id, (appA (look E.ty t) (look E.ty t') (evA (lk σ.F) x) (evA (lk σ.F) y) (look σ.R)).row) :: σ.R⟩ a' w' → K a' w') :
    (Oper.mk (some d) (.call ⟨.builtin .append, #[x, y], #[t, t']⟩) ty pos after gd).wp E.P a w K Q := by
  have hr0 := hr
  obtain ⟨β, hB⟩ := hr
  have hx := evA_den hB x
  have hy := evA_den hB y
  unfold appA at hp hK
  split at hp
  case h_2 => exact hp.elim
  rename_i id o n k e hvx hty
  simp only [hvx, hty] at hK
  cases hR : look σ.R id with
  | none => simp [hR, WOut.fail] at hp
  | some r =>
  simp only [hR] at hp hK
  obtain ⟨rfl, hrn, rfl, hpre, hk, hsmall, hsl⟩ := hp
  rw [hvx] at hx
  obtain ⟨cap, c, t1, hxv, hle, hh, hcap⟩ := hx
  obtain ⟨⟨p, cap', hyv⟩, hfirst⟩ := run_first (P := E.P) hB id hy hpre
  obtain ⟨c0, t0, hh0, hn0, hc0⟩ := hB.row id r hR
  rw [hh] at hh0
  injection hh0 with hh0
  injection hh0 with e1 e2
  subst e1 e2
  obtain ⟨T1, T2, T3, T4⟩ := hE.ty t _ hty
  have hT' : ∃ e', E.P.underlying t' = some (.slice e') := by
    unfold isSl at hsl
    split at hsl
    · rename_i k' e' hty'
      exact ⟨e', (hE.ty t' _ hty').1⟩
    · exact hsl.elim
  obtain ⟨e', hT'⟩ := hT'
  have hBd := hB.go (Below.refl w.heap.size w).drew
  have hfirst2 := (run_first (P := E.P) hBd id (evA_den hBd y) hpre).2
  generalize readSl (evA (lk σ.F) y) id (look σ.R) = S at hpre hk hsmall hyv hfirst hfirst2 hK
  obtain ⟨Sp, Sk, Sn, Sf⟩ := S
  simp only at hpre hk hsmall hyv hfirst hfirst2 hK
  subst hk
  cases hq : E.P.info? e with
  | none => simp [hq] at T3
  | some i =>
  simp [hq] at T3
  have hbytes : i.bytes ≤ 8 := by simpa [Program.bytesOf, hq] using T4
  have hzeros : ∀ w, (underlying t').run E.P w = .ok (.slice e') w := fun w => run_und hT' w
  have killed : ∀ s, (lk (kill id σ.F) s).refs id = false := fun s => by
    rw [kill_lk]
    split
    · rfl
    · rename_i h; simpa using h
  have weak : Rep C (lk (kill id σ.F)) (look σ.R) a w := hr0.weak fun s => by
    rw [kill_lk]; split
    · right; rfl
    · left; rfl
  by_cases hroom : n + Sn ≤ cap
  · obtain ⟨cur', hst, hcs, hco⟩ := run_store_seg (P := E.P) hh r.k Sn Sf n (by omega)
    have hrun : (execOp a.eval (Oper.mk (some d) (.call ⟨.builtin .append, #[x, y], #[t, t']⟩) ty pos after gd)).run E.P w = .ok (.value (.slice (some ⟨β id, 0, none⟩) (n + Sn) cap)) (w.setRow (β id) cur') := by
      simp [execOp, resolve, invoke, builtin, hxv, hyv, Builtin.append_, run_und T1, hzeros, sizeOf, typeInfo, hq, T3.2, Builtin.lenOf, hroom, add_mid]
      rw [← hyv, hfirst Sn (Nat.le_refl _)]
      simp [cells, hst]
    unfold Oper.wp
    rw [hrun]
    simp only [Oper.upon]
    obtain ⟨β', hB'⟩ := weak
    -- the same blocks: take the representation at hand
    have hBk : RepB C (lk (kill id σ.F)) (look σ.R) β a w := { hB with
      slot := fun s => by
        rw [kill_lk]; split
        · trivial
        · exact hB.slot s
      closed := fun s i hi => by
        rw [kill_lk] at hi; split at hi
        · simp [AV.refs] at hi
        · exact hB.closed s i hi }
    have hW := hBk.write (id := id) (by rw [hR]; simp) hh (c' := cur') (by omega) (r := ⟨r.k, n + Sn, appF n r.f Sf⟩) (by simp only; omega) (fun j hj => by
      simp only at hj ⊢
      rw [hco]
      unfold appF
      by_cases hjn : j < n
      · rw [if_neg (by omega), if_pos hjn]; exact hc0 j (by omega)
      · rw [if_pos ⟨by omega, by omega⟩, if_neg hjn])
    refine hK _ _ ⟨β, ?_⟩
    simp only [look_cons, lk_cons]
    refine hW.put (Below.refl _ _) hlt ⟨cap, cur', t1, rfl, hroom, setRow_heap w (β id) c cur' t1 _ hh, by omega⟩ (fun i hi => ?_)
    simp only [AV.refs, beq_iff_eq] at hi
    subst hi
    simp [updF]
  · have hcapn : cap < n + Sn := by omega
    have hnext := next_fits hcapn hbytes hsmall
    have hge := grownCap_ge w (n + Sn) cap e
    have hold : ∀ w', w'.heap = w.heap → (Builtin.firstCells 1 n (.slice (some ⟨β id, 0, none⟩) n cap)).run E.P w' = .ok (cells r.k n r.f) w' := fun w' hw' => by
      simp only [Builtin.firstCells, Nat.mul_one]
      refine run_cells_of fun j hj => ?_
      rw [cell_row (c := c) (t := t1) (fr := (0, 0)) (by rw [hw']; exact hh)]
      simpa using hc0 j (by omega)
    have hnew := hfirst2 Sn (Nat.le_refl _)
    have h63 : ¬ (9223372036854775807 < ((n : Int) + (Sn : Int))) := by omega
    have h48 : ¬ (281474976710656 < Builtin.nextslicecap (n + Sn) cap * i.bytes) := by omega
    have hmark : ∀ (m : Nat) (w' : World), (askRoom m).run E.P w' = .ok () w' := fun m w' => by
      unfold askRoom; split <;> rfl
    have hrun : (execOp a.eval (Oper.mk (some d) (.call ⟨.builtin .append, #[x, y], #[t, t']⟩) ty pos after gd)).run E.P w =
        .ok (.value (.slice (some ⟨w.heap.size, 0, none⟩) (n + Sn) (grownCap w (n + Sn) cap e)))
          (w.drew.alloc (.cells (cells r.k n r.f ++ cells r.k Sn Sf ++ Builtin.zeroCells #[.int r.k 0] (grownCap w (n + Sn) cap e - (n + Sn))) e)) := by
      have hy2 : a.eval y = .slice p Sn cap' := hyv
      rw [hy2] at hnew
      have hold' := hold w.drew rfl
      simp [execOp, resolve, invoke, builtin, hxv, hyv, Builtin.append_, run_und T1, hzeros, sizeOf, typeInfo, zeroValue, hq, T3.1, T3.2, Builtin.lenOf, hroom, h63, h48, Question.forced, hmark, hold', hnew, newRow, grownCap, Value.cells]
    unfold Oper.wp
    rw [hrun]
    simp only [Oper.upon]
    obtain ⟨β', hB'⟩ := (weak.lose id killed).drew
    have hnew2 := hB'.new (d := d) hlt (id := id) (by simp) (c := cells r.k n r.f ++ cells r.k Sn Sf ++ Builtin.zeroCells #[.int r.k 0] (grownCap w (n + Sn) cap e - (n + Sn))) (t := e)
      (r := ⟨r.k, n + Sn, appF n r.f Sf⟩) (by simp [cells_size]) (fun j hj => by
        simp only at hj ⊢
        rw [Array.getElem?_append_left (by simp [cells_size]; omega)]
        unfold appF
        by_cases hjn : j < n
        · rw [Array.getElem?_append_left (by rw [cells_size]; exact hjn), cells_get, if_pos hjn, if_pos hjn]
        · rw [Array.getElem?_append_right (by rw [cells_size]; omega), cells_size, cells_get, if_pos (by omega), if_neg hjn])
      (x := .slice (some ⟨w.heap.size, 0, none⟩) (n + Sn) (grownCap w (n + Sn) cap e)) (v := .sl id 0 (n + Sn))
      ⟨_, _, e, by simp only [updF, if_true]; rfl, hge, by simp only [updF, if_true]; exact heap_alloc_new w.drew _, by simp [cells_size, size_zeroCells]; omega⟩
      (fun i hi => by simp only [AV.refs, beq_iff_eq] at hi; exact hi.symm)
    refine hK _ _ ⟨updF β' id w.drew.heap.size, ?_⟩
    simp only [look_cons, lk_cons]
    have hRR : updF (look σ.R) id (some (⟨r.k, n + Sn, appF n r.f Sf⟩ : Row)) = updF (fun i => if i = id then none else look σ.R i) id (some ⟨r.k, n + Sn, appF n r.f Sf⟩) := by
      funext i
      unfold updF
      by_cases ei : id = i
      · rw [if_pos ei, if_pos ei]
      · rw [if_neg ei, if_neg ei]; simp only; rw [if_neg (Ne.symm ei)]
    rw [hRR]
    exact hnew2

theorem copy_sound (hE : E.Ok) (hr : Rp C σ a w) (x y : Operand) (t t' : TypeId) (ty : TypeId) (pos : String) (after : Array Edge) (gd : Option (Nat × Bool)) (hlt : d < C.sz)
    (hp : (copyA (look E.ty t) (evA (lk σ.F) x) (evA (lk σ.F) y) (look σ.R)).pre)
    (hK : ∀ a' w', Rp C ⟨(d, (copyA (look E.ty t) (evA (lk σ.F) x) (evA (lk σ.F) y) (look σ.R)).v) :: σ.F,
      ((copyA (look E.ty t) (evA (lk σ.F) x) (evA (lk σ.F) y) (look σ.R)).id, (copyA (look E.ty t) (evA (lk σ.F) x) (evA (lk σ.F) y) (look σ.R)).row) :: σ.R⟩ a' w' → K a' w') :
    (Oper.mk (some d) (.call ⟨.builtin .copy, #[x, y], #[t, t']⟩) ty pos after gd).wp E.P a w K Q := by
  obtain ⟨β, hB⟩ := hr
  have hx := evA_den hB x
  have hy := evA_den hB y
  unfold copyA at hp hK
  split at hp
  case h_2 => exact hp.elim
  rename_i id o n k m g k' e hvx hvy hty
  simp only [hvx, hvy, hty] at hK
  cases hR : look σ.R id with
  | none => simp [hR, WOut.fail] at hp
  | some r =>
  simp only [hR] at hp hK
  obtain ⟨hon, hk, rfl⟩ := hp
  subst hk
  rw [hvx] at hx; rw [hvy] at hy
  obtain ⟨cap, c, t1, hxv, hle, hh, hcap⟩ := hx
  obtain ⟨c0, t0, hh0, hn0, hc0⟩ := hB.row id r hR
  rw [hh] at hh0
  injection hh0 with hh0
  injection hh0 with e1 e2
  subst e1 e2
  obtain ⟨T1, T2, T3, T4⟩ := hE.ty t _ hty
  have hf := (run_first (P := E.P) (x := .rsl r.k m g) (R := look σ.R) hB id hy trivial)
  obtain ⟨⟨p, cap', hyv⟩, hf⟩ := hf
  simp only [readSl] at hyv hf
  have hmin : Nat.min m n = min m n := rfl
  obtain ⟨cur', hst, hcs, hco⟩ := run_store_seg (P := E.P) hh r.k (min m n) g o (by omega)
  have hfm := hf (min m n) (by omega)
  cases hq : E.P.info? e with
  | none => simp [hq] at T3
  | some i =>
  simp [hq] at T3
  have hrun : (execOp a.eval (Oper.mk (some d) (.call ⟨.builtin .copy, #[x, y], #[t, t']⟩) ty pos after gd)).run E.P w = .ok (.value (.int .i64 (min m n : Nat))) (w.setRow (β id) cur') := by
    rw [hyv] at hfm
    simp only [execOp, resolve, invoke, builtin, Sem.run_bind, Sem.run_pure, Result.andThen_ok, List.map_toArray, List.map_cons, List.map_nil, hxv, hyv]
    simp [Builtin.copy_, run_und T1, sizeOf, typeInfo, hq, T3.2, Builtin.lenOf, hmin, hfm, cells, hst, goInt]
  unfold Oper.wp
  rw [hrun]
  simp only [Oper.upon]
  have hW := hB.write (id := id) (by rw [hR]; simp) hh (c' := cur') (by omega) (r := ⟨r.k, r.n, cpF o (min m n) r.f g⟩) (by simp only; omega) (fun j hj => by
    simp only at hj ⊢
    rw [hco]
    unfold cpF
    by_cases hjn : o ≤ j ∧ j < o + min m n
    · rw [if_pos hjn, if_pos hjn]
    · rw [if_neg hjn, if_neg hjn]; exact hc0 j hj)
  refine hK _ _ ⟨β, ?_⟩
  simp only [look_cons, lk_cons]
  exact hW.put (Below.refl _ _) hlt rfl (fun i hi => by simp [AV.refs] at hi)

end

/-! ### One step -/
structure StepOut where
  pre : Prop
  σ : St

def addR (d : Nat) : Option Row → List (Nat × Row) → List (Nat × Row)
  | none, R => R
  | some r, R => (d, r) :: R

def headStep (E : Env) (sz : Nat) (o : Oper) (σ : St) : StepOut :=
  match o.dst with
  | none => ⟨False, σ⟩
  | some d => ⟨d < sz ∧ (hd E o.op d (lk σ.F) (look σ.R)).pre ∧ ((hd E o.op d (lk σ.F) (look σ.R)).row = none ∨ look σ.R d = none),
      ⟨(d, (hd E o.op d (lk σ.F) (look σ.R)).v) :: σ.F, addR d (hd E o.op d (lk σ.F) (look σ.R)).row σ.R⟩⟩

def wrStep (sz : Nat) (h : WOut) (dst : Option Nat) (σ : St) : StepOut :=
  match dst with
  | none => ⟨False, σ⟩
  | some d => ⟨d < sz ∧ h.pre, ⟨(d, h.v) :: kill h.id σ.F, (h.id, h.row) :: σ.R⟩⟩

def stStep (h : WOut) (dst : Option Nat) (σ : St) : StepOut :=
  match dst with
  | none => ⟨h.pre, ⟨σ.F, (h.id, h.row) :: σ.R⟩⟩
  | some _ => ⟨False, σ⟩

def cpStep (sz : Nat) (h : WOut) (dst : Option Nat) (σ : St) : StepOut :=
  match dst with
  | none => ⟨False, σ⟩
  | some d => ⟨d < sz ∧ h.pre, ⟨(d, h.v) :: σ.F, (h.id, h.row) :: σ.R⟩⟩

/-- What kind of step an operation takes. -/
inductive Kind where
  | head | store (t : TypeId) (x y : Operand) | app (t t' : TypeId) (x y : Operand) | copy (t : TypeId) (x y : Operand)

def kindOf (op : Op) : Kind :=
  match op with
  | .store t x y => .store t x y
  | .call ⟨.builtin .append, ⟨[x, y]⟩, ⟨[t, t']⟩⟩ => .app t t' x y
  | .call ⟨.builtin .copy, ⟨[x, y]⟩, ⟨[t, _]⟩⟩ => .copy t x y
  | _ => .head

def opStep (E : Env) (sz : Nat) (o : Oper) (σ : St) : StepOut :=
  match kindOf o.op with
  | .store t x y => stStep (stA (look E.ty t) (evA (lk σ.F) x) (evA (lk σ.F) y) (look σ.R)) o.dst σ
  | .app t t' x y => wrStep sz (appA (look E.ty t) (look E.ty t') (evA (lk σ.F) x) (evA (lk σ.F) y) (look σ.R)) o.dst σ
  | .copy t x y => cpStep sz (copyA (look E.ty t) (evA (lk σ.F) x) (evA (lk σ.F) y) (look σ.R)) o.dst σ
  | .head => headStep E sz o σ

def wantA (all : List Oper) (o : Oper) (F : Nat → AV) : Option Bool :=
  match o.guard with
  | none => some true
  | some (g, b) => match (all[g]?).bind (·.dst) with
    | none => none
    | some t => match F t with
      | .bool x => some (x == b)
      | .skp => some false
      | _ => none

def skipStep (sz : Nat) (dst : Option Nat) (σ : St) : StepOut :=
  match dst with
  | none => ⟨False, σ⟩
  | some d => ⟨d < sz, ⟨(d, .skp) :: σ.F, σ.R⟩⟩

def stepW (E : Env) (sz : Nat) (o : Oper) (σ : St) : Option Bool → StepOut
  | some true => opStep E sz o σ
  | some false => skipStep sz o.dst σ
  | none => ⟨False, σ⟩

def stp (E : Env) (sz : Nat) (all : List Oper) (o : Oper) (σ : St) : StepOut := stepW E sz o σ (wantA all o (lk σ.F))

def evs (E : Env) (sz : Nat) (all : List Oper) : List Oper → St → (St → Prop) → Prop
  | [], σ, K => K σ
  | o :: r, σ, K => (stp E sz all o σ).pre ∧ evs E sz all r (stp E sz all o σ).σ K

section
variable {E : Env} {C : Ctx} {σ : St} {a : Act} {w : World} {o : Oper} {d : Nat} {K : Act → World → Prop} {Q : Exit → Act → World → Prop}

theorem addR_look (d : Nat) (r : Option Row) (R : List (Nat × Row)) : look (addR d r R) = updO (look R) d r := by
  cases r <;> rfl

theorem opStep_sound (hE : E.Ok) (hr : Rp C σ a w) (hp : (opStep E C.sz o σ).pre) (hK : ∀ a' w', Rp C (opStep E C.sz o σ).σ a' w' → K a' w') : o.wp E.P a w K Q := by
  obtain ⟨dst, op, ty, pos, after, gd⟩ := o
  unfold opStep at hp hK
  split at hp
  · rename_i t x y hk
    rw [hk] at hK
    have ho : op = .store t x y := by
      simp only at hk
      unfold kindOf at hk
      split at hk <;> first | (injection hk with h1 h2 h3; subst h1 h2 h3; rfl) | cases hk
    unfold stStep at hp hK
    cases dst with
    | none => exact store_sound hE hr rfl t x y ho hp hK
    | some d => exact hp.elim
  · rename_i t t' x y hk
    rw [hk] at hK
    have ho : op = .call ⟨.builtin .append, #[x, y], #[t, t']⟩ := by
      simp only at hk
      unfold kindOf at hk
      split at hk <;> first | (injection hk with h1 h2 h3 h4; subst h1 h2 h3 h4; rfl) | cases hk
    subst ho
    unfold wrStep at hp hK
    cases dst with
    | none => exact hp.elim
    | some d => exact app_sound hE hr x y t t' ty pos after gd hp.1 hp.2 hK
  · rename_i t x y hk
    rw [hk] at hK
    have ho : ∃ t', op = .call ⟨.builtin .copy, #[x, y], #[t, t']⟩ := by
      simp only at hk
      unfold kindOf at hk
      split at hk <;> first | (injection hk with h1 h2 h3; subst h1 h2 h3; exact ⟨_, rfl⟩) | cases hk
    obtain ⟨t', rfl⟩ := ho
    unfold cpStep at hp hK
    cases dst with
    | none => exact hp.elim
    | some d => exact copy_sound hE hr x y t t' ty pos after gd hp.1 hp.2 hK
  · rename_i hk
    rw [hk] at hK
    unfold headStep at hp hK
    cases dst with
    | none => exact hp.elim
    | some d =>
      refine hd_sound (o := ⟨some d, op, ty, pos, after, gd⟩) hE hr rfl hp.1 hp.2.1 hp.2.2 fun a' w' h => hK a' w' ?_
      unfold Rp
      rw [addR_look]
      exact h

/-- Whether an operation is wanted, as the machine asks it. -/
theorem want_sound {F : Nat → AV} {R : Nat → Option Row} {all : List Oper} {b : Bool} (hr : Rep C F R a w) (hl : ∀ o ∈ all, ∀ d, o.dst = some d → d < C.sz) (h : wantA all o F = some b) :
    Region.wanted o (yielded all.toArray a.tmps) = b := by
  obtain ⟨β, hB⟩ := hr
  unfold wantA at h
  unfold Region.wanted
  split at h
  · rename_i hg
    simp only [hg]
    injection h with h
  · rename_i g c hg
    simp only [hg]
    split at h
    · cases h
    · rename_i t ht
      have ht' : ((all.toArray[g]?).bind (·.dst)) = some t := by simpa using ht
      have hlt : t < a.tmps.size := by
        cases hq : all[g]? with
        | none => simp [hq] at ht
        | some og =>
          rw [hB.size]
          exact hl og (List.mem_of_getElem? hq) t (by simpa [hq] using ht)
      have hs := hB.slot t
      rw [Array.getD_eq_getD_getElem?, Array.getElem?_eq_getElem hlt] at hs
      simp only [Option.getD_some] at hs
      unfold yielded
      rw [ht']
      simp only [Option.bind_some]
      rw [Array.getElem?_eq_getElem hlt]
      split at h
      · rename_i x hx
        rw [hx] at hs
        simp only [den] at hs
        rw [hs]
        simp only [Option.some.injEq] at h
        subst h
        cases x <;> cases c <;> rfl
      · rename_i hx
        rw [hx] at hs
        simp only [den] at hs
        rw [hs]
        simp only [Option.some.injEq] at h
        subst h
        rfl
      · cases h

/-- One step at a list of operations. -/
theorem stp_sound {all rest : List Oper} {ops : Array Oper} (hops : ops = all.toArray) (hE : E.Ok) (hr : Rp C σ a w) (hl : ∀ o ∈ all, ∀ d, o.dst = some d → d < C.sz) (hp : (stp E C.sz all o σ).pre)
    (hK : ∀ a' w', Rp C (stp E C.sz all o σ).σ a' w' → wpList E.P ops Q rest a' w') : wpList E.P ops Q (o :: rest) a w := by
  subst hops
  refine wpList_step fun K hk => ?_
  unfold stp at hp hK
  cases hw : wantA all o (lk σ.F) with
  | none => rw [hw] at hp; exact hp.elim
  | some b =>
    rw [want_sound hr hl hw]
    rw [hw] at hp hK
    cases b with
    | true => simp only [if_true]; exact opStep_sound hE hr hp fun a' w' h => hk _ _ (hK a' w' h)
    | false =>
      simp only [Bool.false_eq_true, if_false]
      unfold stepW skipStep at hp hK
      simp only at hp hK
      cases hd : o.dst with
      | none => rw [hd] at hp; exact hp.elim
      | some d =>
        rw [hd] at hp hK
        obtain ⟨β, hB⟩ := hr
        exact hk _ _ (hK _ _ ⟨β, hB.put (Below.refl _ _) hp (x := undef) (v := .skp) rfl (fun id hi => by simp [AV.refs] at hi)⟩)

/-- A region in the order of the text. -/
theorem evs_sound {all : List Oper} {ops : Array Oper} (hops : ops = all.toArray) (hE : E.Ok) (hl : ∀ o ∈ all, ∀ d, o.dst = some d → d < C.sz) {Kσ : St → Prop} (hQ : ∀ σ' a' w', Kσ σ' → Rp C σ' a' w' → Q .normal a' w') :
    ∀ (l : List Oper) (σ : St) (a : Act) (w : World), Rp C σ a w → evs E C.sz all l σ Kσ → wpList E.P ops Q l a w
  | [], σ, a, w, hr, h => hQ σ a w h hr
  | o :: r, σ, a, w, hr, h => stp_sound hops hE hr hl h.1 fun a' w' hr' => evs_sound hops hE hl hQ r _ a' w' hr' h.2

end
end Go.Proofs.YtijoifajbmhgdaaGreat.Sym
