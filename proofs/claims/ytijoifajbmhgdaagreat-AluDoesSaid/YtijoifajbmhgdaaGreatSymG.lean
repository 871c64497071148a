/- A region whose order Go leaves open comes, in every order, to the state that the order of the text comes to. -/
import Derived.Test.YtijoifajbmhgdaaGreatSymF
namespace Go.Proofs.YtijoifajbmhgdaaGreat.Sym
open Go Go.RowKit
set_option linter.unusedSimpArgs false
set_option linter.unusedVariables false

/-! ### What an operation makes hangs on its operands alone -/
theorem partsF_congr {F F' : Nat → AV} : ∀ (ps : List (Nat × Operand)) (f : Nat → Int), (∀ p ∈ ps, evA F p.2 = evA F' p.2) → partsF F' ps f = partsF F ps f
  | [], _, _ => rfl
  | (i, x) :: r, f, h => by
    have hx := h (i, x) (by simp)
    simp only at hx
    simp only [partsF, ← hx]
    exact partsF_congr r _ fun p hp => h p (by simp [hp])
theorem partsOk_congr {F F' : Nat → AV} (k : IntKind) (n : Nat) : ∀ (ps : List (Nat × Operand)), (∀ p ∈ ps, evA F p.2 = evA F' p.2) → partsOk F' k n ps = partsOk F k n ps
  | [], _ => rfl
  | (i, x) :: r, h => by
    have hx := h (i, x) (by simp)
    simp only at hx
    simp only [partsOk, ← hx]
    rw [partsOk_congr k n r fun p hp => h p (by simp [hp])]

theorem hd_congr {E : Env} {F F' : Nat → AV} {R R' : Nat → Option Row} (op : Op) (d : Nat) (hF : ∀ x ∈ op.operands, evA F x = evA F' x)
    (hR : ∀ x ∈ op.operands, ∀ id r, (evA F x).refs id = true → R id = some r → R' id = some r) (hp : (hd E op d F R).pre) : hd E op d F' R' = hd E op d F R := by
  cases op <;> simp only [Op.operands, Array.mem_def, List.toList_toArray, List.mem_cons, List.not_mem_nil, or_false, forall_eq_or_imp, forall_eq] at hF hR <;> simp only [Sym.hd] at hp ⊢
  case move x => rw [hF]
  case assign x => rw [hF]
  case pick c x y => rw [hF.1, hF.2.1, hF.2.2]
  case box t x => rw [hF]
  case build t ps =>
    have h : ∀ p ∈ ps.toList, evA F p.2 = evA F' p.2 := fun p hp => hF p.2 (by simp; exact ⟨p.1, by simpa using hp⟩)
    rw [partsF_congr ps.toList _ h]
    cases look E.ty t with
    | none => rfl
    | some y => cases y <;> (try rfl); simp only [partsOk_congr _ _ ps.toList h]
  case buildSlice t n ps =>
    have h : ∀ p ∈ ps.toList, evA F p.2 = evA F' p.2 := fun p hp => hF p.2 (by simp; exact ⟨p.1, by simpa using hp⟩)
    rw [partsF_congr ps.toList _ h]
    cases look E.ty t with
    | none => rfl
    | some y => cases y <;> (try rfl); simp only [partsOk_congr _ _ ps.toList h]
  case makeSlice t l c => rw [hF.1, hF.2]
  case load t x =>
    rw [← hF]
    unfold hdLoad at hp ⊢
    split at hp <;> (try rfl)
    · rename_i id i k hx hty
      cases hr : R id with
      | none => simp [hr, HOut.fail] at hp
      | some r => simp only [hx, hty, hr, hR id r (by simp [hx, AV.refs]) hr]
    · rename_i id i k n e hx hty
      cases hr : R id with
      | none => simp [hr, HOut.fail] at hp
      | some r => simp only [hx, hty, hr, hR id r (by simp [hx, AV.refs]) hr]
  case binOp op t x y yt => rw [hF.1, hF.2]
  case unOp op t x => rw [hF]
  case convert s t x => rw [hF]
  case indexAddr t x y => rw [hF.1, hF.2]
  case index t x y => rw [hF.1, hF.2]
  case sliceToArrayPointer t x => rw [hF]
  case extract x i => rw [hF]
  case slice t x lo hi mx =>
    cases mx with
    | some _ => rfl
    | none =>
      have hx : evA F x = evA F' x := hF x (by simp)
      have hlo : mapA F' lo = mapA F lo := by
        cases lo with
        | none => rfl
        | some l => simp only [mapA]; rw [← hF l (by simp)]
      have hhi : mapA F' hi = mapA F hi := by
        cases hi with
        | none => rfl
        | some l => simp only [mapA]; rw [← hF l (by simp)]
      simp only at hp ⊢
      rw [← hx, hlo, hhi]
      unfold hdSlice at hp ⊢
      split at hp <;> (try rfl)
      rename_i id o k n e hxv hty
      cases hr : R id with
      | none => simp [hr, HOut.fail] at hp
      | some r => simp only [hxv, hty, hr, hR x (by simp) id r (by simp [hxv, AV.refs]) hr]
  case call c =>
    obtain ⟨callee, args, ats⟩ := c
    have ha : argsA F' args.toList = argsA F args.toList := by
      unfold argsA
      refine List.map_congr_left fun x hx => (hF x ?_).symm
      simp only [Call.operands, Array.toList_append, List.mem_append]
      exact .inr hx
    cases callee with
    | value f =>
      have hf : evA F f = evA F' f := hF f (by simp [Call.operands])
      simp only [hdCall, ha, ← hf]
    | builtin b => simp only [hdCall, ha]
    | invoke r m => rfl

/-! ### The order of a region's operations -/
/-- Of each operation those that go ahead of it, as a number's bits. -/
def befL : List Oper → List Nat → List Nat
  | [], acc => acc
  | o :: r, acc => befL r (acc ++ [o.after.toList.foldl (fun s e => if Region.binds .any e = true then s ||| 2 ^ e.on ||| acc.getD e.on 0 else s) 0])

def tb (T : List Nat) (j i : Nat) : Bool := decide (i < j) && (T.getD j 0).testBit i

def isTail (all : List Oper) (o : Oper) : Bool :=
  match kindOf o.op with
  | .head => (match o.op, o.dst with
    | .assign _, some d => all.any fun x => (x.looksAt all.toArray).contains d
    | .assign _, none => true
    | _, _ => false)
  | _ => true

/-- Makes no row of its own. -/
def noRow (op : Op) : Bool :=
  match op with
  | .alloc _ => false
  | .box _ _ => false
  | .buildSlice _ _ _ => false
  | .makeSlice _ _ _ => false
  | _ => true

def tmpOf : Operand → Option Nat
  | .tmp t => some t
  | _ => none

/-- A head that need not have come up when the tail does. -/
def lateOk (all : List Oper) (pairs : List (Nat × Nat)) (oi oj : Oper) : Bool :=
  !isTail all oi && noRow oi.op &&
  (match oi.dst with | none => false | some d => !(oj.looksAt all.toArray).contains d && oj.dst != some d) &&
  (match oj.dst with | none => true | some d => !(oi.looksAt all.toArray).contains d) &&
  (match kindOf oj.op with
    | .head => true
    | .store _ x _ => (match x with
      | .tmp v => oi.op.operands.toList.all fun z => match z with
        | .tmp u => pairs.contains (u, v)
        | _ => true
      | _ => false)
    | _ => false)

def pairOk (all : List Oper) (pairs : List (Nat × Nat)) (T : List Nat) (i j : Nat) (oi oj : Oper) : Bool :=
  if isTail all oj = true then (if isTail all oi = true then decide (j ≤ i) || tb T j i else tb T j i || lateOk all pairs oi oj)
  else isTail all oi || decide (j ≤ i) || (match oi.dst with
    | none => true
    | some d => (!(oj.looksAt all.toArray).contains d || tb T j i) && oj.dst != some d) &&
    (match oj.dst with
    | none => true
    | some d => !(oi.looksAt all.toArray).contains d)

/-- The slots that the pairs name are written by no tail. -/
def keptOk (all : List Oper) (pairs : List (Nat × Nat)) : Bool :=
  all.all fun o => !isTail all o || match o.dst with | none => true | some d => pairs.all fun p => p.1 != d && p.2 != d

def opOk (all : List Oper) (pairs : List (Nat × Nat)) (T : List Nat) (j : Nat) (oj : Oper) : Bool :=
  oj.after.toList.all (fun e => !Region.binds .any e || decide (e.on < j)) &&
  (List.range j).all (fun i => !tb T j i || oj.after.toList.any fun e => Region.binds .any e && (i == e.on || tb T e.on i)) &&
  (isTail all oj || (match oj.dst with | none => true | some d => !(oj.looksAt all.toArray).contains d)) &&
  (List.range all.length).all fun i => match all[i]? with
    | none => true
    | some oi => pairOk all pairs T i j oi oj

def drawOk (all : List Oper) (pairs : List (Nat × Nat)) : Bool :=
  keptOk all pairs && (List.range all.length).all fun j => match all[j]? with
    | none => true
    | some oj => opOk all pairs (befL all []) j oj

structure Late (all : List Oper) (pairs : List (Nat × Nat)) (oi oj : Oper) : Prop where
  head : isTail all oi = false
  row : noRow oi.op = true
  d1 : ∀ d, oi.dst = some d → d ∉ oj.looksAt all.toArray ∧ oj.dst ≠ some d
  d2 : ∀ d, oj.dst = some d → d ∉ oi.looksAt all.toArray
  kind : kindOf oj.op = .head ∨ ∃ t v y, kindOf oj.op = .store t (.tmp v) y ∧ ∀ u, Operand.tmp u ∈ oi.op.operands → (u, v) ∈ pairs

structure Facts (all : List Oper) (pairs : List (Nat × Nat)) (T : Nat → Nat → Prop) : Prop where
  edge : ∀ (j : Nat) (o : Oper), all[j]? = some o → ∀ e ∈ o.after, Region.binds .any e = true → e.on < j
  clo : ∀ (j : Nat) (o : Oper), all[j]? = some o → ∀ i, T j i → ∃ e ∈ o.after, Region.binds .any e = true ∧ (i = e.on ∨ T e.on i)
  tails : ∀ (i j : Nat) (oi oj : Oper), i < j → all[i]? = some oi → all[j]? = some oj → isTail all oi = true → isTail all oj = true → T j i
  tail : ∀ (i j : Nat) (oi oj : Oper), all[i]? = some oi → all[j]? = some oj → isTail all oi = false → isTail all oj = true → T j i ∨ Late all pairs oi oj
  head : ∀ (i j : Nat) (oi oj : Oper), i < j → all[i]? = some oi → all[j]? = some oj → isTail all oi = false → isTail all oj = false →
    (∀ d, oi.dst = some d → (d ∈ oj.looksAt all.toArray → T j i) ∧ oj.dst ≠ some d) ∧ ∀ d, oj.dst = some d → d ∉ oi.looksAt all.toArray
  self : ∀ (j : Nat) (oj : Oper), all[j]? = some oj → isTail all oj = false → ∀ d, oj.dst = some d → d ∉ oj.looksAt all.toArray
  kept : ∀ (j : Nat) (oj : Oper), all[j]? = some oj → isTail all oj = true → ∀ d, oj.dst = some d → ∀ p ∈ pairs, p.1 ≠ d ∧ p.2 ≠ d

theorem late_of {all : List Oper} {pairs : List (Nat × Nat)} {oi oj : Oper} (h : lateOk all pairs oi oj = true) : Late all pairs oi oj := by
  unfold lateOk at h
  simp only [Bool.and_eq_true] at h
  obtain ⟨⟨⟨⟨h1, h2⟩, h3⟩, h4⟩, h5⟩ := h
  refine ⟨by simpa using h1, h2, fun d hd => ?_, fun d hd => ?_, ?_⟩
  · rw [hd] at h3
    simp only [Bool.and_eq_true, Bool.not_eq_true', bne_iff_ne, ne_eq] at h3
    exact ⟨fun hm => by have h' := List.contains_iff_mem.2 hm; rw [h'] at h3; exact absurd h3.1 (by simp), h3.2⟩
  · rw [hd] at h4
    simp only [Bool.not_eq_true'] at h4
    exact fun hm => by have h' := List.contains_iff_mem.2 hm; rw [h'] at h4; cases h4
  · split at h5
    · left; assumption
    · rename_i t x y hk
      split at h5
      · rename_i v
        right
        refine ⟨t, v, y, hk, fun u hu => ?_⟩
        have := (List.all_eq_true.1 h5) (.tmp u) (by simpa using hu)
        simpa using this
      · cases h5
    · cases h5

theorem facts_of {all : List Oper} {pairs : List (Nat × Nat)} (h : drawOk all pairs = true) : Facts all pairs fun j i => tb (befL all []) j i = true := by
  unfold drawOk at h
  rw [Bool.and_eq_true] at h
  obtain ⟨hk, h⟩ := h
  have get : ∀ (j : Nat) (o : Oper), all[j]? = some o → opOk all pairs (befL all []) j o = true := fun j o ho => by
    rw [List.all_eq_true] at h
    have hj := h j (List.mem_range.2 (List.getElem?_eq_some_iff.1 ho).1)
    rw [ho] at hj
    exact hj
  have prt : ∀ (j : Nat) (oj : Oper), all[j]? = some oj → (∀ e ∈ oj.after, Region.binds .any e = true → e.on < j) ∧
      (∀ i, tb (befL all []) j i = true → ∃ e ∈ oj.after, Region.binds .any e = true ∧ (i = e.on ∨ tb (befL all []) e.on i = true)) ∧
      (isTail all oj = false → ∀ d, oj.dst = some d → d ∉ oj.looksAt all.toArray) ∧ ∀ (i : Nat) (oi : Oper), all[i]? = some oi → pairOk all pairs (befL all []) i j oi oj = true := fun j oj ho => by
    have hg := get j oj ho
    unfold opOk at hg
    simp only [Bool.and_eq_true] at hg
    obtain ⟨⟨⟨h1, h2⟩, h3⟩, h4⟩ := hg
    refine ⟨fun e he hb => ?_, fun i hi => ?_, fun ht d hd => ?_, fun i oi hoi => ?_⟩
    · have := (List.all_eq_true.1 h1) e (by simpa using he)
      simpa [hb] using this
    · have hij : i < j := by unfold tb at hi; simp at hi; exact hi.1
      have := (List.all_eq_true.1 h2) i (List.mem_range.2 hij)
      rw [hi] at this
      simp only [Bool.not_true, Bool.false_or] at this
      obtain ⟨e, he, hh⟩ := List.any_eq_true.1 this
      simp only [Bool.and_eq_true, Bool.or_eq_true, beq_iff_eq] at hh
      exact ⟨e, by simpa using he, hh.1, hh.2⟩
    · simpa [ht, hd] using h3
    · have := (List.all_eq_true.1 h4) i (List.mem_range.2 (List.getElem?_eq_some_iff.1 hoi).1)
      rw [hoi] at this
      exact this
  refine ⟨fun j o ho => (prt j o ho).1, fun j o ho => (prt j o ho).2.1, fun i j oi oj hij hoi hoj ht' ht => ?_, fun i j oi oj hoi hoj ht' ht => ?_, fun i j oi oj hij hoi hoj ht' ht => ?_, fun j oj ho => (prt j oj ho).2.2.1, fun j oj ho ht d hd p hp => ?_⟩
  · have := (prt j oj hoj).2.2.2 i oi hoi
    unfold pairOk at this
    rw [if_pos ht, if_pos ht', Bool.or_eq_true, decide_eq_true_eq] at this
    exact this.resolve_left (by omega)
  · have := (prt j oj hoj).2.2.2 i oi hoi
    unfold pairOk at this
    rw [if_pos ht, if_neg (by simp [ht']), Bool.or_eq_true] at this
    exact this.imp id late_of
  · have := (prt j oj hoj).2.2.2 i oi hoi
    unfold pairOk at this
    rw [if_neg (by simp [ht]), ht', Bool.false_or, decide_eq_false (by omega), Bool.false_or] at this
    simp only [Bool.and_eq_true] at this
    obtain ⟨k2, k3⟩ := this
    refine ⟨fun d hd => ?_, fun d hd => ?_⟩
    · rw [hd] at k2
      simp only [Bool.and_eq_true, Bool.or_eq_true, Bool.not_eq_true', bne_iff_ne, ne_eq] at k2
      refine ⟨fun hm => ?_, k2.2⟩
      rcases k2.1 with h | h
      · have h' := List.contains_iff_mem.2 hm; rw [h'] at h; cases h
      · exact h
    · rw [hd] at k3
      simpa using k3
  · unfold keptOk at hk
    have := (List.all_eq_true.1 hk) oj (List.mem_of_getElem? ho)
    rw [ht, hd] at this
    simp only [Bool.not_true, Bool.false_or] at this
    have := (List.all_eq_true.1 this) p hp
    simpa using this

/-! ### The states of the text's order -/
section
variable {E : Env} {C : Ctx} {all : List Oper} {σ0 : St} {T : Nat → Nat → Prop} {pairs : List (Nat × Nat)}

/-- The heads, in the order of the text. -/
def hS (E : Env) (sz : Nat) (all : List Oper) (σ0 : St) : Nat → St
  | 0 => σ0
  | k + 1 => match all[k]? with
    | some o => if isTail all o = true then hS E sz all σ0 k else (stp E sz all o (hS E sz all σ0 k)).σ
    | none => hS E sz all σ0 k

/-- The tails behind them, in the order of the text. -/
def tS (E : Env) (sz : Nat) (all : List Oper) (σ0 : St) : Nat → St
  | 0 => hS E sz all σ0 all.length
  | k + 1 => match all[k]? with
    | some o => if isTail all o = true then (stp E sz all o (tS E sz all σ0 k)).σ else tS E sz all σ0 k
    | none => tS E sz all σ0 k

theorem hS_head {k : Nat} {o : Oper} (ho : all[k]? = some o) (ht : isTail all o = false) : hS E C.sz all σ0 (k + 1) = (stp E C.sz all o (hS E C.sz all σ0 k)).σ := by
  simp only [hS, ho]; rw [if_neg (by simp [ht])]
theorem hS_skip {k : Nat} (h : ∀ o, all[k]? = some o → isTail all o = true) : hS E C.sz all σ0 (k + 1) = hS E C.sz all σ0 k := by
  cases ho : all[k]? with
  | none => simp only [hS, ho]
  | some o => simp only [hS, ho]; rw [if_pos (h o ho)]
theorem tS_tail {k : Nat} {o : Oper} (ho : all[k]? = some o) (ht : isTail all o = true) : tS E C.sz all σ0 (k + 1) = (stp E C.sz all o (tS E C.sz all σ0 k)).σ := by
  simp only [tS, ho]; rw [if_pos ht]
theorem tS_skip {k : Nat} (h : ∀ o, all[k]? = some o → isTail all o = false) : tS E C.sz all σ0 (k + 1) = tS E C.sz all σ0 k := by
  cases ho : all[k]? with
  | none => simp only [tS, ho]
  | some o => simp only [tS, ho]; rw [if_neg (by simp [h o ho])]

/-- The heads first, then the tails. -/
def part (all : List Oper) : List Oper := all.filter (fun o => !isTail all o) ++ all.filter (isTail all)

theorem evs_append {K : St → Prop} : ∀ (l l' : List Oper) (σ : St), evs E C.sz all (l ++ l') σ K → evs E C.sz all l σ fun σ' => evs E C.sz all l' σ' K
  | [], _, _, h => h
  | _ :: r, l', _, h => ⟨h.1, evs_append r l' _ h.2⟩

theorem evs_filter {p : Oper → Bool} {K : St → Prop} (S : Nat → St) (h1 : ∀ k o, all[k]? = some o → p o = true → S (k + 1) = (stp E C.sz all o (S k)).σ) (h2 : ∀ k o, all[k]? = some o → p o = false → S (k + 1) = S k)
    (h : evs E C.sz all (all.filter p) (S 0) K) : (∀ (k : Nat) (o : Oper), all[k]? = some o → p o = true → (stp E C.sz all o (S k)).pre) ∧ K (S all.length) := by
  have key : ∀ k, k ≤ all.length → evs E C.sz all ((all.drop k).filter p) (S k) K ∧ ∀ (i : Nat) (o : Oper), i < k → all[i]? = some o → p o = true → (stp E C.sz all o (S i)).pre := by
    intro k
    induction k with
    | zero => intro _; exact ⟨by simpa using h, fun i o hi => by omega⟩
    | succ k ih =>
      intro hk
      obtain ⟨q1, q2⟩ := ih (by omega)
      have hlt : k < all.length := by omega
      rw [List.drop_eq_getElem_cons hlt] at q1
      have hg : all[k]? = some all[k] := List.getElem?_eq_getElem hlt
      cases hb : p all[k] with
      | false =>
        rw [List.filter_cons_of_neg (by simp [hb])] at q1
        refine ⟨by rw [h2 k _ hg hb]; exact q1, fun i o hi ho ht => ?_⟩
        by_cases e : i = k
        · subst e
          rw [hg] at ho
          injection ho with ho
          subst ho
          rw [hb] at ht; cases ht
        · exact q2 i o (by omega) ho ht
      | true =>
        rw [List.filter_cons_of_pos hb] at q1
        obtain ⟨p1, q⟩ := q1
        refine ⟨by rw [h1 k _ hg hb]; exact q, fun i o hi ho ht => ?_⟩
        by_cases e : i = k
        · subst e
          rw [hg] at ho
          injection ho with ho
          subst ho
          exact p1
        · exact q2 i o (by omega) ho ht
  obtain ⟨q1, q2⟩ := key all.length (Nat.le_refl _)
  rw [List.drop_length] at q1
  exact ⟨fun k o ho => q2 k o (List.getElem?_eq_some_iff.1 ho).1 ho, q1⟩

theorem seq_evs {K : St → Prop} (h : evs E C.sz all (part all) σ0 K) : (∀ (k : Nat) (o : Oper), all[k]? = some o → isTail all o = false → (stp E C.sz all o (hS E C.sz all σ0 k)).pre) ∧
    (∀ (k : Nat) (o : Oper), all[k]? = some o → isTail all o = true → (stp E C.sz all o (tS E C.sz all σ0 k)).pre) ∧ K (tS E C.sz all σ0 all.length) := by
  have h := evs_append _ _ _ h
  obtain ⟨a1, a2⟩ := evs_filter (C := C) (p := fun o => !isTail all o) (hS E C.sz all σ0) (fun k o ho ht => hS_head ho (by simpa using ht)) (fun k o ho ht => hS_skip fun o' ho' => by rw [ho] at ho'; injection ho' with ho'; subst ho'; simpa using ht) h
  obtain ⟨b1, b2⟩ := evs_filter (C := C) (p := isTail all) (tS E C.sz all σ0) (fun k o ho ht => tS_tail ho ht) (fun k o ho ht => tS_skip fun o' ho' => by rw [ho] at ho'; injection ho' with ho'; subst ho'; exact ht) a2
  exact ⟨fun k o ho ht => a1 k o ho (by simp [ht]), b1, b2⟩

/-- What a step of an operation that is no tail makes. -/
theorem head_form {o : Oper} {σ : St} (ht : isTail all o = false) (hp : (stp E C.sz all o σ).pre) :
    ∃ d, o.dst = some d ∧ d < C.sz ∧ ((wantA all o (lk σ.F) = some true ∧ (hd E o.op d (lk σ.F) (look σ.R)).pre ∧ ((hd E o.op d (lk σ.F) (look σ.R)).row = none ∨ look σ.R d = none) ∧
        (stp E C.sz all o σ).σ = ⟨(d, (hd E o.op d (lk σ.F) (look σ.R)).v) :: σ.F, addR d (hd E o.op d (lk σ.F) (look σ.R)).row σ.R⟩) ∨
      (wantA all o (lk σ.F) = some false ∧ (stp E C.sz all o σ).σ = ⟨(d, .skp) :: σ.F, σ.R⟩)) := by
  have hk : kindOf o.op = .head := by
    unfold isTail at ht
    split at ht
    · assumption
    · cases ht
  unfold stp at hp ⊢
  cases hw : wantA all o (lk σ.F) with
  | none => rw [hw] at hp; exact hp.elim
  | some b =>
    rw [hw] at hp
    cases b with
    | true =>
      unfold stepW at hp ⊢
      simp only at hp ⊢
      unfold opStep at hp ⊢
      rw [hk] at hp ⊢
      simp only at hp ⊢
      unfold headStep at hp ⊢
      cases hd' : o.dst with
      | none => rw [hd'] at hp; exact hp.elim
      | some d =>
        rw [hd'] at hp
        exact ⟨d, rfl, hp.1, .inl ⟨by simp, hp.2.1, hp.2.2, rfl⟩⟩
    | false =>
      unfold stepW skipStep at hp ⊢
      simp only at hp ⊢
      cases hd' : o.dst with
      | none => rw [hd'] at hp; exact hp.elim
      | some d =>
        rw [hd'] at hp
        exact ⟨d, rfl, hp, .inr ⟨by simp, rfl⟩⟩

theorem addR_other {d id : Nat} (h : d ≠ id) (r : Option Row) (R : List (Nat × Row)) : look (addR d r R) id = look R id := by
  cases r with
  | none => rfl
  | some r => simp [addR, look, h]

/-- The heads leave what they do not write. -/
theorem seq_keep (hp : ∀ (k : Nat) (o : Oper), all[k]? = some o → isTail all o = false → (stp E C.sz all o (hS E C.sz all σ0 k)).pre) (s : Nat) (i : Nat) :
    ∀ n, (∀ k, i ≤ k → k < i + n → ∀ o, all[k]? = some o → isTail all o = false → o.dst ≠ some s) →
      lk (hS E C.sz all σ0 (i + n)).F s = lk (hS E C.sz all σ0 i).F s ∧ look (hS E C.sz all σ0 (i + n)).R s = look (hS E C.sz all σ0 i).R s
  | 0, _ => ⟨rfl, rfl⟩
  | n + 1, h => by
    obtain ⟨ih1, ih2⟩ := seq_keep hp s i n fun k h1 h2 => h k h1 (by omega)
    rw [← Nat.add_assoc]
    cases ho : all[i + n]? with
    | none => rw [hS_skip (fun o h => by rw [ho] at h; cases h)]; exact ⟨ih1, ih2⟩
    | some o =>
      cases ht : isTail all o with
      | true => rw [hS_skip (fun o' h => by rw [ho] at h; injection h with h; subst h; exact ht)]; exact ⟨ih1, ih2⟩
      | false =>
        have hd' := h (i + n) (by omega) (by omega) o ho ht
        obtain ⟨d, hdd, _, hf⟩ := head_form ht (hp _ o ho ht)
        have hne : d ≠ s := fun e => hd' (by rw [hdd, e])
        rw [hS_head ho ht]
        rcases hf with ⟨_, _, _, hf⟩ | ⟨_, hf⟩ <;> rw [hf] <;> simp only
        · exact ⟨by simp [lk, hne, ih1], by rw [addR_other hne, ih2]⟩
        · exact ⟨by simp [lk, hne, ih1], ih2⟩

/-- A row that is there stays through the heads. -/
theorem seq_rows (hp : ∀ (k : Nat) (o : Oper), all[k]? = some o → isTail all o = false → (stp E C.sz all o (hS E C.sz all σ0 k)).pre) {id : Nat} {r : Row} (i : Nat) :
    ∀ n, look (hS E C.sz all σ0 i).R id = some r → look (hS E C.sz all σ0 (i + n)).R id = some r
  | 0, h => h
  | n + 1, hr => by
    have ih := seq_rows hp i n hr
    rw [← Nat.add_assoc]
    cases ho : all[i + n]? with
    | none => rw [hS_skip (fun o h => by rw [ho] at h; cases h)]; exact ih
    | some o =>
      cases ht : isTail all o with
      | true => rw [hS_skip (fun o' h => by rw [ho] at h; injection h with h; subst h; exact ht)]; exact ih
      | false =>
        obtain ⟨d, hdd, _, hf⟩ := head_form ht (hp _ o ho ht)
        rw [hS_head ho ht]
        rcases hf with ⟨_, _, hfr, hf⟩ | ⟨_, hf⟩ <;> rw [hf] <;> simp only
        · by_cases hne : d = id
          · subst hne
            rcases hfr with hfr | hfr
            · rw [hfr]; exact ih
            · rw [hfr] at ih; cases ih
          · rw [addR_other hne]; exact ih
        · exact ih

theorem want_congr {o : Oper} {F F' : Nat → AV} (h : ∀ t, t ∈ o.looksAt all.toArray → F t = F' t) : wantA all o F = wantA all o F' := by
  unfold wantA
  split
  · rfl
  · rename_i g c hg
    cases ht : (all[g]?).bind (·.dst) with
    | none => rfl
    | some t =>
      simp only
      rw [h t (by
        unfold Oper.looksAt
        rw [hg]
        refine List.mem_append.2 (.inr ?_)
        have : ((all.toArray[g]?).bind (·.dst)) = some t := by simpa using ht
        show t ∈ ((all.toArray[g]?).bind (·.dst)).toList
        rw [this]; simp)]

theorem looks_of {o : Oper} {ops : Array Oper} {t : Nat} (h : Operand.tmp t ∈ o.op.operands) : t ∈ o.looksAt ops := by
  unfold Oper.looksAt
  exact List.mem_append.2 (.inl (List.mem_filterMap.2 ⟨.tmp t, by simpa using h, rfl⟩))

theorem countP_lt {α : Type} {p q : α → Bool} : ∀ (l : List α), (∀ x ∈ l, q x = true → p x = true) → (∃ x ∈ l, p x = true ∧ q x = false) → l.countP q < l.countP p
  | [], _, h => by obtain ⟨x, hx, _⟩ := h; cases hx
  | y :: l, h1, h2 => by
    have hle : l.countP q ≤ l.countP p := List.countP_mono_left fun x hx => h1 x (by simp [hx])
    simp only [List.countP_cons]
    obtain ⟨x, hx, hp, hq⟩ := h2
    rcases List.mem_cons.1 hx with rfl | hx
    · rw [if_pos hp, if_neg (by simp [hq])]; omega
    · have := countP_lt l (fun x hx => h1 x (by simp [hx])) ⟨x, hx, hp, hq⟩
      by_cases hy : q y = true
      · rw [if_pos hy, if_pos (h1 y (by simp) hy)]; omega
      · rw [if_neg hy]; split <;> omega

/-- Who has not come up yet and will write this slot. -/
def unl (all : List Oper) (L : Array Bool) (s : Nat) : Prop := ∃ (i : Nat) (o : Oper), all[i]? = some o ∧ isTail all o = false ∧ L.getD i false = false ∧ o.dst = some s

open Classical in
noncomputable def maskF (all : List Oper) (L : Array Bool) (F : Nat → AV) (s : Nat) : AV := if unl all L s then .und else F s
open Classical in
noncomputable def maskR (all : List Oper) (L : Array Bool) (R0 R : Nat → Option Row) (id : Nat) : Option Row := if unl all L id ∧ R0 id = none then none else R id

open Classical in
theorem mask_list (all : List Oper) (L : Array Bool) (R0 : Nat → Option Row) (σ : St) : ∃ σ' : St, lk σ'.F = maskF all L (lk σ.F) ∧ look σ'.R = maskR all L R0 (look σ.R) := by
  refine ⟨⟨σ.F.map fun p => (p.1, if unl all L p.1 then .und else p.2), σ.R.filter fun p => ! decide (unl all L p.1 ∧ R0 p.1 = none)⟩, ?_, ?_⟩
  · funext s
    unfold maskF
    simp only
    induction σ.F with
    | nil => simp [lk]
    | cons p r ih =>
      simp only [List.map_cons, lk]
      by_cases e : p.1 = s
      · rw [if_pos e, if_pos e, e]
      · rw [if_neg e, if_neg e]; exact ih
  · funext id
    unfold maskR
    simp only
    induction σ.R with
    | nil => simp [look]
    | cons p r ih =>
      by_cases h : unl all L p.1 ∧ R0 p.1 = none
      · rw [List.filter_cons_of_neg (by simp [h]), ih]
        by_cases e : p.1 = id
        · subst e; rw [if_pos h, if_pos h]
        · simp only [look, if_neg e]
      · rw [List.filter_cons_of_pos (by rw [decide_eq_false h]; rfl)]
        simp only [look]
        by_cases e : p.1 = id
        · subst e; rw [if_pos rfl, if_pos rfl, if_neg h]
        · rw [if_neg e, if_neg e]; exact ih

theorem getD_of_lt (L : Array Bool) (i : Nat) (h : i < L.size) (u v : Bool) : L.getD i u = L.getD i v := by simp [h]

/-- Two places that share no row. -/
def noSh : AV → AV → Prop
  | .elt i _, .elt j _ => i ≠ j
  | .sl i _ _, .elt j _ => i ≠ j
  | .und, _ => False
  | _, .und => False
  | x, _ => x.pureA = true
def disj (F : Nat → AV) : List (Nat × Nat) → Prop
  | [] => True
  | (u, v) :: r => noSh (F u) (F v) ∧ disj F r
theorem disj_get {F : Nat → AV} : ∀ {l : List (Nat × Nat)}, disj F l → ∀ u v, (u, v) ∈ l → noSh (F u) (F v)
  | [], _, _, _, h => by simp at h
  | (x, y) :: r, h, u, v, hm => by
    rcases List.mem_cons.1 hm with e | e
    · injection e with e1 e2; subst e1 e2; exact h.1
    · exact disj_get h.2 u v e
theorem noSh_ne {x y : AV} (h : noSh x y) : x ≠ .und ∧ y ≠ .und ∧ ∀ id i j, y = .elt id i → x.refs id = true → j = id → False := by
  unfold noSh at h
  split at h
  · refine ⟨by simp, by simp, fun id i j e hr _ => ?_⟩
    injection e with e _
    simp only [AV.refs, beq_iff_eq] at hr
    omega
  · refine ⟨by simp, by simp, fun id i j e hr _ => ?_⟩
    injection e with e _
    simp only [AV.refs, beq_iff_eq] at hr
    omega
  · exact h.elim
  · exact h.elim
  · refine ⟨?_, ?_, fun id i j e hr _ => ?_⟩
    · rintro rfl; simp_all
    · rintro rfl; simp_all
    · rw [pure_refs _ h] at hr
      cases hr

theorem hd_row {op : Op} (h : noRow op = true) (d : Nat) (F : Nat → AV) (R : Nat → Option Row) : (hd E op d F R).row = none := by
  cases op <;> simp only [noRow, Bool.false_eq_true] at h <;> simp only [hd] <;> try rfl
  case pick c a b => split <;> rfl
  case build t ps => split <;> rfl
  case load t x => unfold hdLoad; split <;> (try split) <;> rfl
  case binOp op t x y z =>
    unfold hdBin
    split
    · unfold intBin; split <;> rfl
    all_goals (try split) <;> rfl
  case unOp op t x => unfold hdUn; split <;> rfl
  case convert s t x => unfold hdConv; split <;> rfl
  case indexAddr t x i => unfold hdIdxAddr; split <;> rfl
  case index t x i => unfold hdIdx; split <;> rfl
  case slice t x lo hi mx =>
    cases mx with
    | some _ => rfl
    | none => simp only; unfold hdSlice; split <;> (try split) <;> rfl
  case sliceToArrayPointer t x => split <;> rfl
  case extract x i => split <;> rfl
  case call c =>
    unfold hdCall
    split
    · unfold hdCallF; split <;> (try split) <;> rfl
    · split
      · unfold hdLen; split <;> rfl
      · unfold hdMin; split <;> rfl
      · unfold hdMin; split <;> rfl
      · rfl
    · rfl

theorem hd_row_tail {op : Op} {o : Oper} (ho : o.op = op) (ht : isTail all o = true) (hk : kindOf op = .head) : ∃ x, op = .assign x := by
  unfold isTail at ht
  rw [ho, hk] at ht
  simp only at ht
  split at ht
  · exact ⟨_, rfl⟩
  · exact ⟨_, rfl⟩
  · cases ht

/-- What a step of a tail makes, if it is no append and no copy. -/
theorem tail_form {o : Oper} {σ : St} (ht : isTail all o = true) (hk : kindOf o.op = .head ∨ ∃ t v y, kindOf o.op = .store t (.tmp v) y) (hp : (stp E C.sz all o σ).pre) :
    (∃ d v, o.dst = some d ∧ (stp E C.sz all o σ).σ = ⟨(d, v) :: σ.F, σ.R⟩) ∨
    (∃ t v y id i r, kindOf o.op = .store t (.tmp v) y ∧ lk σ.F v = .elt id i ∧ look σ.R id ≠ none ∧ o.dst = none ∧ (stp E C.sz all o σ).σ = ⟨σ.F, (id, r) :: σ.R⟩) := by
  unfold stp at hp ⊢
  cases hw : wantA all o (lk σ.F) with
  | none => rw [hw] at hp; exact hp.elim
  | some b =>
    rw [hw] at hp
    cases b with
    | false =>
      unfold stepW skipStep at hp ⊢
      simp only at hp ⊢
      cases hd' : o.dst with
      | none => rw [hd'] at hp; exact hp.elim
      | some d => exact .inl ⟨d, .skp, rfl, rfl⟩
    | true =>
      unfold stepW at hp ⊢
      simp only at hp ⊢
      unfold opStep at hp ⊢
      rcases hk with hk | ⟨t, v, y, hk⟩
      · rw [hk] at hp ⊢
        simp only at hp ⊢
        obtain ⟨x, hx⟩ := hd_row_tail rfl ht hk
        unfold headStep at hp ⊢
        cases hd' : o.dst with
        | none => rw [hd'] at hp; exact hp.elim
        | some d =>
          refine .inl ⟨d, (hd E o.op d (lk σ.F) (look σ.R)).v, rfl, ?_⟩
          simp only [hx, hd, HOut.ok, addR]
      · rw [hk] at hp ⊢
        simp only at hp ⊢
        unfold stStep at hp ⊢
        cases hd' : o.dst with
        | some d => rw [hd'] at hp; exact hp.elim
        | none =>
          rw [hd'] at hp
          right
          simp only at hp ⊢
          have hv : evA (lk σ.F) (.tmp v) = lk σ.F v := rfl
          rw [hv] at hp ⊢
          unfold stA at hp ⊢
          split at hp
          · rename_i id i k z k' hvx hvy hty
            cases hr : look σ.R id with
            | none => simp [hr, WOut.fail] at hp
            | some r => exact ⟨t, v, y, id, i, _, rfl, hvx, by rw [hr]; simp, trivial, rfl⟩
          · rename_i id i k n f k' n' e hvx hvy hty
            cases hr : look σ.R id with
            | none => simp [hr, WOut.fail] at hp
            | some r => exact ⟨t, v, y, id, i, _, rfl, hvx, by rw [hr]; simp, trivial, rfl⟩
          · exact hp.elim

/-- What tails leave in a slot that they do not write: what it held, or nothing known. -/
theorem tail_keep (hp : ∀ (k : Nat) (o : Oper), all[k]? = some o → isTail all o = true → (stp E C.sz all o (tS E C.sz all σ0 k)).pre) (s : Nat) (i : Nat) :
    ∀ n, (∀ k, i ≤ k → k < i + n → ∀ o, all[k]? = some o → isTail all o = true → o.dst ≠ some s) →
      lk (tS E C.sz all σ0 (i + n)).F s = lk (tS E C.sz all σ0 i).F s ∨ lk (tS E C.sz all σ0 (i + n)).F s = .und
  | 0, _ => .inl rfl
  | n + 1, h => by
    have ih := tail_keep hp s i n fun k h1 h2 => h k h1 (by omega)
    rw [← Nat.add_assoc]
    cases ho : all[i + n]? with
    | none => rw [tS_skip (fun o h => by rw [ho] at h; cases h)]; exact ih
    | some o =>
     cases ht : isTail all o with
     | false => rw [tS_skip (fun o' h => by rw [ho] at h; injection h with h; subst h; exact ht)]; exact ih
     | true =>
      have hd' := h (i + n) (by omega) (by omega) o ho ht
      have hpre := hp _ o ho ht
      have step : lk (stp E C.sz all o (tS E C.sz all σ0 (i + n))).σ.F s = lk (tS E C.sz all σ0 (i + n)).F s ∨ lk (stp E C.sz all o (tS E C.sz all σ0 (i + n))).σ.F s = .und := by
        generalize tS E C.sz all σ0 (i + n) = σ at hpre
        unfold stp at hpre ⊢
        cases hw : wantA all o (lk σ.F) with
        | none => rw [hw] at hpre; exact hpre.elim
        | some b =>
          rw [hw] at hpre
          cases b with
          | false =>
            unfold stepW skipStep at hpre ⊢
            simp only at hpre ⊢
            cases hdd : o.dst with
            | none => rw [hdd] at hpre; exact hpre.elim
            | some d =>
              have : d ≠ s := fun e => hd' (by rw [hdd, e])
              left; simp [lk, this]
          | true =>
            unfold stepW at hpre ⊢
            simp only at hpre ⊢
            unfold opStep at hpre ⊢
            split
            · rename_i t x y hk
              rw [hk] at hpre
              unfold stStep at hpre ⊢
              cases hdd : o.dst with
              | none => left; rfl
              | some d => rw [hdd] at hpre; exact hpre.elim
            · rename_i t t' x y hk
              rw [hk] at hpre
              unfold wrStep at hpre ⊢
              cases hdd : o.dst with
              | none => rw [hdd] at hpre; exact hpre.elim
              | some d =>
                have : d ≠ s := fun e => hd' (by rw [hdd, e])
                simp only [lk, if_neg this, kill_lk]
                split
                · right; rfl
                · left; rfl
            · rename_i t x y hk
              rw [hk] at hpre
              unfold cpStep at hpre ⊢
              cases hdd : o.dst with
              | none => rw [hdd] at hpre; exact hpre.elim
              | some d =>
                have : d ≠ s := fun e => hd' (by rw [hdd, e])
                left; simp [lk, this]
            · rename_i hk
              rw [hk] at hpre
              unfold headStep at hpre ⊢
              cases hdd : o.dst with
              | none => rw [hdd] at hpre; exact hpre.elim
              | some d =>
                have : d ≠ s := fun e => hd' (by rw [hdd, e])
                left; simp [lk, this]
      rw [tS_tail ho ht]
      rcases step with e | e
      · rcases ih with e' | e'
        · left; rw [e, e']
        · right; rw [e, e']
      · exact .inr e

theorem stA_congr {ty : Option Ty} {X Y : AV} {R R' : Nat → Option Row} (h : ∀ id i, X = .elt id i → R' id = R id) : stA ty X Y R' = stA ty X Y R := by
  unfold stA
  split
  · rw [h _ _ rfl]
  · rw [h _ _ rfl]
  · rfl

/-- The region, in whatever order, from a part of it on. -/
theorem any_sound {Q : Exit → Act → World → Prop} {Kσ : St → Prop} (hE : E.Ok) (hT : Facts all pairs T) (hl : ∀ o ∈ all, ∀ d, o.dst = some d → d < C.sz)
    (hpH : ∀ (k : Nat) (o : Oper), all[k]? = some o → isTail all o = false → (stp E C.sz all o (hS E C.sz all σ0 k)).pre)
    (hpT : ∀ (k : Nat) (o : Oper), all[k]? = some o → isTail all o = true → (stp E C.sz all o (tS E C.sz all σ0 k)).pre)
    (hdis : disj (lk (tS E C.sz all σ0 all.length).F) pairs)
    (hQ : ∀ a' w', Rp C (tS E C.sz all σ0 all.length) a' w' → Q .normal a' w') :
    ∀ (fuel : Nat) (L : Array Bool) (a : Act) (w : World), L.size = all.length → (List.range all.length).countP (fun i => !L.getD i false) ≤ fuel →
      (∀ (j : Nat) (o : Oper), all[j]? = some o → L.getD j false = true → ∀ e ∈ o.after, Region.binds .any e = true → L.getD e.on false = true) →
      (∃ j, j ≤ all.length ∧ (∀ (i : Nat) (o : Oper), all[i]? = some o → isTail all o = true → (L.getD i false = true ↔ i < j)) ∧
          Rep C (maskF all L (lk (tS E C.sz all σ0 j).F)) (maskR all L (look σ0.R) (look (tS E C.sz all σ0 j).R)) a w) →
      wpAny E.P .any all.toArray Q fuel L a w := by
  -- the listed operations' forerunners are listed
  have clo : ∀ (L : Array Bool), (∀ (j : Nat) (o : Oper), all[j]? = some o → L.getD j false = true → ∀ e ∈ o.after, Region.binds .any e = true → L.getD e.on false = true) →
      ∀ (j : Nat) (o : Oper), all[j]? = some o → (∀ e ∈ o.after, Region.binds .any e = true → L.getD e.on false = true) → ∀ i, T j i → L.getD i false = true := by
    intro L hdc j
    induction j using Nat.strongRecOn with
    | _ j ih =>
      intro o ho hall i hi
      obtain ⟨e, he, hb, hh⟩ := hT.clo j o ho i hi
      have hon := hall e he hb
      rcases hh with rfl | hh
      · exact hon
      · have hlt := hT.edge j o ho e he hb
        have hjl : j < all.length := (List.getElem?_eq_some_iff.1 ho).1
        have hg : all[e.on]? = some all[e.on] := List.getElem?_eq_getElem (by omega)
        exact ih e.on hlt all[e.on] hg (hdc e.on _ hg hon) i hh
  have ready_iff : ∀ (L : Array Bool) (j : Nat), L.size = all.length → (j ∈ Region.ready .any all.toArray L ↔ ∃ o, all[j]? = some o ∧ L.getD j false = false ∧ ∀ e ∈ o.after, Region.binds .any e = true → L.getD e.on false = true) := by
    intro L j hsz
    rw [mem_ready]
    constructor
    · rintro ⟨h1, o, ho, h2⟩
      have ho' : all[j]? = some o := by simpa using ho
      have hj : j < L.size := by rw [hsz]; exact (List.getElem?_eq_some_iff.1 ho').1
      exact ⟨o, ho', by rw [getD_of_lt L j hj false true]; exact h1, h2⟩
    · rintro ⟨o, ho, h1, h2⟩
      have hj : j < L.size := by rw [hsz]; exact (List.getElem?_eq_some_iff.1 ho).1
      exact ⟨by rw [getD_of_lt L j hj true false]; exact h1, o, by simpa using ho, h2⟩
  have setD : ∀ (L : Array Bool) (j i : Nat), j < L.size → (L.setIfInBounds j true).getD i false = if j = i then true else L.getD i false := by
    intro L j i hj
    by_cases e : j = i
    · subst e; simp [hj]
    · rw [if_neg e]; simp [Array.getElem?_setIfInBounds_ne e]
  have hseqR : ∀ i, i ≤ all.length → ∀ id r, look (hS E C.sz all σ0 i).R id = some r → look (hS E C.sz all σ0 all.length).R id = some r := by
    intro i hi id r hr
    have := seq_rows (E := E) (C := C) hpH i (all.length - i) hr
    rwa [show i + (all.length - i) = all.length from by omega] at this
  have tconst : ∀ j n, (∀ k, j ≤ k → k < j + n → ∀ o, all[k]? = some o → isTail all o = false) → tS E C.sz all σ0 (j + n) = tS E C.sz all σ0 j := by
    intro j n
    induction n with
    | zero => intro _; rfl
    | succ n ih =>
      intro h
      rw [← Nat.add_assoc, tS_skip (fun o ho => h (j + n) (by omega) (by omega) o ho)]
      exact ih fun k h1 h2 => h k h1 (by omega)
  have nomask : ∀ (L : Array Bool) (F : Nat → AV) (R : Nat → Option Row), (∀ s, ¬ unl all L s) → maskF all L F = F ∧ maskR all L (look σ0.R) R = R := by
    intro L F R hno
    refine ⟨by funext s; simp [maskF, hno s], by funext id; simp [maskR, hno id]⟩
  have fin : ∀ (L : Array Bool) (a : Act) (w : World), (∀ i, i < all.length → L.getD i false = true) →
      (∃ j, j ≤ all.length ∧ (∀ (i : Nat) (o : Oper), all[i]? = some o → isTail all o = true → (L.getD i false = true ↔ i < j)) ∧
          Rep C (maskF all L (lk (tS E C.sz all σ0 j).F)) (maskR all L (look σ0.R) (look (tS E C.sz all σ0 j).R)) a w) → Q .normal a w := by
    intro L a w hall ⟨j, hjn, hj, hr⟩
    have hc := tconst j (all.length - j) fun k h1 h2 o ho => by
      cases hb : isTail all o with
      | false => rfl
      | true => have := (hj k o ho hb).1 (hall k (by omega)); omega
    rw [show j + (all.length - j) = all.length from by omega] at hc
    rw [← hc] at hr
    have hno : ∀ s, ¬ unl all L s := fun s ⟨i, o, ho, _, h2, _⟩ => by
      rw [hall i (List.getElem?_eq_some_iff.1 ho).1] at h2; cases h2
    rw [(nomask L (fun _ => .und) (look (tS E C.sz all σ0 all.length).R) hno).2, (nomask L (lk (tS E C.sz all σ0 all.length).F) (fun _ => none) hno).1] at hr
    exact hQ a w hr
  intro fuel
  induction fuel with
  | zero =>
    intro L a w hsz hcnt hdc hst
    have hall : ∀ i, i < all.length → L.getD i false = true := by
      intro i hi
      have h0 : (List.range all.length).countP (fun i => !L.getD i false) = 0 := by omega
      rw [List.countP_eq_zero] at h0
      simpa using h0 i (List.mem_range.2 hi)
    refine ⟨?_, fin L a w hall hst⟩
    cases hr : Region.ready .any all.toArray L with
    | nil => rfl
    | cons x xs =>
      have hx : x ∈ Region.ready .any all.toArray L := by rw [hr]; simp
      obtain ⟨o, ho, h1, _⟩ := (ready_iff L x hsz).1 hx
      rw [hall x (List.getElem?_eq_some_iff.1 ho).1] at h1
      cases h1
  | succ fuel ih =>
    intro L a w hsz hcnt hdc hst
    refine ⟨fun hnil => fin L a w ?_ hst, fun i hi => ?_⟩
    · -- nobody may come up: all have
      intro i
      induction i using Nat.strongRecOn with
      | _ i ihi =>
        intro hi
        cases hb : L.getD i false with
        | true => rfl
        | false =>
          have hg : all[i]? = some all[i] := List.getElem?_eq_getElem hi
          have : i ∈ Region.ready .any all.toArray L := (ready_iff L i hsz).2 ⟨all[i], hg, hb, fun e he hbd => by
            have := hT.edge i _ hg e he hbd
            exact ihi e.on this (by omega)⟩
          rw [hnil] at this
          cases this
    · obtain ⟨o, ho, hun, hed⟩ := (ready_iff L i hsz).1 hi
      have hil : i < all.length := (List.getElem?_eq_some_iff.1 ho).1
      have hiL : i < L.size := by rw [hsz]; exact hil
      have hfore := clo L hdc i o ho hed
      -- what is to be shown of the list behind it
      have next : ∀ a' w', (∃ j, j ≤ all.length ∧ (∀ (k : Nat) (o : Oper), all[k]? = some o → isTail all o = true → ((L.setIfInBounds i true).getD k false = true ↔ k < j)) ∧
            Rep C (maskF all (L.setIfInBounds i true) (lk (tS E C.sz all σ0 j).F)) (maskR all (L.setIfInBounds i true) (look σ0.R) (look (tS E C.sz all σ0 j).R)) a' w') →
          wpAny E.P .any all.toArray Q fuel (L.setIfInBounds i true) a' w' := by
        intro a' w' h
        refine ih _ a' w' (by simp [hsz]) ?_ ?_ h
        · have := countP_lt (p := fun k => !L.getD k false) (q := fun k => !(L.setIfInBounds i true).getD k false) (List.range all.length)
            (fun k _ hk => by
              rw [setD L i k hiL] at hk
              by_cases e : i = k
              · rw [if_pos e] at hk; cases hk
              · rw [if_neg e] at hk; exact hk)
            ⟨i, List.mem_range.2 hil, by rw [hun]; rfl, by rw [setD L i i hiL, if_pos rfl]; rfl⟩
          omega
        · intro j oj hoj hj e he hb
          rw [setD L i _ hiL]
          by_cases eie : i = e.on
          · rw [if_pos eie]
          · rw [if_neg eie]
            rw [setD L i j hiL] at hj
            by_cases eij : i = j
            · subst eij
              rw [ho] at hoj
              injection hoj with hoj
              subst hoj
              exact hed e he hb
            · rw [if_neg eij] at hj
              exact hdc j oj hoj hj e he hb
      unfold wpOp
      have hoA : all.toArray[i]? = some o := by simpa using ho
      rw [hoA]
      simp only
      obtain ⟨j0, hjn0, hj0, hr⟩ := hst
      cases htl : isTail all o with
      | true =>
        -- a tail: it is the next one of the tails
        have hji : j0 ≤ i := by
          rcases Nat.lt_or_ge i j0 with h | h
          · rw [(hj0 i o ho htl).2 h] at hun; cases hun
          · exact h
        have hgap : ∀ k, j0 ≤ k → k < i → ∀ o', all[k]? = some o' → isTail all o' = false := fun k h1 h2 o' ho' => by
          cases hb : isTail all o' with
          | false => rfl
          | true =>
            have := (hj0 k o' ho' hb).1 (hfore k (hT.tails k i o' o h2 ho' ho hb htl))
            omega
        have hc := tconst j0 (i - j0) fun k h1 h2 => hgap k h1 (by omega)
        rw [show j0 + (i - j0) = i from by omega] at hc
        rw [← hc] at hr
        have hj : ∀ (k : Nat) (o' : Oper), all[k]? = some o' → isTail all o' = true → (L.getD k false = true ↔ k < i) := fun k o' ho' hb => by
          rw [hj0 k o' ho' hb]
          constructor
          · intro h; omega
          · intro h
            rcases Nat.lt_or_ge k j0 with h' | h'
            · exact h'
            · have := hgap k h' h o' ho'; rw [hb] at this; cases this
        clear hc hgap hj0 hji
        obtain ⟨j, rfl⟩ : ∃ j, j = i := ⟨i, rfl⟩
        have unl_same : ∀ s, unl all (L.setIfInBounds j true) s ↔ unl all L s := by
          intro s
          constructor
          · rintro ⟨k, ok, hok, hkt, hku, hkd⟩
            rw [setD L j k hiL] at hku
            by_cases e : j = k
            · rw [if_pos e] at hku; cases hku
            · rw [if_neg e] at hku
              exact ⟨k, ok, hok, hkt, hku, hkd⟩
          · rintro ⟨k, ok, hok, hkt, hku, hkd⟩
            refine ⟨k, ok, hok, hkt, ?_, hkd⟩
            rw [setD L j k hiL, if_neg]
            · exact hku
            · rintro rfl
              rw [ho] at hok
              injection hok with hok
              subst hok
              rw [htl] at hkt; cases hkt
        have mF' : ∀ F, maskF all (L.setIfInBounds j true) F = maskF all L F := fun F => by
          
          funext s
          unfold maskF
          by_cases h : unl all L s
          · rw [if_pos h, if_pos ((unl_same s).2 h)]
          · rw [if_neg h, if_neg fun h' => h ((unl_same s).1 h')]
        have mR' : ∀ R, maskR all (L.setIfInBounds j true) (look σ0.R) R = maskR all L (look σ0.R) R := fun R => by
          
          funext s
          unfold maskR
          by_cases h : unl all L s ∧ look σ0.R s = none
          · rw [if_pos h, if_pos ⟨(unl_same s).2 h.1, h.2⟩]
          · rw [if_neg h, if_neg fun h' => h ⟨(unl_same s).1 h'.1, h'.2⟩]
        have hpre := hpT j o ho htl
        have hs1 : tS E C.sz all σ0 (j + 1) = (stp E C.sz all o (tS E C.sz all σ0 j)).σ := tS_tail ho htl
        have go : ∀ a' w', Rep C (maskF all L (lk (stp E C.sz all o (tS E C.sz all σ0 j)).σ.F)) (maskR all L (look σ0.R) (look (stp E C.sz all o (tS E C.sz all σ0 j)).σ.R)) a' w' →
            wpAny E.P .any all.toArray Q fuel (L.setIfInBounds j true) a' w' := fun a' w' h => next a' w' ⟨j + 1, by omega, fun k ok hok hkt => by
          rw [setD L j k hiL]
          by_cases e : j = k
          · rw [if_pos e]; simp; omega
          · rw [if_neg e, hj k ok hok hkt]; omega, by rw [mF', mR', hs1]; exact h⟩
        -- the heads that have not come up yet
        have hlate : ∀ s, unl all L s → (s ∉ o.looksAt all.toArray ∧ o.dst ≠ some s) ∧ (kindOf o.op = .head ∨ ∃ t v y, kindOf o.op = .store t (.tmp v) y) := by
          rintro s ⟨k, ok, hok, hkt, hku, hkd⟩
          rcases hT.tail k j ok o hok ho hkt htl with hh | hh
          · rw [hfore k hh] at hku; cases hku
          · exact ⟨hh.d1 s hkd, hh.kind.imp id fun ⟨t, v, y, h, _⟩ => ⟨t, v, y, h⟩⟩
        by_cases hno : ∀ s, ¬ unl all L s
        · have n1 : ∀ F, maskF all L F = F := fun F => (nomask L F (fun _ => none) hno).1
          have n2 : ∀ R, maskR all L (look σ0.R) R = R := fun R => (nomask L (fun _ => .und) R hno).2
          rw [n1, n2] at hr
          have go : ∀ a' w', Rp C (stp E C.sz all o (tS E C.sz all σ0 j)).σ a' w' → wpAny E.P .any all.toArray Q fuel (L.setIfInBounds j true) a' w' := fun a' w' h => go a' w' (by
            rw [n1, n2]; exact h)
          unfold stp at hpre go
          cases hw : wantA all o (lk (tS E C.sz all σ0 j).F) with
          | none => rw [hw] at hpre; exact hpre.elim
          | some b =>
            rw [want_sound hr hl hw]
            rw [hw] at hpre go
            cases b with
            | true => simp only [if_true]; exact .inl (opStep_sound hE hr hpre go)
            | false =>
              simp only [Bool.false_eq_true, if_false]
              unfold stepW skipStep at hpre go
              simp only at hpre go
              cases hd' : o.dst with
              | none => rw [hd'] at hpre; exact hpre.elim
              | some d =>
                rw [hd'] at hpre go
                obtain ⟨β, hB⟩ := hr
                exact go _ _ ⟨β, hB.put (Below.refl _ _) hpre (x := undef) (v := .skp) rfl (fun id hi => by simp [AV.refs] at hi)⟩
        · have hkind : kindOf o.op = .head ∨ ∃ t v y, kindOf o.op = .store t (.tmp v) y := by
            rcases Classical.not_forall.1 hno with ⟨s, hs⟩
            exact (hlate s (Classical.not_not.1 hs)).2
          have hseen : ∀ t, t ∈ o.looksAt all.toArray → maskF all L (lk (tS E C.sz all σ0 j).F) t = lk (tS E C.sz all σ0 j).F t := fun t ht => by
            unfold maskF
            rw [if_neg fun h => (hlate t h).1.1 ht]
          have hwant : wantA all o (maskF all L (lk (tS E C.sz all σ0 j).F)) = wantA all o (lk (tS E C.sz all σ0 j).F) := want_congr hseen
          have mdst : ∀ d v, o.dst = some d → updF (maskF all L (lk (tS E C.sz all σ0 j).F)) d v = maskF all L (updF (lk (tS E C.sz all σ0 j).F) d v) := fun d v hd' => by
            funext s
            unfold maskF updF
            by_cases e : d = s
            · subst e
              rw [if_pos rfl, if_neg fun h => (hlate d h).1.2 hd', if_pos rfl]
            · rw [if_neg e]; simp only [if_neg e]
          obtain ⟨σm, hmF, hmR⟩ := mask_list all L (look σ0.R) (tS E C.sz all σ0 j)
          have hrm : Rp C σm a w := by unfold Rp; rw [hmF, hmR]; exact hr
          unfold stp at hpre go
          cases hw : wantA all o (lk (tS E C.sz all σ0 j).F) with
          | none => rw [hw] at hpre; exact hpre.elim
          | some b =>
            rw [want_sound hr hl (hwant.trans hw)]
            rw [hw] at hpre go
            cases b with
            | false =>
              simp only [Bool.false_eq_true, if_false]
              unfold stepW skipStep at hpre go
              simp only at hpre go
              cases hd' : o.dst with
              | none => rw [hd'] at hpre; exact hpre.elim
              | some d =>
                rw [hd'] at hpre go
                obtain ⟨β, hB⟩ := hr
                refine go _ _ ?_
                simp only [lk_cons]
                rw [← mdst d _ hd']
                exact ⟨β, hB.put (Below.refl _ _) hpre (x := undef) (v := .skp) rfl (fun id hi => by simp [AV.refs] at hi)⟩
            | true =>
              simp only [if_true]
              left
              unfold stepW at hpre go
              simp only at hpre go
              have hsub : ∀ x ∈ o.op.operands, evA (maskF all L (lk (tS E C.sz all σ0 j).F)) x = evA (lk (tS E C.sz all σ0 j).F) x := fun x hx => by
                cases x with
                | tmp t => exact hseen t (looks_of hx)
                | _ => rfl
              have hrow : ∀ x ∈ o.op.operands, ∀ id, (evA (lk (tS E C.sz all σ0 j).F) x).refs id = true → maskR all L (look σ0.R) (look (tS E C.sz all σ0 j).R) id = look (tS E C.sz all σ0 j).R id := fun x hx id hid => by
                rw [← hsub x hx] at hid
                obtain ⟨β, hB⟩ := hr
                have hne := evA_refs hB.closed x id hid
                unfold maskR at hne ⊢
                split at hne
                · exact absurd rfl hne
                · rename_i h; rw [if_neg h]
              rcases hkind with hk | ⟨t, v, y, hk⟩
              · unfold opStep at hpre go
                rw [hk] at hpre go
                simp only at hpre go
                obtain ⟨x, hx⟩ := hd_row_tail rfl htl hk
                unfold headStep at hpre go
                cases hd' : o.dst with
                | none => rw [hd'] at hpre; exact hpre.elim
                | some d =>
                  rw [hd'] at hpre go
                  simp only at hpre go
                  obtain ⟨hdsz, hpre, _⟩ := hpre
                  have hcong : hd E o.op d (maskF all L (lk (tS E C.sz all σ0 j).F)) (maskR all L (look σ0.R) (look (tS E C.sz all σ0 j).R)) = hd E o.op d (lk (tS E C.sz all σ0 j).F) (look (tS E C.sz all σ0 j).R) :=
                    hd_congr o.op d (fun x hx => (hsub x hx).symm) (fun x hx id r hid hrr => by rw [hrow x hx id hid]; exact hrr) hpre
                  have hnr : (hd E o.op d (lk (tS E C.sz all σ0 j).F) (look (tS E C.sz all σ0 j).R)).row = none := hd_row (by rw [hx]; rfl) _ _ _
                  refine hd_sound hE hr hd' hdsz (by rw [hcong]; exact hpre) (by rw [hcong]; exact .inl hnr) fun a' w' h => go a' w' ?_
                  rw [hcong, hnr] at h
                  rw [hnr]
                  simp only [lk_cons, addR]
                  rw [← mdst d _ hd']
                  exact h
              · have hso : o.op = .store t (.tmp v) y := by
                  unfold kindOf at hk
                  split at hk <;> first | (injection hk with h1 h2 h3; subst h1 h2 h3; assumption) | cases hk
                have hxm : (Operand.tmp v) ∈ o.op.operands := by rw [hso]; simp [Op.operands]
                have hym : y ∈ o.op.operands := by rw [hso]; simp [Op.operands]
                have e1 : evA (lk σm.F) (.tmp v) = evA (lk (tS E C.sz all σ0 j).F) (.tmp v) := by rw [hmF]; exact hsub _ hxm
                have e2 : evA (lk σm.F) y = evA (lk (tS E C.sz all σ0 j).F) y := by rw [hmF]; exact hsub _ hym
                have hst : stA (look E.ty t) (evA (lk σm.F) (.tmp v)) (evA (lk σm.F) y) (look σm.R) = stA (look E.ty t) (evA (lk (tS E C.sz all σ0 j).F) (.tmp v)) (evA (lk (tS E C.sz all σ0 j).F) y) (look (tS E C.sz all σ0 j).R) := by
                  rw [e1, e2]
                  refine stA_congr fun id i hv => ?_
                  rw [hmR]
                  exact hrow _ hxm id (by rw [hv]; simp [AV.refs])
                have hform := tail_form (E := E) (C := C) htl (.inr ⟨t, v, y, hk⟩) (hpT j o ho htl)
                unfold stp at hform
                rw [hw] at hform
                unfold stepW at hform
                simp only at hform
                unfold opStep at hpre go hform
                rw [hk] at hpre go hform
                simp only at hpre go hform
                have hd' : o.dst = none := by
                  cases hd' : o.dst with
                  | none => rfl
                  | some d => unfold stStep at hpre; rw [hd'] at hpre; exact hpre.elim
                refine opStep_sound hE hrm (o := o) (by unfold opStep; rw [hk]; simp only; rw [hst]; unfold stStep at hpre ⊢; rw [hd'] at hpre ⊢; exact hpre) fun a' w' h => go a' w' ?_
                unfold opStep at h
                rw [hk] at h
                simp only at h
                rw [hst] at h
                rcases hform with ⟨d, _, hd2, _⟩ | ⟨t2, v2, y2, id, i2, r2, hk2, hv2, hne2, _, hσ⟩
                · rw [hd'] at hd2; cases hd2
                · injection hk2 with q1 q2 q3
                  injection q2 with q2
                  subst q1 q2 q3
                  unfold stStep at h hσ ⊢
                  rw [hd'] at h hσ ⊢
                  simp only at h hσ ⊢
                  injection hσ with _ hσ
                  rw [hσ]
                  unfold Rp at h
                  simp only at h
                  injection hσ with hσ _
                  injection hσ with hσ1 hσ2
                  rw [hσ1, hσ2, hmF] at h
                  simp only [look_cons] at h ⊢
                  rw [hmR] at h
                  have : maskR all L (look σ0.R) (updF (look (tS E C.sz all σ0 j).R) id (some r2)) = updF (maskR all L (look σ0.R) (look (tS E C.sz all σ0 j).R)) id (some r2) := by
                    have hne := hrow _ hxm id (by show (lk (tS E C.sz all σ0 j).F v).refs id = true; rw [hv2]; simp [AV.refs])
                    funext id'
                    unfold maskR at hne ⊢
                    unfold updF
                    by_cases e : id = id'
                    · subst e
                      rw [if_pos rfl, if_pos rfl]
                      split at hne
                      · exact absurd hne.symm hne2
                      · rename_i hh; rw [if_neg hh]
                    · rw [if_neg e, if_neg e]
                  rw [this]
                  exact h
      | false =>
        obtain ⟨j, rfl⟩ : ∃ j, j = j0 := ⟨j0, rfl⟩
        have hj := hj0
        have hjn := hjn0
        -- the tails that have come up are of those that need not wait for it
        have hafterT : ∀ k, k < j → ∀ ok, all[k]? = some ok → isTail all ok = true → Late all pairs o ok := by
          intro k h2 ok hok hkt
          rcases hT.tail i k o ok ho hok htl hkt with hh | hh
          · have hkl : L.getD k false = true := (hj k ok hok hkt).2 h2
            have := clo L hdc k ok hok (hdc k ok hok hkl) i hh
            rw [hun] at this; cases this
          · exact hh
        -- slots and rows through those tails
        have htF : ∀ t, (∀ k, k < j → ∀ ok, all[k]? = some ok → isTail all ok = true → ok.dst ≠ some t) → ∀ n, n ≤ j → lk (tS E C.sz all σ0 n).F t = lk (hS E C.sz all σ0 all.length).F t := by
          intro t ht n
          induction n with
          | zero => intro _; rfl
          | succ n ihn =>
            intro hn
            have ihn := ihn (by omega)
            have hlt : n < all.length := by omega
            have hg : all[n]? = some all[n] := List.getElem?_eq_getElem hlt
            cases q1 : isTail all all[n] with
            | false => rw [tS_skip (fun o' h => by rw [hg] at h; injection h with h; subst h; exact q1)]; exact ihn
            | true =>
            have q2 := hafterT n (by omega) _ hg q1
            have hf := tail_form (E := E) (C := C) q1 (q2.kind.imp (fun h => h) fun ⟨t, v, y, h, _⟩ => ⟨t, v, y, h⟩) (hpT _ _ hg q1)
            rw [tS_tail hg q1]
            rcases hf with ⟨d, v, hd1, hσ⟩ | ⟨_, _, _, id, _, r, _, _, _, _, hσ⟩ <;> rw [hσ]
            · have : d ≠ t := fun e => ht n (by omega) _ hg q1 (by rw [hd1, e])
              simp only [lk, if_neg this]; exact ihn
            · exact ihn
        have htR : ∀ id, (∀ k v i2, k < j → ∀ ok t y, all[k]? = some ok → isTail all ok = true → kindOf ok.op = .store t (.tmp v) y → lk (tS E C.sz all σ0 k).F v = .elt id i2 → False) → ∀ n, n ≤ j → look (tS E C.sz all σ0 n).R id = look (hS E C.sz all σ0 all.length).R id := by
          intro id hid n
          induction n with
          | zero => intro _; rfl
          | succ n ihn =>
            intro hn
            have ihn := ihn (by omega)
            have hlt : n < all.length := by omega
            have hg : all[n]? = some all[n] := List.getElem?_eq_getElem hlt
            cases q1 : isTail all all[n] with
            | false => rw [tS_skip (fun o' h => by rw [hg] at h; injection h with h; subst h; exact q1)]; exact ihn
            | true =>
            have q2 := hafterT n (by omega) _ hg q1
            have hf := tail_form (E := E) (C := C) q1 (q2.kind.imp (fun h => h) fun ⟨t, v, y, h, _⟩ => ⟨t, v, y, h⟩) (hpT _ _ hg q1)
            rw [tS_tail hg q1]
            rcases hf with ⟨d, v, hd1, hσ⟩ | ⟨t2, v2, y2, id2, i2, r, hk2, hv2, _, _, hσ⟩ <;> rw [hσ]
            · exact ihn
            · have : id2 ≠ id := fun e => hid n v2 i2 (by omega) _ t2 y2 hg q1 hk2 (by rw [← e]; exact hv2)
              simp only [look, if_neg this]; exact ihn
        have htN : ∀ id, look (hS E C.sz all σ0 all.length).R id = none → ∀ n, n ≤ j → look (tS E C.sz all σ0 n).R id = none := by
          intro id hid n
          induction n with
          | zero => intro _; exact hid
          | succ n ihn =>
            intro hn
            have ihn := ihn (by omega)
            have hlt : n < all.length := by omega
            have hg : all[n]? = some all[n] := List.getElem?_eq_getElem hlt
            cases q1 : isTail all all[n] with
            | false => rw [tS_skip (fun o' h => by rw [hg] at h; injection h with h; subst h; exact q1)]; exact ihn
            | true =>
            have q2 := hafterT n (by omega) _ hg q1
            have hf := tail_form (E := E) (C := C) q1 (q2.kind.imp (fun h => h) fun ⟨t, v, y, h, _⟩ => ⟨t, v, y, h⟩) (hpT _ _ hg q1)
            rw [tS_tail hg q1]
            rcases hf with ⟨d, v, hd1, hσ⟩ | ⟨t2, v2, y2, id2, i2, r, hk2, hv2, hne2, _, hσ⟩ <;> rw [hσ]
            · exact ihn
            · have : id2 ≠ id := fun e => hne2 (by rw [e]; exact ihn)
              simp only [look, if_neg this]; exact ihn
        -- the slots that it looks at hold what they hold in the text's order
        have hstay : ∀ t, t ∈ o.looksAt all.toArray → lk (hS E C.sz all σ0 all.length).F t = lk (hS E C.sz all σ0 i).F t := by
          intro t htl'
          have hkeep := (seq_keep (E := E) (C := C) hpH t i (all.length - i) fun k h1 h2 ok hok hkt => by
            intro hkd
            rcases Nat.lt_or_ge i k with h | h
            · exact (hT.head i k o ok h ho hok htl hkt).2 t hkd htl'
            · have : k = i := by omega
              subst this
              rw [ho] at hok
              injection hok with hok
              subst hok
              exact hT.self k o ho htl t hkd htl').1
          rw [show i + (all.length - i) = all.length from by omega] at hkeep
          exact hkeep
        have hfar : ∀ t, t ∈ o.looksAt all.toArray → lk (tS E C.sz all σ0 j).F t = lk (hS E C.sz all σ0 i).F t := by
          intro t htl'
          have := htF t (fun k h2 ok hok hkt hkd => (hafterT k h2 ok hok hkt).d2 t hkd htl') j (Nat.le_refl _)
          rw [this, hstay t htl']
        have hseen : ∀ t, t ∈ o.looksAt all.toArray → maskF all L (lk (tS E C.sz all σ0 j).F) t = lk (hS E C.sz all σ0 i).F t := by
          intro t htl'
          have hnu : ¬ unl all L t := by
            rintro ⟨k, ok, hok, hkt, hku, hkd⟩
            rcases Nat.lt_trichotomy k i with h | h | h
            · have := ((hT.head k i ok o h hok ho hkt htl).1 t hkd).1 htl'
              rw [hfore k this] at hku; cases hku
            · subst h
              rw [ho] at hok
              injection hok with hok
              subst hok
              exact hT.self k o ho htl t hkd htl'
            · exact (hT.head i k o ok h ho hok htl hkt).2 t hkd htl'
          unfold maskF
          rw [if_neg hnu, hfar t htl']
        obtain ⟨d, hdd, hdsz, hform⟩ := head_form htl (hpH i o ho htl)
        have hud : unl all L d := ⟨i, o, ho, htl, hun, hdd⟩
        -- who writes the same slot
        have hone : ∀ (k : Nat) (ok : Oper), all[k]? = some ok → isTail all ok = false → ok.dst = some d → k = i := by
          intro k ok hok hkt hkd
          rcases Nat.lt_trichotomy k i with h | h | h
          · exact absurd hdd ((hT.head k i ok o h hok ho hkt htl).1 d hkd).2
          · exact h
          · exact absurd hkd ((hT.head i k o ok h ho hok htl hkt).1 d hdd).2
        have hun' : ∀ s, unl all (L.setIfInBounds i true) s ↔ unl all L s ∧ s ≠ d := by
          intro s
          constructor
          · rintro ⟨k, ok, hok, hkt, hku, hkd⟩
            rw [setD L i k hiL] at hku
            by_cases e : i = k
            · rw [if_pos e] at hku; cases hku
            · rw [if_neg e] at hku
              exact ⟨⟨k, ok, hok, hkt, hku, hkd⟩, fun es => e (hone k ok hok hkt (by rw [hkd, es])).symm⟩
          · rintro ⟨⟨k, ok, hok, hkt, hku, hkd⟩, hs⟩
            refine ⟨k, ok, hok, hkt, ?_, hkd⟩
            rw [setD L i k hiL, if_neg]
            · exact hku
            · rintro rfl
              rw [ho] at hok
              injection hok with hok
              subst hok
              rw [hdd] at hkd
              injection hkd with hkd
              exact hs hkd.symm
        have hafter := (seq_keep (E := E) (C := C) hpH d (i + 1) (all.length - (i + 1)) fun k h1 h2 ok hok hkt hkd => by
          have := hone k ok hok hkt hkd; omega)
        rw [show i + 1 + (all.length - (i + 1)) = all.length from by omega] at hafter
        have hafterF : lk (tS E C.sz all σ0 j).F d = lk (hS E C.sz all σ0 (i + 1)).F d := by
          have := htF d (fun k h2 ok hok hkt => ((hafterT k h2 ok hok hkt).d1 d hdd).2) j (Nat.le_refl _)
          rw [this, hafter.1]
        have hbefore := (seq_keep (E := E) (C := C) (σ0 := σ0) hpH d 0 i fun k h1 h2 ok hok hkt hkd => by
          have := hone k ok hok hkt hkd; omega)
        rw [Nat.zero_add] at hbefore
        have hseq0 : look (hS E C.sz all σ0 i).R d = look σ0.R d := hbefore.2
        have hlist' : ∀ (k : Nat) (ok : Oper), all[k]? = some ok → isTail all ok = true → ((L.setIfInBounds i true).getD k false = true ↔ k < j) := by
          intro k ok hok hkt
          rw [setD L i k hiL, if_neg]
          · exact hj k ok hok hkt
          · rintro rfl
            rw [ho] at hok
            injection hok with hok
            subst hok
            rw [htl] at hkt; cases hkt
        -- the masks behind the step
        have mF : ∀ v, lk (hS E C.sz all σ0 (i + 1)).F d = v → updF (maskF all L (lk (tS E C.sz all σ0 j).F)) d v = maskF all (L.setIfInBounds i true) (lk (tS E C.sz all σ0 j).F) := by
          intro v hv
          funext s
          unfold updF
          by_cases e : d = s
          · rw [if_pos e]
            unfold maskF
            rw [if_neg (fun h => ((hun' s).1 h).2 e.symm), ← e, hafterF, hv]
          · rw [if_neg e]
            unfold maskF
            by_cases hu : unl all L s
            · rw [if_pos hu, if_pos ((hun' s).2 ⟨hu, fun es => e es.symm⟩)]
            · rw [if_neg hu, if_neg (fun h => hu ((hun' s).1 h).1)]
        have mR0 : ∀ id, id ≠ d → maskR all (L.setIfInBounds i true) (look σ0.R) (look (tS E C.sz all σ0 j).R) id = maskR all L (look σ0.R) (look (tS E C.sz all σ0 j).R) id := by
          intro id e
          unfold maskR
          by_cases hu : unl all L id ∧ look σ0.R id = none
          · rw [if_pos hu, if_pos ⟨(hun' id).2 ⟨hu.1, e⟩, hu.2⟩]
          · rw [if_neg hu, if_neg (fun h => hu ⟨((hun' id).1 h.1).1, h.2⟩)]
        have mRd : maskR all (L.setIfInBounds i true) (look σ0.R) (look (tS E C.sz all σ0 j).R) d = look (tS E C.sz all σ0 j).R d := by
          unfold maskR
          rw [if_neg fun h => ((hun' d).1 h.1).2 rfl]
        have hwant : wantA all o (maskF all L (lk (tS E C.sz all σ0 j).F)) = wantA all o (lk (hS E C.sz all σ0 i).F) := want_congr hseen
        have hs1 : hS E C.sz all σ0 (i + 1) = (stp E C.sz all o (hS E C.sz all σ0 i)).σ := hS_head ho htl
        -- no row of its own: the masks' rows are the same
        have mRn : look (hS E C.sz all σ0 (i + 1)).R d = look (hS E C.sz all σ0 i).R d → maskR all (L.setIfInBounds i true) (look σ0.R) (look (tS E C.sz all σ0 j).R) = maskR all L (look σ0.R) (look (tS E C.sz all σ0 j).R) := by
          intro hsame
          funext id
          by_cases e : id = d
          · subst e
            rw [mRd]
            unfold maskR
            by_cases h0 : look σ0.R id = none
            · rw [if_pos ⟨hud, h0⟩]
              exact htN id (by rw [hafter.2, hsame, hseq0, h0]) j (Nat.le_refl _)
            · rw [if_neg fun h => h0 h.2]
          · exact mR0 id e
        rcases hform with ⟨hw, hpre, hfr, hσ⟩ | ⟨hw, hσ⟩
        · rw [want_sound hr hl (hwant.trans hw), if_pos rfl]
          have hcong : hd E o.op d (maskF all L (lk (tS E C.sz all σ0 j).F)) (maskR all L (look σ0.R) (look (tS E C.sz all σ0 j).R)) = hd E o.op d (lk (hS E C.sz all σ0 i).F) (look (hS E C.sz all σ0 i).R) := by
            refine hd_congr o.op d (fun x hx => ?_) (fun x hx id r hid hrr => ?_) hpre
            · cases x with
              | tmp t => exact (hseen t (looks_of hx)).symm
              | _ => rfl
            · -- the row is there
              have hx' : (evA (maskF all L (lk (tS E C.sz all σ0 j).F)) x).refs id = true := by
                cases x with
                | tmp t =>
                  simp only [evA] at hid ⊢
                  rw [hseen t (looks_of hx)]; exact hid
                | _ => exact hid
              obtain ⟨β, hB⟩ := hr
              have hne := evA_refs hB.closed x id hx'
              have hrm := hseqR i (by omega) id r hrr
              have hrj := htR id (fun k v i2 h2 ok t2 y2 hok hkt hk2 hv2 => by
                have hlt := hafterT k h2 ok hok hkt
                rcases hlt.kind with h | ⟨t3, v3, y3, hk3, hpr⟩
                · rw [h] at hk2; cases hk2
                rw [hk2] at hk3
                injection hk3 with q1 q2 q3
                injection q2 with q2
                subst q2
                cases x with
                | tmp u =>
                  have hmem := hpr u hx
                  have hsh := noSh_ne (disj_get hdis u v hmem)
                  have hkeepu := tail_keep (E := E) (C := C) (σ0 := σ0) hpT u 0 all.length fun k h1 h2 ok hok hkt hkd => (hT.kept k ok hok hkt u hkd _ hmem).1 rfl
                  have hkeepv := tail_keep (E := E) (C := C) hpT v k (all.length - k) fun k' h1' h2' ok hok hkt hkd => (hT.kept k' ok hok hkt v hkd _ hmem).2 rfl
                  rw [Nat.zero_add] at hkeepu
                  rw [show k + (all.length - k) = all.length from by omega] at hkeepv
                  rcases hkeepu with eu | eu
                  · rcases hkeepv with ev | ev
                    · refine hsh.2.2 id i2 id (by rw [ev]; exact hv2) ?_ rfl
                      rw [eu, show tS E C.sz all σ0 0 = hS E C.sz all σ0 all.length from rfl, hstay u (looks_of hx)]
                      exact hid
                    · exact hsh.2.1 ev
                  · exact hsh.1 eu
                | const v => cases v <;> simp [evA, constA, AV.refs] at hid; (try (split at hid <;> simp [AV.refs] at hid))
                | func g => simp [evA, AV.refs] at hid
                | global g => simp [evA, AV.refs] at hid) j (Nat.le_refl _)
              unfold maskR at hne ⊢
              split at hne
              · exact absurd rfl hne
              · rename_i hh; rw [if_neg hh, hrj]; exact hrm
          -- the row that it makes
          have hmake : updO (maskR all L (look σ0.R) (look (tS E C.sz all σ0 j).R)) d (hd E o.op d (lk (hS E C.sz all σ0 i).F) (look (hS E C.sz all σ0 i).R)).row = maskR all (L.setIfInBounds i true) (look σ0.R) (look (tS E C.sz all σ0 j).R) ∧
              ((hd E o.op d (lk (hS E C.sz all σ0 i).F) (look (hS E C.sz all σ0 i).R)).row = none ∨ maskR all L (look σ0.R) (look (tS E C.sz all σ0 j).R) d = none) := by
            have hadd : look (hS E C.sz all σ0 (i + 1)).R = updO (look (hS E C.sz all σ0 i).R) d (hd E o.op d (lk (hS E C.sz all σ0 i).F) (look (hS E C.sz all σ0 i).R)).row := by
              simp only [hs1, hσ, addR_look]
            cases hrw : (hd E o.op d (lk (hS E C.sz all σ0 i).F) (look (hS E C.sz all σ0 i).R)).row with
            | none =>
              rw [hrw] at hadd
              refine ⟨?_, .inl rfl⟩
              simp only [updO] at hadd ⊢
              exact (mRn (by rw [hadd])).symm
            | some rw' =>
              rw [hrw] at hadd hfr
              have hn0 : look (hS E C.sz all σ0 i).R d = none := hfr.resolve_left (by simp)
              have h0 : look σ0.R d = none := by rw [← hseq0]; exact hn0
              have hnot : ∀ k, 0 ≤ k → k < 0 + j → ∀ ok, all[k]? = some ok → isTail all ok = false := fun k _ h2 ok hok => by
                cases hb : isTail all ok with
                | false => rfl
                | true =>
                  have := (hafterT k (by omega) ok hok hb).row
                  rw [hd_row this] at hrw
                  cases hrw
              have hj00 := tconst 0 j hnot
              rw [Nat.zero_add] at hj00
              refine ⟨?_, .inr (by unfold maskR; rw [if_pos ⟨hud, h0⟩])⟩
              funext id
              by_cases e : id = d
              · subst e
                rw [mRd, hj00, show tS E C.sz all σ0 0 = hS E C.sz all σ0 all.length from rfl, hafter.2, hadd]
                simp [updO, updF]
              · rw [mR0 id e]
                simp [updO, updF, Ne.symm e]
          refine .inl (hd_sound hE hr hdd hdsz (by rw [hcong]; exact hpre) (by rw [hcong]; exact hmake.2) fun a' w' h => next a' w' ⟨j, hjn, hlist', ?_⟩)
          rw [hcong] at h
          have e1 := mF (hd E o.op d (lk (hS E C.sz all σ0 i).F) (look (hS E C.sz all σ0 i).R)).v (by simp only [hs1, hσ, lk, if_true])
          rw [e1, hmake.1] at h
          exact h
        · rw [want_sound hr hl (hwant.trans hw), if_neg (by simp)]
          obtain ⟨β, hB⟩ := hr
          refine next _ _ ⟨j, hjn, hlist', ?_⟩
          rw [← mF .skp (by simp only [hs1, hσ, lk, if_true]), mRn (by simp only [hs1, hσ])]
          rw [hdd]
          exact ⟨β, hB.put (Below.refl _ _) hdsz (x := undef) (v := .skp) rfl (fun id hi => by simp [AV.refs] at hi)⟩

/-- A region that asks for its order. -/
theorem draw_sound {Q : Exit → Act → World → Prop} {Kσ : St → Prop} {id : Nat} {a : Act} {w : World} (hw : E.P.follows .mixedOrders = true) (hE : E.Ok) (hd : drawOk all pairs = true) (hl : ∀ o ∈ all, ∀ d, o.dst = some d → d < C.sz)
    (hr : Rp C σ0 a w) (h : evs E C.sz all (part all) σ0 fun σ' => disj (lk σ'.F) pairs ∧ Kσ σ') (hQ : ∀ σ' a' w', Kσ σ' → Rp C σ' a' w' → Q .normal a' w') : (Code.region id all.toArray true).wp E.P Q a w := by
  have hT := facts_of hd
  obtain ⟨hpH, hpT, hdis, hK⟩ := seq_evs (E := E) (C := C) h
  refine wp_region_any hw ?_
  have rep : ∀ i, (Array.replicate all.toArray.size false).getD i false = false := fun i => by
    by_cases hi : i < all.length
    · simp [hi]
    · simp [hi]
  have hdr : Rp C σ0 a w.drew := hr.drew
  refine any_sound (E := E) (C := C) (Kσ := Kσ) hE hT hl hpH hpT hdis (fun a' w' hr' => hQ _ a' w' hK hr') all.toArray.size (Array.replicate all.toArray.size false) a w.drew (by simp) ?_ ?_ ⟨0, Nat.zero_le _, fun i o h1 h2 => ?_, ?_⟩
  · refine Nat.le_trans (List.countP_le_length) (by simp)
  · intro j o ho hj
    rw [rep] at hj; cases hj
  · rw [rep]; simp
  · show Rep C (maskF all (Array.replicate all.toArray.size false) (lk (hS E C.sz all σ0 all.length).F)) (maskR all (Array.replicate all.toArray.size false) (look σ0.R) (look (hS E C.sz all σ0 all.length).R)) a w.drew
    have hun : ∀ s, unl all (Array.replicate all.toArray.size false) s ↔ ∃ (i : Nat) (o : Oper), all[i]? = some o ∧ isTail all o = false ∧ o.dst = some s := fun s => by
      unfold unl
      constructor
      · rintro ⟨i, o, h1, h2, _, h4⟩; exact ⟨i, o, h1, h2, h4⟩
      · rintro ⟨i, o, h1, h2, h4⟩; exact ⟨i, o, h1, h2, rep i, h4⟩
    have keep : ∀ s, ¬ unl all (Array.replicate all.toArray.size false) s → lk (hS E C.sz all σ0 all.length).F s = lk σ0.F s ∧ look (hS E C.sz all σ0 all.length).R s = look σ0.R s := fun s hs => by
      have := seq_keep (E := E) (C := C) (σ0 := σ0) hpH s 0 all.length fun k _ hk o ho hkt hd' => hs ((hun s).2 ⟨k, o, ho, hkt, hd'⟩)
      simpa [hS] using this
    have e2 : maskR all (Array.replicate all.toArray.size false) (look σ0.R) (look (hS E C.sz all σ0 all.length).R) = look σ0.R := by
      funext id
      unfold maskR
      cases h0 : look σ0.R id with
      | some r =>
        rw [if_neg (by simp)]
        have := seq_rows (E := E) (C := C) (σ0 := σ0) hpH 0 all.length (show look (hS E C.sz all σ0 0).R id = some r from h0)
        rwa [Nat.zero_add] at this
      | none =>
        split
        · rfl
        · rename_i hu
          rw [(keep id fun h => hu ⟨h, rfl⟩).2, h0]
    rw [e2]
    refine hdr.weak fun s => ?_
    unfold maskF
    split
    · right; rfl
    · rename_i hu; left; exact (keep s hu).1

end

end Go.Proofs.YtijoifajbmhgdaaGreat.Sym
