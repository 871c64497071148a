/- Code: the small machine over whole bodies; from a body to what the function is said to do. -/
import Derived.Test.YtijoifajbmhgdaaGreatSymG
namespace Go.Proofs.YtijoifajbmhgdaaGreat.Sym
open Go Go.RowKit
set_option linter.unusedSimpArgs false
set_option linter.unusedVariables false

def lift (C : Ctx) (Q : Exit → St → Prop) (e : Exit) (a : Act) (w : World) : Prop := ∃ σ, Rp C σ a w ∧ Q e σ

/-- From the state σ the code comes to Q. -/
def Tri (E : Env) (sz : Nat) (c : Code) (Q : Exit → St → Prop) (σ : St) : Prop :=
  ∀ C : Ctx, C.sz = sz → ∀ a w, Rp C σ a w → c.wp E.P (lift C Q) a w

def ethen (K : St → Prop) (Q : Exit → St → Prop) : Exit → St → Prop
  | .normal, σ => K σ
  | e, σ => Q e σ

def eblock (id : Nat) (Q : Exit → St → Prop) : Exit → St → Prop
  | .exit id', σ => if id' = id then Q .normal σ else Q (.exit id') σ
  | e, σ => Q e σ

structure Env.Good (E : Env) : Prop where
  ok : E.Ok
  mixed : E.P.follows .mixedOrders = true

section
variable {E : Env} {sz : Nat} {Q : Exit → St → Prop} {σ : St}

theorem T_seq {x y : Code} (h : ∀ K : St → Prop, (∀ σ', Tri E sz y Q σ' → K σ') → Tri E sz x (ethen K Q) σ) : Tri E sz (.seq x y) Q σ := fun C hC a w hr => by
  refine wp_seq (Code.wp_mono ?_ (h (fun σ' => Tri E sz y Q σ') (fun _ h => h) C hC a w hr))
  rintro e a' w' ⟨σ', hr', hq⟩
  cases e with
  | normal => exact hq C hC a' w' hr'
  | _ => exact ⟨σ', hr', hq⟩

theorem T_seq' {x y : Code} (h : Tri E sz x (ethen (fun σ' => Tri E sz y Q σ') Q) σ) : Tri E sz (.seq x y) Q σ := fun C hC a w hr => by
  refine wp_seq (Code.wp_mono ?_ (h C hC a w hr))
  rintro e a' w' ⟨σ', hr', hq⟩
  cases e with
  | normal => exact hq C hC a' w' hr'
  | _ => exact ⟨σ', hr', hq⟩

theorem n_then {K : St → Prop} (h : K σ) : ethen K Q .normal σ := h
theorem x_then {K : St → Prop} {id : Nat} (h : Q (.exit id) σ) : ethen K Q (.exit id) σ := h
theorem r_then {K : St → Prop} (h : Q .ret σ) : ethen K Q .ret σ := h
theorem n_block {id : Nat} (h : Q .normal σ) : eblock id Q .normal σ := h
theorem r_block {id : Nat} (h : Q .ret σ) : eblock id Q .ret σ := h
theorem x_block {id : Nat} (h : Q .normal σ) : eblock id Q (.exit id) σ := by simp only [eblock, if_true]; exact h
theorem x_block' {id id' : Nat} (hne : (id' == id) = false) (h : Q (.exit id') σ) : eblock id Q (.exit id') σ := by
  have : id' ≠ id := by simpa using hne
  simp only [eblock, if_neg this]; exact h

theorem T_block {id : Nat} {c : Code} (h : Tri E sz c (eblock id Q) σ) : Tri E sz (.block id c) Q σ := fun C hC a w hr => by
  refine wp_block (Code.wp_mono ?_ (h C hC a w hr))
  rintro e a' w' ⟨σ', hr', hq⟩
  cases e with
  | exit id' =>
    simp only [eblock] at hq
    simp only [Exit.inBlock]
    split
    · rename_i e; rw [if_pos e] at hq; exact ⟨σ', hr', hq⟩
    · rename_i e; rw [if_neg e] at hq; exact ⟨σ', hr', hq⟩
  | _ => exact ⟨σ', hr', hq⟩

theorem T_exit {id : Nat} (h : Q (.exit id) σ) : Tri E sz (.exit id) Q σ := fun C hC a w hr => wp_exit ⟨σ, hr, h⟩
theorem T_ret (h : Q .ret σ) : Tri E sz .ret Q σ := fun C hC a w hr => wp_ret ⟨σ, hr, h⟩
theorem T_skip (h : Q .normal σ) : Tri E sz .skip Q σ := fun C hC a w hr => wp_skip ⟨σ, hr, h⟩

theorem T_cond {c : Operand} {x y : Code} {t : Bool} (hv : evA (lk σ.F) c = .bool t) (ht : t = true → Tri E sz x Q σ) (hf : t = false → Tri E sz y Q σ) : Tri E sz (.cond c x y) Q σ := fun C hC a w hr => by
  obtain ⟨β, hB⟩ := hr
  have hd := evA_den hB c
  rw [hv] at hd
  exact wp_cond_split hd (fun h => ht h C hC a w ⟨β, hB⟩) (fun h => hf h C hC a w ⟨β, hB⟩)

def dstsOk (sz : Nat) (l : List Oper) : Bool := l.all fun o => match o.dst with | none => true | some d => decide (d < sz)

theorem dsts_of {l : List Oper} (h : dstsOk sz l = true) {C : Ctx} (hC : C.sz = sz) : ∀ o ∈ l, ∀ d, o.dst = some d → d < C.sz := fun o ho d hd => by
  have := (List.all_eq_true.1 h) o ho
  rw [hd] at this
  rw [hC]
  simpa using this

theorem T_region {id : Nat} {l : List Oper} (hE : E.Good) (hd : dstsOk sz l = true) (h : ∀ K : St → Prop, (∀ σ', Q .normal σ' → K σ') → evs E sz l l σ K) : Tri E sz (.region id l.toArray false) Q σ := fun C hC a w hr => by
  subst hC
  have h := h (fun σ' => Q .normal σ') fun _ h => h
  exact wp_region_lit (evs_sound rfl hE.ok (dsts_of hd rfl) (Kσ := fun σ' => Q .normal σ') (fun σ' a' w' hq hr' => ⟨σ', hr', hq⟩) l σ a w hr h)

/-- The heads stand first. -/
def inOrd {α : Type} (p : α → Bool) : List α → Bool
  | [] => true
  | a :: r => if p a = true then r.all p else inOrd p r

theorem part_of {α : Type} {p : α → Bool} : ∀ {l : List α}, inOrd p l = true → l.filter (fun x => !p x) ++ l.filter p = l
  | [], _ => rfl
  | a :: r, h => by
    unfold inOrd at h
    by_cases hp : p a = true
    · rw [if_pos hp] at h
      have h' := List.all_eq_true.1 h
      have e1 : r.filter (fun x => !p x) = [] := List.filter_eq_nil_iff.2 fun x hx => by simp [h' x hx]
      have e2 : r.filter p = r := List.filter_eq_self.2 h'
      rw [List.filter_cons_of_neg (by simp [hp]), List.filter_cons_of_pos hp, e1, e2]; rfl
    · rw [if_neg hp] at h
      rw [List.filter_cons_of_pos (by simp [hp]), List.filter_cons_of_neg hp, List.cons_append, part_of h]

/-- Two neighbours change places. -/
def sw {α : Type} : Nat → List α → List α
  | 0, a :: b :: r => b :: a :: r
  | n + 1, a :: r => a :: sw n r
  | _, l => l

theorem T_draw {id : Nat} {l : List Oper} (hE : E.Good) (hd : dstsOk sz l = true) (ho : (drawOk l [] && inOrd (isTail l) l) = true) (h : ∀ K : St → Prop, (∀ σ', Q .normal σ' → K σ') → evs E sz l l σ K) : Tri E sz (.region id l.toArray true) Q σ := fun C hC a w hr => by
  subst hC
  have h := h (fun σ' => disj (lk σ'.F) [] ∧ Q .normal σ') fun _ h => ⟨trivial, h⟩
  rw [Bool.and_eq_true] at ho
  exact draw_sound (Kσ := fun σ' => Q .normal σ') hE.mixed hE.ok ho.1 (dsts_of hd rfl) hr (by rw [show part l = l from part_of ho.2]; exact h) (fun σ' a' w' hq hr' => ⟨σ', hr', hq⟩)

/-- The same where a place that is stored into and a place that is read later are to be told apart. -/
theorem T_drawP {id : Nat} {l : List Oper} (pairs : List (Nat × Nat)) (hE : E.Good) (hd : dstsOk sz l = true) (ho : (drawOk l pairs && inOrd (isTail l) l) = true) (h : ∀ K : St → Prop, (∀ σ', disj (lk σ'.F) pairs → Q .normal σ' → K σ') → evs E sz l l σ K) : Tri E sz (.region id l.toArray true) Q σ := fun C hC a w hr => by
  subst hC
  have h := h (fun σ' => disj (lk σ'.F) pairs ∧ Q .normal σ') fun _ h1 h2 => ⟨h1, h2⟩
  rw [Bool.and_eq_true] at ho
  exact draw_sound (Kσ := fun σ' => Q .normal σ') hE.mixed hE.ok ho.1 (dsts_of hd rfl) hr (by rw [show part l = l from part_of ho.2]; exact h) (fun σ' a' w' hq hr' => ⟨σ', hr', hq⟩)

/-- The same where two neighbours of the text change places. -/
theorem T_drawS {id : Nat} {l : List Oper} (n : Nat) (pairs : List (Nat × Nat)) (hE : E.Good) (hd : dstsOk sz l = true) (ho : drawOk l pairs = true) (hs : part l = sw n l) (h : ∀ K : St → Prop, (∀ σ', disj (lk σ'.F) pairs → Q .normal σ' → K σ') → evs E sz l (sw n l) σ K) : Tri E sz (.region id l.toArray true) Q σ := fun C hC a w hr => by
  subst hC
  have h := h (fun σ' => disj (lk σ'.F) pairs ∧ Q .normal σ') fun _ h1 h2 => ⟨h1, h2⟩
  exact draw_sound (Kσ := fun σ' => Q .normal σ') hE.mixed hE.ok ho (dsts_of hd rfl) hr (by rw [hs]; exact h) (fun σ' a' w' hq hr' => ⟨σ', hr', hq⟩)

/-- A loop: what holds at each round's head, and a number that goes down. -/
theorem T_loop {c : Code} (I : St → Prop) (μ : St → Nat) (h0 : I σ) (h : ∀ σ', I σ' → Tri E sz c (ethen (fun σ'' => I σ'' ∧ μ σ'' < μ σ') Q) σ') : Tri E sz (.loop c) Q σ := fun C hC a w hr => by
  have key : ∀ n (σ : St) a w, μ σ = n → I σ → Rp C σ a w → ∀ (b : Frame) (k : List Item) (cs : List Frame),
      ∃ e a' w', lift C Q e a' w' ∧ Arrives E.P (lone (b.at a (.code c :: .inLoop c :: k)) cs w) b k cs e a' w' := by
    intro n
    induction n using Nat.strongRecOn with
    | _ n ih =>
      intro σ a w hn hI hr b k cs
      obtain ⟨e, a', w', ⟨σ', hr', hq⟩, harr⟩ := h σ hI C hC a w hr b (.inLoop c :: k) cs
      cases e with
      | normal =>
        obtain ⟨hI', hlt⟩ := hq
        obtain ⟨e2, a2, w2, hq2, harr2⟩ := ih (μ σ') (by omega) σ' a' w' rfl hI' hr' b k cs
        exact ⟨e2, a2, w2, hq2, .of_steps (Steps.trans harr (.one step_inLoop)) harr2⟩
      | exit id => exact ⟨_, a', w', ⟨σ', hr', hq⟩, .pass (x := .inLoop c) rfl (fun _ _ => .inl (by simp)) harr⟩
      | goto l => exact ⟨_, a', w', ⟨σ', hr', hq⟩, .pass (x := .inLoop c) rfl (fun _ _ => .inl (by simp)) harr⟩
      | ret => exact ⟨_, a', w', ⟨σ', hr', hq⟩, .pass (x := .inLoop c) rfl (fun _ _ => .inl (by simp)) harr⟩
      | panic ch => exact ⟨_, a', w', ⟨σ', hr', hq⟩, .pass (x := .inLoop c) rfl (fun _ _ => .inl (by simp)) harr⟩
      | outgrown => exact ⟨_, a', w', ⟨σ', hr', hq⟩, .pass (x := .inLoop c) rfl (fun _ _ => .inl (by simp)) harr⟩
  intro b k cs
  obtain ⟨e, a', w', hq, harr⟩ := key _ σ a w rfl h0 hr b k cs
  exact ⟨e, a', w', hq, .of_steps (.one step_loop) harr⟩

/-- Less may be said. 'Slots that are named hold what they held, or a slice of the call's own that is given up; rows that are named are as they were.' -/
def slotLe (σ : St) (R' : List (Nat × Row)) (s : Nat) (v : AV) : Prop :=
  match lk σ.F s, v with
  | _, .und => True
  | .sl id o n, .rsl k m f => (match look σ.R id with | some r => r.k = k ∧ n = m ∧ o + n ≤ r.n ∧ ∀ j, j < n → r.f (o + j) = f j | none => False) ∧ look R' id = none
  | .elt id i, .pa k m f => (match look σ.R id with | some r => i = 0 ∧ r.k = k ∧ m ≤ r.n ∧ ∀ j, j < m → r.f j = f j | none => False) ∧ look R' id = none
  | .rsl k n f, .rsl k' m g => k = k' ∧ n = m ∧ ∀ j, j < n → f j = g j
  | .arr k n f, .arr k' m g => k = k' ∧ n = m ∧ ∀ j, j < n → f j = g j
  | u, v => u = v
def rowLe (σ : St) (id : Nat) (r : Row) : Prop :=
  match look σ.R id with
  | some r' => r'.k = r.k ∧ r'.n = r.n ∧ ∀ j, j < r.n → r'.f j = r.f j
  | none => False
def refsIn (R : List (Nat × Row)) (v : AV) : Prop :=
  match v with
  | .elt id _ => (look R id).isSome = true
  | .sl id _ _ => (look R id).isSome = true
  | .pair a b => a.pureA = true ∧ b.pureA = true
  | _ => True

/-- Every entry, the first of its key or not, meets P. -/
def AllF (P : Nat → AV → Prop) : List (Nat × AV) → Prop
  | [] => True
  | (s, v) :: r => P s v ∧ AllF P r
def AllR (P : Nat → Row → Prop) : List (Nat × Row) → Prop
  | [] => True
  | (s, v) :: r => P s v ∧ AllR P r

theorem AllF.get {P : Nat → AV → Prop} : ∀ {F : List (Nat × AV)}, AllF P F → ∀ s, lk F s = .und ∨ P s (lk F s)
  | [], _, _ => .inl rfl
  | (t, v) :: r, h, s => by
    by_cases e : t = s
    · subst e; simp only [lk, if_true]; exact .inr h.1
    · simp only [lk, if_neg e]; exact h.2.get s
theorem AllR.get {P : Nat → Row → Prop} : ∀ {R : List (Nat × Row)}, AllR P R → ∀ id r, look R id = some r → P id r
  | [], _, _, _, h => by simp [look] at h
  | (t, v) :: q, h, id, r, hr => by
    by_cases e : t = id
    · subst e; simp only [look, if_true, Option.some.injEq] at hr; subst hr; exact h.1
    · simp only [look, if_neg e] at hr; exact h.2.get id r hr

theorem Rp.le {C : Ctx} {σ σ' : St} {a : Act} {w : World} (h : Rp C σ a w) (hF : AllF (fun s v => slotLe σ σ'.R s v ∧ refsIn σ'.R v) σ'.F) (hR : AllR (rowLe σ) σ'.R) : Rp C σ' a w := by
  obtain ⟨β, hB⟩ := h
  have hne : ∀ id, look σ'.R id ≠ none → look σ.R id ≠ none := fun id hi => by
    cases hr : look σ'.R id with
    | none => exact absurd hr hi
    | some r =>
      have := hR.get id r hr
      unfold rowLe at this
      split at this
      · rename_i e; rw [e]; simp
      · exact this.elim
  have hown : ∀ b, ¬ own C (look σ.R) β b → ¬ own C (look σ'.R) β b := fun b hb k => hb (k.imp id fun ⟨i, hi, e⟩ => ⟨i, hne i hi, e⟩)
  refine ⟨β, fun s => ?_, fun id r hr => ?_, fun id hi => hB.base id (hne id hi), fun i j hi hj e => hB.inj i j (hne i hi) (hne j hj) e, fun s id hi => ?_, hB.below, hB.size, hB.defers⟩
  · rcases hF.get s with e | ⟨hle, _⟩
    · rw [e]; trivial
    · have hs := hB.slot s
      have same : ∀ v, den w β (own C (look σ.R) β) v (a.tmps.getD s undef) → den w β (own C (look σ'.R) β) v (a.tmps.getD s undef) := fun v hv =>
        den_change (fun b _ ho => ⟨hown b ho, rfl⟩) v (fun id _ => ⟨rfl, fun c t hc => ⟨c, t, hc, Nat.le_refl _⟩⟩) _ hv
      unfold slotLe at hle
      split at hle
      · rename_i e; rw [e]; trivial
      · rename_i id o n k m f e1 e2
        rw [e2]
        rw [e1] at hs
        obtain ⟨cap, c, t, hv, hle', hh, hcs⟩ := hs
        obtain ⟨hm, hnone⟩ := hle
        cases hr : look σ.R id with
        | none => simp [hr] at hm
        | some r =>
          rw [hr] at hm
          obtain ⟨rfl, rfl, hon, hf⟩ := hm
          obtain ⟨c1, t1, hh1, hn1, hc1⟩ := hB.row id r hr
          refine ⟨_, cap, hv, hle', .inr ⟨β id, o, rfl, ?_, fun j hj => ?_⟩⟩
          · rintro (hO | ⟨i, hi, e⟩)
            · have := C.hO _ hO
              have := hB.base id (by rw [hr]; simp)
              omega
            · have := hB.inj i id (hne i hi) (by rw [hr]; simp) e
              subst this
              exact hi hnone
          · rw [cell_row hh1, hc1 (o + j) (by omega), hf j hj]
      · rename_i id i k m f e1 e2
        rw [e2]
        rw [e1] at hs
        simp only [den] at hs
        obtain ⟨hm, hnone⟩ := hle
        cases hr : look σ.R id with
        | none => simp [hr] at hm
        | some r =>
          rw [hr] at hm
          obtain ⟨rfl, rfl, hon, hf⟩ := hm
          obtain ⟨c1, t1, hh1, hn1, hc1⟩ := hB.row id r hr
          refine ⟨β id, 0, hs, .inr ?_, fun j hj => ?_⟩
          · rintro (hO | ⟨i, hi, e⟩)
            · have := C.hO _ hO
              have := hB.base id (by rw [hr]; simp)
              omega
            · have := hB.inj i id (hne i hi) (by rw [hr]; simp) e
              subst this
              exact hi hnone
          · rw [cell_row hh1, Nat.zero_add, hc1 j (by omega), hf j hj]
      · rename_i k n f k' m g e1 e2
        rw [e2]
        rw [e1] at hs
        obtain ⟨rfl, rfl, hfg⟩ := hle
        have := same _ hs
        obtain ⟨p, cap, hv, hle', hc⟩ := this
        exact ⟨p, cap, hv, hle', hc.imp id fun ⟨b, o, h1, h2, h3⟩ => ⟨b, o, h1, h2, fun j hj => by rw [h3 j hj, hfg j hj]⟩⟩
      · rename_i k n f k' m g e1 e2
        rw [e2]
        rw [e1] at hs
        obtain ⟨rfl, rfl, hfg⟩ := hle
        simp only [den] at hs ⊢
        rw [hs, cells_congr hfg]
      · rw [← hle]; exact same _ hs
  · have := hR.get id r hr
    unfold rowLe at this
    split at this
    · rename_i r' hr'
      obtain ⟨h1, h2, h3⟩ := this
      obtain ⟨c, t, hh, hn, hc⟩ := hB.row id r' hr'
      exact ⟨c, t, hh, by omega, fun j hj => by rw [hc j (by omega), h1, h3 j hj]⟩
    · exact this.elim
  · rcases hF.get s with e | ⟨_, href⟩
    · rw [e] at hi; simp [AV.refs] at hi
    · unfold refsIn at href
      split at href
      · rename_i i _ e; rw [e] at hi; simp only [AV.refs, beq_iff_eq] at hi; subst hi; intro hn; rw [hn] at href; cases href
      · rename_i i _ _ e; rw [e] at hi; simp only [AV.refs, beq_iff_eq] at hi; subst hi; intro hn; rw [hn] at href; cases href
      · rename_i x y e; rw [e] at hi; simp [AV.refs, pure_refs x href.1, pure_refs y href.2] at hi
      · rename_i h1 h2 h3
        cases hv : lk σ'.F s <;> rw [hv] at hi <;> simp [AV.refs] at hi
        · exact absurd hv (h1 _ _)
        · exact absurd hv (h2 _ _ _)
        · exact absurd hv (h3 _ _)

/-- From a known state one may go on from less. -/
theorem T_le {c : Code} {σ' : St} (hF : AllF (fun s v => slotLe σ σ'.R s v ∧ refsIn σ'.R v) σ'.F) (hR : AllR (rowLe σ) σ'.R) (h : Tri E sz c Q σ') : Tri E sz c Q σ := fun C hC a w hr => h C hC a w (hr.le hF hR)

def Le (σ σ' : St) : Prop := AllF (fun s v => slotLe σ σ'.R s v ∧ refsIn σ'.R v) σ'.F ∧ AllR (rowLe σ) σ'.R

/-- A loop, its state said of an index. -/
theorem T_for {ι : Type} {c : Code} (S : ι → St) (P : ι → Prop) (μ : ι → Nat) (h0 : ∃ i, P i ∧ Le σ (S i))
    (h : ∀ i, P i → Tri E sz c (ethen (fun σ'' => ∃ j, P j ∧ μ j < μ i ∧ Le σ'' (S j)) Q) (S i)) : Tri E sz (.loop c) Q σ := fun C hC a w hr => by
  have key : ∀ n (i : ι) a w, μ i = n → P i → Rp C (S i) a w → ∀ (b : Frame) (k : List Item) (cs : List Frame),
      ∃ e a' w', lift C Q e a' w' ∧ Arrives E.P (lone (b.at a (.code c :: .inLoop c :: k)) cs w) b k cs e a' w' := by
    intro n
    induction n using Nat.strongRecOn with
    | _ n ih =>
      intro i a w hn hI hr b k cs
      obtain ⟨e, a', w', ⟨σ', hr', hq⟩, harr⟩ := h i hI C hC a w hr b (.inLoop c :: k) cs
      cases e with
      | normal =>
        obtain ⟨j, hI', hlt, hle⟩ := hq
        obtain ⟨e2, a2, w2, hq2, harr2⟩ := ih (μ j) (by omega) j a' w' rfl hI' (hr'.le hle.1 hle.2) b k cs
        exact ⟨e2, a2, w2, hq2, .of_steps (Steps.trans harr (.one step_inLoop)) harr2⟩
      | exit id => exact ⟨_, a', w', ⟨σ', hr', hq⟩, .pass (x := .inLoop c) rfl (fun _ _ => .inl (by simp)) harr⟩
      | goto l => exact ⟨_, a', w', ⟨σ', hr', hq⟩, .pass (x := .inLoop c) rfl (fun _ _ => .inl (by simp)) harr⟩
      | ret => exact ⟨_, a', w', ⟨σ', hr', hq⟩, .pass (x := .inLoop c) rfl (fun _ _ => .inl (by simp)) harr⟩
      | panic ch => exact ⟨_, a', w', ⟨σ', hr', hq⟩, .pass (x := .inLoop c) rfl (fun _ _ => .inl (by simp)) harr⟩
      | outgrown => exact ⟨_, a', w', ⟨σ', hr', hq⟩, .pass (x := .inLoop c) rfl (fun _ _ => .inl (by simp)) harr⟩
  obtain ⟨i, hI, hle⟩ := h0
  intro b k cs
  obtain ⟨e, a', w', hq, harr⟩ := key _ i a w rfl hI (hr.le hle.1 hle.2) b k cs
  exact ⟨e, a', w', hq, .of_steps (.one step_loop) harr⟩

end

/-! ### A function's end, and what it is said to do -/
def retOk (R : List (Nat × Row)) (x v : AV) : Prop :=
  match x, v with
  | .sl id o n, .rsl k m f => match look R id with
    | some r => r.k = k ∧ n = m ∧ o + n ≤ r.n ∧ ∀ j, j < n → r.f (o + j) = f j
    | none => False
  | .rsl k n f, .rsl k' m g => k = k' ∧ n = m ∧ ∀ j, j < n → f j = g j
  | .int k z, .int k' z' => k = k' ∧ z = z'
  | .bool b, .bool b' => b = b'
  | .fn g, .fn g' => g = g'
  | .nilfn, .nilfn => True
  | _, _ => False

def res1 (E : Env) (σ : St) (r : ResultVar) (v : AV) : Prop :=
  match r with
  | .tmp t => retOk σ.R (lk σ.F t) v
  | .cell p t => match lk σ.F p, look E.ty t, v with
    | .elt id i, some (.arr k n _), .arr k' n' f => match look σ.R id with
      | some r => i = 0 ∧ k = k' ∧ n = n' ∧ r.k = k ∧ n ≤ r.n ∧ ∀ j, j < n → r.f j = f j
      | none => False
    | _, _, _ => False

def resOk (E : Env) (rs : List ResultVar) (σ : St) (v : AV) : Prop :=
  match rs with
  | [r] => res1 E σ r v
  | [r, s] => match v with
    | .pair x y => res1 E σ r x ∧ res1 E σ s y
    | _ => False
  | _ => False

def endQ (E : Env) (rs : List ResultVar) (v : AV) : Exit → St → Prop
  | .normal, σ => resOk E rs σ v
  | .ret, σ => resOk E rs σ v
  | _, _ => False

def resRun (P : Program) (tmps : Array Value) (r : ResultVar) : Sem Value :=
  match r with
  | .tmp t => pure (tmps.getD t undef)
  | .cell p t => do loadVar t (← asAddr (tmps.getD p undef))

theorem res1_sound {E : Env} {C : Ctx} {σ : St} {a : Act} {w : World} (hE : E.Ok) (hr : Rp C σ a w) (r : ResultVar) (v : AV) (h : res1 E σ r v) :
    ∃ x, (resRun E.P a.tmps r).run E.P w = .ok x w ∧ den w (fun _ => 0) C.O v x ∧ v.pureA = true := by
  obtain ⟨β, hB⟩ := hr
  have hno : ∀ b, ¬ own C (look σ.R) β b → ¬ C.O b := fun b hb hO => hb (.inl hO)
  cases r with
  | tmp t =>
    have hs := hB.slot t
    refine ⟨a.tmps.getD t undef, rfl, ?_⟩
    simp only [res1] at h
    unfold retOk at h
    split at h
    · rename_i id o n k m f e
      rw [e] at hs
      obtain ⟨cap, c, t', hv, hle, hh, hcs⟩ := hs
      cases hr : look σ.R id with
      | none => simp [hr] at h
      | some q =>
        rw [hr] at h
        obtain ⟨rfl, rfl, hon, hf⟩ := h
        obtain ⟨c1, t1, hh1, hn1, hc1⟩ := hB.row id q hr
        refine ⟨⟨_, cap, hv, hle, .inr ⟨β id, o, rfl, ?_, fun j hj => ?_⟩⟩, rfl⟩
        · intro hO
          have := C.hO _ hO
          have := hB.base id (by rw [hr]; simp)
          omega
        · rw [cell_row hh1, hc1 (o + j) (by omega), hf j hj]
    · rename_i k n f k' m g e
      rw [e] at hs
      obtain ⟨rfl, rfl, hfg⟩ := h
      obtain ⟨p, cap, hv, hle, hc⟩ := hs
      exact ⟨⟨p, cap, hv, hle, hc.imp id fun ⟨b, o, h1, h2, h3⟩ => ⟨b, o, h1, hno b h2, fun j hj => by rw [h3 j hj, hfg j hj]⟩⟩, rfl⟩
    · rename_i k z k' z' e
      rw [e] at hs
      obtain ⟨rfl, rfl⟩ := h
      exact ⟨hs, rfl⟩
    · rename_i b b' e
      rw [e] at hs
      subst h
      exact ⟨hs, rfl⟩
    · rename_i g g' e
      rw [e] at hs
      subst h
      exact ⟨hs, rfl⟩
    · rename_i e
      rw [e] at hs
      exact ⟨hs, rfl⟩
    · exact h.elim
  | cell p t =>
    have hs := hB.slot p
    simp only [res1] at h
    split at h
    · rename_i id i k n e k' n' f e1 e2
      rw [e1] at hs
      simp only [den] at hs
      cases hr : look σ.R id with
      | none => simp [hr] at h
      | some q =>
        rw [hr] at h
        obtain ⟨rfl, rfl, rfl, hk, hn, hf⟩ := h
        obtain ⟨c, t', hh, hn', hc⟩ := row_cell hB hr
        have hT := hE.ty t _ e2
        have hl := run_load_arr (P := E.P) hT (w := w) (b := β id) (o := 0) (f := f) (fun j hj => by rw [Nat.zero_add, hc j (by omega), hk, hf j hj])
        refine ⟨.agg (cells k n f), ?_, rfl, rfl⟩
        simp only [resRun, hs, asAddr, Sem.run_bind, Sem.run_pure, Result.andThen_ok]
        simpa [Instr.loadAt, Instr.sureAddr] using hl
    · exact h.elim

theorem results_run (P : Program) (fn : Func) (tmps : Array Value) (w : World) :
    (∀ r x, fn.results = #[r] → (resRun P tmps r).run P w = .ok x w → (results fn tmps).run P w = .ok x w) ∧
    (∀ r s x y, fn.results = #[r, s] → (resRun P tmps r).run P w = .ok x w → (resRun P tmps s).run P w = .ok y w → (results fn tmps).run P w = .ok (.tuple #[x, y]) w) := by
  have e : results fn tmps = (do let vs ← fn.results.mapM (resRun P tmps); pure (if h : vs.size = 1 then vs[0] else .tuple vs)) := by
    unfold results
    congr 1
  constructor
  · intro r x hr h
    rw [e, hr]
    simp [h]
  · intro r s x y hr h1 h2
    rw [e, hr]
    simp [h1, h2]

def params : Nat → List AV → List (Nat × AV)
  | _, [] => []
  | i, a :: as => (i, a) :: params (i + 1) as

theorem lk_params : ∀ (as : List AV) (i s : Nat), lk (params i as) s = if s < i then .und else as.getD (s - i) .und
  | [], i, s => by simp [params, lk]
  | a :: as, i, s => by
    simp only [params, lk, lk_params as (i + 1) s]
    by_cases e : i = s
    · subst e; simp
    · rw [if_neg e]
      by_cases h : s < i
      · rw [if_pos (by omega), if_pos h]
      · rw [if_neg (by omega), if_neg h, show s - i = (s - (i + 1)) + 1 from by omega]; simp

theorem dens_get {w : World} {O : Nat → Prop} : ∀ {as : List AV} {vs : List Value}, Dens w O as vs → as.length = vs.length ∧ ∀ i, i < as.length → den w (fun _ => 0) O (as.getD i .und) (vs.getD i undef)
  | [], [], _ => ⟨rfl, fun i hi => by simp at hi⟩
  | a :: as, v :: vs, h => by
    obtain ⟨h1, h2⟩ := h
    obtain ⟨k1, k2⟩ := dens_get h2
    refine ⟨by simp [k1], fun i hi => ?_⟩
    cases i with
    | zero => simpa using h1
    | succ i => simpa using k2 i (by simpa using hi)
  | [], _ :: _, h => h.elim
  | _ :: _, [], h => h.elim

/-- A FUNCTION's BODY DOES WHAT IT IS SAID TO DO. -/
theorem contract_of {E : Env} {g : FuncId} {fn : Func} {c : Code} {s : List AV → SOut} (hE : E.Good) (hf : E.P.funcs[g]? = some fn) (hb : fn.body = some c) (hn : (fn.name == "runtime.NumGoroutine") = false)
    {sz : Nat} (hsz : fn.ntmps = sz) {rs : List ResultVar} (hrs : fn.results.toList = rs)
    (h : ∀ as, (s as).pre → as.length ≤ sz ∧ Tri E sz c (endQ E rs (s as).v) ⟨params 0 as, []⟩) : Contract E.P g s := by
  intro as vs w O hO hpure hd hp
  obtain ⟨hlen, htri⟩ := h as hp
  obtain ⟨dl, dg⟩ := dens_get hd
  unfold Calls'
  have hcf : (callFunc g vs.toArray).run E.P w = .ok (.enter g vs.toArray) w := by
    have h1 : fn.name ≠ "runtime.NumGoroutine" := by simpa using hn
    have h2 : fn.body.isNone = false := by rw [hb]; rfl
    simp [callFunc, hf, h1, hb]
  rw [hcf]
  refine ⟨rfl, ?_⟩
  refine calls_of_wp hf hb ?_
  have hC : (Ctx.mk w O sz hO).sz = sz := rfl
  have hlk : ∀ i, lk (params 0 as) i = as.getD i .und := fun i => by rw [lk_params]; simp
  refine Code.wp_mono ?_ (htri ⟨w, O, sz, hO⟩ rfl _ w ⟨fun _ => 0, ?_⟩)
  · rintro e a' w' ⟨σ, hr, hq⟩
    have fin : resOk E rs σ (s as).v → a'.defers = [] ∧ ∃ x, (results fn a'.tmps).run E.P w' = .ok x w' ∧ (den w' (fun _ => 0) O (s as).v x ∧ (s as).v.pureA = true ∧ Below w.heap.size w w') := by
      intro hres
      have hbel : Below w.heap.size w w' ∧ a'.defers = [] := by obtain ⟨β, hB⟩ := hr; exact ⟨hB.below, hB.defers⟩
      refine ⟨hbel.2, ?_⟩
      unfold resOk at hres
      split at hres
      · rename_i r
        obtain ⟨x, hx, hdx, hpx⟩ := res1_sound hE.ok hr r _ hres
        exact ⟨x, (results_run E.P fn a'.tmps w').1 r x (by apply Array.ext'; simpa using hrs) hx, hdx, hpx, hbel.1⟩
      · rename_i r q
        split at hres
        · rename_i x y hv
          obtain ⟨vx, hx, hdx, hpx⟩ := res1_sound hE.ok hr r x hres.1
          obtain ⟨vy, hy, hdy, hpy⟩ := res1_sound hE.ok hr q y hres.2
          refine ⟨.tuple #[vx, vy], (results_run E.P fn a'.tmps w').2 r q vx vy (by apply Array.ext'; simpa using hrs) hx hy, ?_, ?_, hbel.1⟩
          · rw [hv]; exact ⟨vx, vy, rfl, hdx, hdy⟩
          · rw [hv]; simp [AV.pureA, hpx, hpy]
        · exact hres.elim
      · exact hres.elim
    cases e with
    | normal => exact fin hq
    | ret => exact fin hq
    | exit id => exact hq.elim
    | goto l => exact hq.elim
    | panic ch => exact hq.elim
    | outgrown => exact hq.elim
  · have hsize : (vs.toArray ++ Array.replicate (fn.ntmps - vs.toArray.size) undef).size = sz := by simp; omega
    refine ⟨fun i => ?_, fun id r hr => by simp [look] at hr, fun id hi => by simp [look] at hi, fun i j hi => by simp [look] at hi, fun i id hi => ?_, Below.refl _ _, hsize, rfl⟩
    · simp only [hlk]
      by_cases hi : i < as.length
      · have := dg i hi
        have hv : (vs.toArray ++ Array.replicate (fn.ntmps - vs.toArray.size) undef).getD i undef = vs.getD i undef := by
          simp only [Array.getD_eq_getD_getElem?]
          rw [Array.getElem?_append_left (by simp; omega)]
          simp
        rw [hv]
        have hpi : (as.getD i .und).pureA = true := by
          rw [List.all_eq_true] at hpure
          rw [List.getD_eq_getElem?_getD, List.getElem?_eq_getElem hi]
          exact hpure _ (List.getElem_mem hi)
        exact den_pure (fun b hb k => hb (k.elim id fun ⟨i, hi, _⟩ => absurd rfl hi)) _ hpi _ _ _ this
      · rw [List.getD_eq_getElem?_getD, List.getElem?_eq_none (by omega)]; trivial
    · simp only [hlk] at hi
      by_cases hil : i < as.length
      · have hpi : (as.getD i .und).pureA = true := by
          rw [List.all_eq_true] at hpure
          rw [List.getD_eq_getElem?_getD, List.getElem?_eq_getElem hil]
          exact hpure _ (List.getElem_mem hil)
        rw [pure_refs _ hpi] at hi; cases hi
      · rw [List.getD_eq_getElem?_getD, List.getElem?_eq_none (by omega)] at hi; simp [AV.refs] at hi

abbrev Fs := List (FuncId × (List AV → SOut))

def FsOk (P : Program) : Fs → Prop
  | [] => True
  | (g, s) :: r => Contract P g s ∧ FsOk P r

theorem FsOk.get {P : Program} : ∀ {l : Fs}, FsOk P l → ∀ g s, look l g = some s → Contract P g s
  | [], _, _, _, h => by simp [look] at h
  | (t', y') :: r, hl, t, y, h => by
    simp only [look] at h
    by_cases e : t' = t
    · subst e; rw [if_pos rfl] at h; injection h with h; subst h; exact hl.1
    · rw [if_neg e] at h; exact hl.2.get t y h

theorem good_of {P : Program} {ty : List (TypeId × Ty)} {fs : Fs} (h1 : ∀ t y, look ty t = some y → TyOk P t y) (h2 : FsOk P fs) (h3 : P.follows .mixedOrders = true) : (Env.mk P ty fs).Good :=
  ⟨⟨h1, h2.get⟩, h3⟩

theorem Tri.mono {E : Env} {sz : Nat} {c : Code} {Q Q' : Exit → St → Prop} {σ : St} (h : Tri E sz c Q σ) (hq : ∀ e σ, Q e σ → Q' e σ) : Tri E sz c Q' σ := fun C hC a w hr =>
  Code.wp_mono (fun e a w ⟨σ, hr, hQ⟩ => ⟨σ, hr, hq e σ hQ⟩) (h C hC a w hr)

/-- The form in which a function is proved. -/
theorem fun_of {P : Program} {ty : List (TypeId × Ty)} {fs : Fs} (h1 : ∀ t y, look ty t = some y → TyOk P t y) (h2 : FsOk P fs) (h3 : P.follows .mixedOrders = true)
    {g : FuncId} {fn : Func} {c : Code} {s : List AV → SOut} (hf : P.funcs[g]? = some fn) (hb : fn.body = some c) (hn : (fn.name == "runtime.NumGoroutine") = false)
    {sz : Nat} (hsz : fn.ntmps = sz) {rs : List ResultVar} (hrs : fn.results = rs.toArray)
    (hh : ∀ E : Env, E.Good → E.ty = ty → E.fs = fs → ∀ xs, (s xs).pre → xs.length ≤ sz ∧ ∀ Q : Exit → St → Prop, (∀ σ, resOk E rs σ (s xs).v → Q .ret σ) → Tri E sz c Q ⟨params 0 xs, []⟩) : Contract P g s := by
  refine contract_of (E := Env.mk P ty fs) (rs := rs) (good_of h1 h2 h3) hf hb hn hsz (by rw [hrs]) fun xs hp => ?_
  obtain ⟨hl, h⟩ := hh (Env.mk P ty fs) (good_of h1 h2 h3) rfl rfl xs hp
  exact ⟨hl, h _ fun σ hr => hr⟩

end Go.Proofs.YtijoifajbmhgdaaGreat.Sym
