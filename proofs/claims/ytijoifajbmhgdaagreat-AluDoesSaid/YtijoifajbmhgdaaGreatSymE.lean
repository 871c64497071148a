/- Every operation that writes no row: one theorem. -/
import Derived.Test.YtijoifajbmhgdaaGreatSymD
namespace Go.Proofs.YtijoifajbmhgdaaGreat.Sym
open Go Go.RowKit
set_option linter.unusedSimpArgs false
set_option linter.unusedVariables false

def updO (R : Nat → Option Row) (d : Nat) : Option Row → Nat → Option Row
  | none => R
  | some r => updF R d (some r)

section
variable {E : Env} {C : Ctx} {F : Nat → AV} {R : Nat → Option Row} {β : Nat → Nat} {a : Act} {w w' : World} {o : Oper} {d : Nat} {K : Act → World → Prop} {Q : Exit → Act → World → Prop}

theorem load_sound (hE : E.Ok) (hB : RepB C F R β a w) (hd : o.dst = some d) (hlt : d < C.sz) (t : TypeId) (x : Operand) (ho : o.op = .load t x)
    (hp : (hdLoad (look E.ty t) (evA F x) R).pre) (hK : ∀ a' w', Rep C (updF F d (hdLoad (look E.ty t) (evA F x) R).v) R a' w' → K a' w') : o.wp E.P a w K Q := by
  have hx := evA_den hB x
  have ex : (execOp a.eval o).run E.P w = ((Instr.loadAt t (a.eval x)).run E.P w).andThen fun v w' => .ok (.value v) w' := by
    unfold execOp; simp only [ho]; simp
  unfold hdLoad at hp hK
  split at hp
  · rename_i id i k hv hty
    simp only [hv, hty] at hK
    cases hr : R id with
    | none => simp [hr, HOut.fail] at hp
    | some r =>
      simp only [hr] at hp hK
      obtain ⟨c, t', hh, hn, hc⟩ := row_cell hB hr
      rw [hv] at hx
      simp only [den] at hx
      refine fin_put hB hd hlt hK (x := .int r.k (r.f i)) ?_ rfl (fun id hi => by simp [AV.refs] at hi)
      rw [ex, hx, run_load_one (hE.ty t _ hty).1 (hc i hp.2)]
      rfl
  · rename_i id i k n e hv hty
    simp only [hv, hty] at hK
    cases hr : R id with
    | none => simp [hr, HOut.fail] at hp
    | some r =>
      simp only [hr] at hp hK
      obtain ⟨c, t', hh, hn, hc⟩ := row_cell hB hr
      rw [hv] at hx
      simp only [den] at hx
      obtain ⟨hk, hle⟩ := hp
      refine fin_put hB hd hlt hK (x := .agg (cells r.k n (shF r.f i))) ?_ rfl (fun id hi => by simp [AV.refs] at hi)
      rw [ex, hx, run_load_arr (k := r.k) (hk ▸ hE.ty t _ hty) (f := shF r.f i) (fun j hj => hc (i + j) (by omega))]
      rfl
  · rename_i k z k' hv hty
    simp only [hv, hty] at hK
    rw [hv] at hx
    obtain ⟨b, o', hxv, _, hc⟩ := hx
    refine fin_put hB hd hlt hK (x := .int k z) ?_ rfl (fun id hi => by simp [HOut.ok, AV.refs] at hi)
    rw [ex, hxv, run_load_one (hE.ty t _ hty).1 hc]
    rfl
  · rename_i k n f k' m e hv hty
    simp only [hv, hty] at hp hK
    rw [hv] at hx
    obtain ⟨b, o', hxv, _, hc⟩ := hx
    obtain ⟨hk, hle⟩ := hp
    subst hk
    refine fin_put hB hd hlt hK (x := .agg (cells k m f)) ?_ rfl (fun id hi => by simp [AV.refs] at hi)
    rw [ex, hxv, run_load_arr (hE.ty t _ hty) (f := f) (fun j hj => hc j (by omega))]
    rfl
  · exact hp.elim

theorem bin_sound (hE : E.Ok) (hB : RepB C F R β a w) (hd : o.dst = some d) (hlt : d < C.sz) (op : BinOp) (t yt : TypeId) (x y : Operand) (ho : o.op = .binOp op t x y yt)
    (hp : (hdBin op (look E.ty t) (evA F x) (evA F y)).pre) (hK : ∀ a' w', Rep C (updF F d (hdBin op (look E.ty t) (evA F x) (evA F y)).v) R a' w' → K a' w') : o.wp E.P a w K Q := by
  have hx := evA_den hB x
  have hy := evA_den hB y
  have ex : (execOp a.eval o).run E.P w = (((do eqGuard op t x y (a.eval x) (a.eval y); binOp op t (a.eval x) (a.eval y)) : Sem Value).run E.P w).andThen fun v w' => .ok (.value v) w' := by
    unfold execOp; simp only [ho, Sem.run_bind]; generalize (eqGuard op t x y (a.eval x) (a.eval y)).run E.P w = r; cases r <;> rfl
  unfold hdBin at hp hK
  split at hp
  · rename_i k u k' v hvx hvy
    simp only [hvx, hvy] at hK
    rw [hvx] at hx; rw [hvy] at hy
    simp only [den] at hx hy
    obtain ⟨r, hr, hrd⟩ := run_int_bin (P := E.P) op t k k' u v w hp
    refine fin_put hB hd hlt hK (x := r) ?_ (hrd _ _) (fun id hi => ?_)
    · rw [ex, hx, hy]
      simp only [Sem.run_bind, guard_int, Result.andThen_ok, hr]
    · cases op <;> simp [intBin, HOut.fail, AV.refs] at hi
  · rename_i u v hvx hvy
    simp only [hvx, hvy] at hK
    rw [hvx] at hx; rw [hvy] at hy
    simp only [den] at hx hy
    split at hp
    · rename_i hty
      simp only [hty] at hK
      refine fin_put hB hd hlt hK (x := .bool (u == v)) ?_ rfl (fun id hi => by simp [HOut.ok, AV.refs] at hi)
      rw [ex, hx, hy]
      have hb := run_equal_bool w t u v (hE.ty t _ hty)
      simp [guard_bool, binOp, hb]
    · rename_i hty
      simp only [hty] at hK
      refine fin_put hB hd hlt hK (x := .bool (!(u == v))) ?_ rfl (fun id hi => by simp [HOut.ok, AV.refs] at hi)
      rw [ex, hx, hy]
      have hb := run_equal_bool w t u v (hE.ty t _ hty)
      simp [guard_bool, binOp, hb]
    · exact hp.elim
  · rename_i k n f k' n' g hvx hvy
    simp only [hvx, hvy] at hK
    rw [hvx] at hx; rw [hvy] at hy
    simp only [den] at hx hy
    split at hp
    · rename_i k'' m e hty
      simp only [hty] at hK
      obtain ⟨rfl, rfl, rfl, rfl⟩ := hp
      have hT := hE.ty t _ hty
      refine fin_put hB hd hlt hK (x := .bool (eqA _ f g)) ?_ rfl (fun id hi => by simp [AV.refs] at hi)
      rw [ex, hx, hy]
      simp only [Sem.run_bind, guard_agg _ _ _ _ _ _ hT.2.2.2.2, Result.andThen_ok, run_eql_struct, run_eq_arr hT]
    · rename_i k'' m e hty
      simp only [hty] at hK
      obtain ⟨rfl, rfl, rfl, rfl⟩ := hp
      have hT := hE.ty t _ hty
      refine fin_put hB hd hlt hK (x := .bool (!(eqA _ f g))) ?_ rfl (fun id hi => by simp [AV.refs] at hi)
      rw [ex, hx, hy]
      simp only [Sem.run_bind, guard_agg _ _ _ _ _ _ hT.2.2.2.2, Result.andThen_ok, run_neq_struct, run_eq_arr hT]
    · exact hp.elim
  · rename_i g hvx hvy
    simp only [hvx, hvy] at hK
    rw [hvx] at hx; rw [hvy] at hy
    simp only [den] at hx hy
    have fnT : ∀ hty : look E.ty t = some .func, (Op.equal t (.func (.func g) #[] #[]) .nilFunc).run E.P w = .ok false w := fun hty => by
      have hT := hE.ty t _ hty
      simp only [TyOk] at hT
      split at hT
      · rename_i hu; unfold Op.equal Op.maxDepth Op.equalIn; simp only [Sem.run_bind, run_und hu, Result.andThen_ok]; rfl
      · cases hT
    split at hp
    · rename_i hty
      simp only [hty] at hK
      refine fin_put hB hd hlt hK (x := .bool false) ?_ rfl (fun id hi => by simp [HOut.ok, AV.refs] at hi)
      rw [ex, hx, hy]
      simp [guard_fn, binOp, fnT hty]
    · rename_i hty
      simp only [hty] at hK
      refine fin_put hB hd hlt hK (x := .bool true) ?_ rfl (fun id hi => by simp [HOut.ok, AV.refs] at hi)
      rw [ex, hx, hy]
      simp [guard_fn, binOp, fnT hty]
    · exact hp.elim
  · rename_i hvx hvy
    simp only [hvx, hvy] at hK
    rw [hvx] at hx; rw [hvy] at hy
    simp only [den] at hx hy
    have fnT : ∀ hty : look E.ty t = some .func, (Op.equal t .nilFunc .nilFunc).run E.P w = .ok true w := fun hty => by
      have hT := hE.ty t _ hty
      simp only [TyOk] at hT
      split at hT
      · rename_i hu; unfold Op.equal Op.maxDepth Op.equalIn; simp only [Sem.run_bind, run_und hu, Result.andThen_ok]; rfl
      · cases hT
    split at hp
    · rename_i hty
      simp only [hty] at hK
      refine fin_put hB hd hlt hK (x := .bool true) ?_ rfl (fun id hi => by simp [HOut.ok, AV.refs] at hi)
      rw [ex, hx, hy]
      simp [guard_nil, binOp, fnT hty]
    · rename_i hty
      simp only [hty] at hK
      refine fin_put hB hd hlt hK (x := .bool false) ?_ rfl (fun id hi => by simp [HOut.ok, AV.refs] at hi)
      rw [ex, hx, hy]
      simp [guard_nil, binOp, fnT hty]
    · exact hp.elim
  · exact hp.elim

theorem un_sound (hB : RepB C F R β a w) (hd : o.dst = some d) (hlt : d < C.sz) (op : UnOp) (t : TypeId) (x : Operand) (ho : o.op = .unOp op t x)
    (hp : (hdUn op (evA F x)).pre) (hK : ∀ a' w', Rep C (updF F d (hdUn op (evA F x)).v) R a' w' → K a' w') : o.wp E.P a w K Q := by
  have hx := evA_den hB x
  have ex : (execOp a.eval o).run E.P w = ((Op.unary op (a.eval x)).run E.P w).andThen fun v w' => .ok (.value v) w' := by
    unfold execOp; simp only [ho]; simp
  unfold hdUn at hp hK
  split at hp
  · rename_i k u hvx
    simp only [hvx] at hK
    rw [hvx] at hx
    simp only [den] at hx
    refine fin_put hB hd hlt hK (x := .int k (k.wrap (0 - u))) ?_ rfl (fun id hi => by simp [HOut.ok, AV.refs] at hi)
    rw [ex, hx]
    simp [Op.unary, Op.intArith]
  · rename_i k u hvx
    simp only [hvx] at hK
    rw [hvx] at hx
    simp only [den] at hx
    refine fin_put hB hd hlt hK (x := .int k (bitsA .xor k (wholeI k) u)) ?_ rfl (fun id hi => by simp [HOut.ok, AV.refs] at hi)
    rw [ex, hx]
    simp [Op.unary, Op.intBits, bitsA, wholeI]
  · rename_i b hvx
    simp only [hvx] at hK
    rw [hvx] at hx
    simp only [den] at hx
    refine fin_put hB hd hlt hK (x := .bool (!b)) ?_ rfl (fun id hi => by simp [HOut.ok, AV.refs] at hi)
    rw [ex, hx]
    simp [Op.unary]
  · exact hp.elim

theorem conv_sound (hE : E.Ok) (hB : RepB C F R β a w) (hd : o.dst = some d) (hlt : d < C.sz) (s t : TypeId) (x : Operand) (ho : o.op = .convert s t x)
    (hp : (hdConv (look E.ty s) (look E.ty t) (evA F x)).pre) (hK : ∀ a' w', Rep C (updF F d (hdConv (look E.ty s) (look E.ty t) (evA F x)).v) R a' w' → K a' w') : o.wp E.P a w K Q := by
  have hx := evA_den hB x
  have ex : (execOp a.eval o).run E.P w = ((convert s t (a.eval x)).run E.P w).andThen fun v w' => .ok (.value v) w' := by
    unfold execOp; simp only [ho]; simp
  unfold hdConv at hp hK
  split at hp
  · rename_i k0 k k' z hs ht hvx
    simp only [hvx, hs, ht] at hK
    rw [hvx] at hx
    simp only [den] at hx
    refine fin_put hB hd hlt hK (x := .int k (k.wrap z)) ?_ rfl (fun id hi => by simp [HOut.ok, AV.refs] at hi)
    rw [ex, hx]
    simp [convert, run_und (hE.ty s _ hs).1, run_und (hE.ty t _ ht).1, Conv.intToInt]
  · exact hp.elim

theorem idxAddr_sound (hE : E.Ok) (hB : RepB C F R β a w) (hd : o.dst = some d) (hlt : d < C.sz) (t : TypeId) (x y : Operand) (ho : o.op = .indexAddr t x y)
    (hp : (hdIdxAddr (look E.ty t) (evA F x) (evA F y)).pre) (hK : ∀ a' w', Rep C (updF F d (hdIdxAddr (look E.ty t) (evA F x) (evA F y)).v) R a' w' → K a' w') : o.wp E.P a w K Q := by
  have hx := evA_den hB x
  have hy := evA_den hB y
  have hrx := evA_refs hB.closed x
  have ex : (execOp a.eval o).run E.P w = ((Instr.indexAt t (a.eval x) (a.eval y)).run E.P w).andThen fun v w' => .ok (.value v) w' := by
    unfold execOp; simp only [ho]; simp
  unfold hdIdxAddr at hp hK
  split at hp
  · rename_i id i k z k' n e hvx hvy hty
    simp only [hvx, hvy, hty] at hK
    rw [hvx] at hx hrx; rw [hvy] at hy
    simp only [den] at hx hy
    obtain ⟨h1, h2, h3, h4, h5⟩ := hE.ty t _ hty
    refine fin_put hB hd hlt hK (x := .pointer (some ⟨β id, i + z.toNat, none⟩)) ?_ rfl (fun id' hi => hrx id' (by simpa [AV.refs] using hi))
    rw [ex, hx, hy]
    simp [Instr.indexAt, asIntOf, run_und h1, Instr.sureAddr, hp.1, hp.2, run_size h3, add_mid]
  · rename_i id i len k z k' e hvx hvy hty
    simp only [hvx, hvy, hty] at hK
    rw [hvx] at hx hrx; rw [hvy] at hy
    simp only [den] at hx hy
    obtain ⟨cap, c, t', hxv, _⟩ := hx
    obtain ⟨h1, h2, h3, h4⟩ := hE.ty t _ hty
    refine fin_put hB hd hlt hK (x := .pointer (some ⟨β id, i + z.toNat, none⟩)) ?_ rfl (fun id' hi => hrx id' (by simpa [AV.refs] using hi))
    rw [ex, hxv, hy]
    simp [Instr.indexAt, asIntOf, run_und h1, Instr.sureAddr, hp.1, hp.2, run_size (size_of_zs h3), add_mid]
  · rename_i k n f k0 z k' e hvx hvy hty
    simp only [hvx, hvy, hty] at hK
    rw [hvx] at hx; rw [hvy] at hy
    simp only [den] at hx hy
    obtain ⟨p, cap, hxv, _, hc⟩ := hx
    obtain ⟨h1, h2, h3, h4⟩ := hE.ty t _ hty
    obtain ⟨hp1, hp2⟩ := hp
    rcases hc with hc | ⟨b, o', hpv, hno, hc⟩
    · omega
    subst hpv
    refine fin_put hB hd hlt hK (x := .pointer (some ⟨b, o' + z.toNat, none⟩)) ?_ ⟨b, o' + z.toNat, rfl, hno, hc z.toNat (by omega)⟩ (fun id hi => by simp [AV.refs] at hi)
    rw [ex, hxv, hy]
    simp [Instr.indexAt, asIntOf, run_und h1, Instr.sureAddr, hp1, hp2, run_size (size_of_zs h3), add_mid]
  · exact hp.elim

theorem idx_sound (hE : E.Ok) (hB : RepB C F R β a w) (hd : o.dst = some d) (hlt : d < C.sz) (t : TypeId) (x y : Operand) (ho : o.op = .index t x y)
    (hp : (hdIdx (look E.ty t) (evA F x) (evA F y)).pre) (hK : ∀ a' w', Rep C (updF F d (hdIdx (look E.ty t) (evA F x) (evA F y)).v) R a' w' → K a' w') : o.wp E.P a w K Q := by
  have hx := evA_den hB x
  have hy := evA_den hB y
  have ex : (execOp a.eval o).run E.P w = ((Instr.index t (a.eval x) (a.eval y)).run E.P w).andThen fun v w' => .ok (.value v) w' := by
    unfold execOp; simp only [ho]; simp
  unfold hdIdx at hp hK
  split at hp
  · rename_i s k z hvx hvy hty
    simp only [hvx, hvy, hty] at hK
    rw [hvx] at hx; rw [hvy] at hy
    simp only [den] at hx hy
    obtain ⟨hp1, hp2⟩ := hp
    have hz : z.toNat < s.size := by omega
    have hg : s[z.toNat]? = some s[z.toNat] := getElem?_pos s z.toNat hz
    refine fin_put hB hd hlt hK (x := .int .u8 (strAt s z)) ?_ rfl (fun id' hi => by simp [AV.refs] at hi)
    rw [ex, hx, hy]
    have hu : E.P.underlying t = some .string := hE.ty t _ hty
    simp only [Instr.index, asIntOf, Sem.run_bind, Sem.run_pure, Result.andThen_ok, run_und hu, hp1, if_true, hg, strAt]
    rfl
  · rename_i k n f k' z k'' m e hvx hvy hty
    simp only [hvx, hvy, hty] at hK
    rw [hvx] at hx; rw [hvy] at hy
    simp only [den] at hx hy
    obtain ⟨rfl, rfl, hp1, hp2⟩ := hp
    obtain ⟨h1, h2, h3, h4, h5⟩ := hE.ty t _ hty
    have hz : z.toNat < n := by omega
    refine fin_put hB hd hlt hK (x := .int k (f z.toNat)) ?_ rfl (fun id' hi => by simp [AV.refs] at hi)
    rw [ex, hx, hy]
    simp [Instr.index, asIntOf, run_und h1, hp1, hp2, run_size h3, part, run_agg_int h2, cells_get, hz]
  · exact hp.elim

theorem slice_sound (hE : E.Ok) (hB : RepB C F R β a w) (hd : o.dst = some d) (hlt : d < C.sz) (t : TypeId) (x : Operand) (lo hi : Option Operand) (ho : o.op = .slice t x lo hi none)
    (hp : (hdSlice (look E.ty t) (evA F x) (mapA F lo) (mapA F hi) R).pre) (hK : ∀ a' w', Rep C (updF F d (hdSlice (look E.ty t) (evA F x) (mapA F lo) (mapA F hi) R).v) R a' w' → K a' w') : o.wp E.P a w K Q := by
  have hx := evA_den hB x
  have hrx := evA_refs hB.closed x
  have ex : (execOp a.eval o).run E.P w = ((Instr.sliceAt t (a.eval x) (lo.map a.eval) (hi.map a.eval) none).run E.P w).andThen fun v w' => .ok (.value v) w' := by
    unfold execOp; simp only [ho]; simp
  unfold hdSlice at hp hK
  split at hp
  · rename_i id i k n e hvx hty
    simp only [hvx, hty] at hK
    rw [hvx] at hx hrx
    simp only [den] at hx
    cases hr : R id with
    | none => simp [hr, HOut.fail] at hp
    | some r =>
      simp only [hr] at hp hK
      obtain ⟨hl, hh, h1, h2, rfl, hn⟩ := hp
      obtain ⟨T1, T2, T3, T4, T5⟩ := hE.ty t _ hty
      obtain ⟨c, t', hheap, hcn, hc⟩ := hB.row id r hr
      have hb := run_bounds hB lo hi false n n hl hh h1 h2 E.P
      revert hb
      generalize hL : (bnd (mapA F lo) 0).2 = L at *
      generalize hH : (bnd (mapA F hi) n).2 = H at *
      intro hb
      refine fin_put hB hd hlt hK (x := .slice (some ⟨β id, if n = L then 0 else L, none⟩) (H - L) (n - L)) ?_ ⟨n - L, c, t', rfl, by omega, hheap, by split <;> omega⟩ (fun id' hi => hrx id' (by simpa [AV.refs] using hi))
      rw [ex, hx]
      simp only [Instr.sliceAt, run_und T1, Sem.run_bind, Result.andThen_ok, Instr.sureAddr, Sem.run_pure, hb, run_size T3]
      by_cases hnl : n = L
      · simp [hnl]
      · simp [hnl, add_mid]
  · rename_i k n f k' m e hvx hty
    simp only [hvx, hty] at hK
    rw [hvx] at hx
    simp only [den] at hx
    obtain ⟨b, o', hxv, hno, hc⟩ := hx
    obtain ⟨hl, hh, h1, h2, rfl⟩ := hp
    obtain ⟨T1, T2, T3, T4, T5⟩ := hE.ty t _ hty
    have hb := run_bounds hB lo hi false n n hl hh h1 h2 E.P
    revert hb
    generalize hL : (bnd (mapA F lo) 0).2 = L at *
    generalize hH : (bnd (mapA F hi) n).2 = H at *
    intro hb
    have hrun : (execOp a.eval o).run E.P w = .ok (.value (.slice (some (if n = L then ⟨b, o', none⟩ else (⟨b, o', none⟩ : Addr).add (L * 1))) (H - L) (n - L))) w := by
      rw [ex, hxv]
      simp only [Instr.sliceAt, run_und T1, Sem.run_bind, Result.andThen_ok, Instr.sureAddr, Sem.run_pure, hb, run_size T3]
    refine fin_put hB hd hlt hK hrun ⟨_, n - L, rfl, by omega, ?_⟩ (fun id hi => by simp [AV.refs] at hi)
    by_cases h0 : H - L = 0
    · exact .inl h0
    · refine .inr ⟨b, o' + L, ?_, hno.resolve_left (by omega), fun j hj => ?_⟩
      · rw [if_neg (by omega)]; simp [add_mid]
      · rw [Nat.add_assoc]; exact hc (L + j) (by omega)
  · rename_i k n f k' e hvx hty
    simp only [hvx, hty] at hK
    rw [hvx] at hx
    simp only [den] at hx
    obtain ⟨p, cap, hxv, hle, hc⟩ := hx
    obtain ⟨hl, hh, h1, h2⟩ := hp
    obtain ⟨T1, T2, T3, T4⟩ := hE.ty t _ hty
    have hb := run_bounds hB lo hi true n cap hl hh h1 (by omega) E.P
    revert hb
    generalize hL : (bnd (mapA F lo) 0).2 = L at *
    generalize hH : (bnd (mapA F hi) n).2 = H at *
    intro hb
    have hrun : (execOp a.eval o).run E.P w = .ok (.value (.slice (if cap = L then p else p.map (·.add (L * 1))) (H - L) (cap - L))) w := by
      rw [ex, hxv]
      simp only [Instr.sliceAt, run_und T1, Sem.run_bind, Result.andThen_ok, Instr.slice, Sem.run_pure, hb, run_size (size_of_zs T3)]
    refine fin_put hB hd hlt hK hrun ⟨_, cap - L, rfl, by omega, ?_⟩ (fun id hi => by simp [AV.refs] at hi)
    by_cases h0 : H - L = 0
    · exact .inl h0
    · rcases hc with hc | ⟨b, o', hpv, hno, hc⟩
      · omega
      · refine .inr ⟨b, o' + L, ?_, hno, fun j hj => ?_⟩
        · rw [if_neg (by omega), hpv]; simp [add_mid]
        · rw [Nat.add_assoc]; exact hc (L + j) (by omega)
  · exact hp.elim

theorem callB_sound (hE : E.Ok) (hB : RepB C F R β a w) (b : Builtin) (args : Array Operand) (ats : Array TypeId) (ty : TypeId) (pos : String) (after : Array Edge) (gd : Option (Nat × Bool)) (hlt : d < C.sz)
    (hp : (hdCall E ⟨.builtin b, args, ats⟩ F).pre) (hK : ∀ a' w', Rep C (updF F d (hdCall E ⟨.builtin b, args, ats⟩ F).v) R a' w' → K a' w') :
    (Oper.mk (some d) (.call ⟨.builtin b, args, ats⟩) ty pos after gd).wp E.P a w K Q := by
  obtain ⟨ats⟩ := ats
  obtain ⟨args⟩ := args
  unfold hdCall at hp hK
  simp only at hp hK
  split at hp
  · rename_i x t hxs
    obtain ⟨X, rfl⟩ : ∃ X, args = [X] := by
      match args, hxs with
      | [X], _ => exact ⟨X, rfl⟩
    simp only [argsA, List.map_cons, List.map_nil, List.cons.injEq, and_true] at hxs
    subst hxs
    simp only [argsA, List.map_cons, List.map_nil] at hK
    have hx := evA_den hB X
    unfold hdLen at hp hK
    split at hp
    · rename_i k n f k' e hvx hty
      simp only [hvx, hty] at hK
      rw [hvx] at hx
      obtain ⟨p, cap, hxv, _⟩ := hx
      refine fin_put hB rfl hlt hK (x := .int .i64 n) ?_ rfl (fun id hi => by simp [HOut.ok, AV.refs] at hi)
      simp [execOp, resolve, invoke, builtin, Builtin.len_, hxv, run_und (hE.ty t _ hty).1, goInt]
    · rename_i id off n k' e hvx hty
      simp only [hvx, hty] at hK
      rw [hvx] at hx
      obtain ⟨cap, c, t', hxv, _⟩ := hx
      refine fin_put hB rfl hlt hK (x := .int .i64 n) ?_ rfl (fun id hi => by simp [HOut.ok, AV.refs] at hi)
      simp [execOp, resolve, invoke, builtin, Builtin.len_, hxv, run_und (hE.ty t _ hty).1, goInt]
    · rename_i k0 n0 f k' n e hvx hty
      simp only [hvx, hty] at hK
      refine fin_put hB rfl hlt hK (x := .int .i64 n) ?_ rfl (fun id hi => by simp [HOut.ok, AV.refs] at hi)
      simp [execOp, resolve, invoke, builtin, Builtin.len_, run_und (hE.ty t _ hty).1, goInt]
    · exact hp.elim
  · rename_i x y hxs
    obtain ⟨X, Y, rfl⟩ : ∃ X Y, args = [X, Y] := by
      match args, hxs with
      | [X, Y], _ => exact ⟨X, Y, rfl⟩
    simp only [argsA, List.map_cons, List.map_nil, List.cons.injEq, and_true] at hxs
    obtain ⟨rfl, rfl⟩ := hxs
    simp only [argsA, List.map_cons, List.map_nil] at hK
    have hx := evA_den hB X
    have hy := evA_den hB Y
    unfold hdMin at hp hK
    split at hp
    · rename_i k u k' v hvx hvy
      simp only [hvx, hvy] at hK
      rw [hvx] at hx; rw [hvy] at hy
      simp only [den] at hx hy
      refine fin_put hB rfl hlt (v := .int k (min u v)) (by simpa using hK) (x := .int k (min u v)) ?_ rfl (fun id hi => by simp [AV.refs] at hi)
      simp [execOp, resolve, invoke, builtin, Builtin.min_, Builtin.min2, hx, hy]
      omega
    · exact hp.elim
  · rename_i x y hxs
    obtain ⟨X, Y, rfl⟩ : ∃ X Y, args = [X, Y] := by
      match args, hxs with
      | [X, Y], _ => exact ⟨X, Y, rfl⟩
    simp only [argsA, List.map_cons, List.map_nil, List.cons.injEq, and_true] at hxs
    obtain ⟨rfl, rfl⟩ := hxs
    simp only [argsA, List.map_cons, List.map_nil] at hK
    have hx := evA_den hB X
    have hy := evA_den hB Y
    unfold hdMin at hp hK
    split at hp
    · rename_i k u k' v hvx hvy
      simp only [hvx, hvy] at hK
      rw [hvx] at hx; rw [hvy] at hy
      simp only [den] at hx hy
      refine fin_put hB rfl hlt (v := .int k (max u v)) (by simpa using hK) (x := .int k (max u v)) ?_ rfl (fun id hi => by simp [AV.refs] at hi)
      simp [execOp, resolve, invoke, builtin, Builtin.max_, Builtin.max2, hx, hy]
      omega
    · exact hp.elim
  · exact hp.elim

theorem hd_sound (hE : E.Ok) (hr : Rep C F R a w) (hd' : o.dst = some d) (hlt : d < C.sz) (hp : (hd E o.op d F R).pre) (hf : (hd E o.op d F R).row = none ∨ R d = none)
    (hK : ∀ a' w', Rep C (updF F d (hd E o.op d F R).v) (updO R d (hd E o.op d F R).row) a' w' → K a' w') : o.wp E.P a w K Q := by
  obtain ⟨β, hB⟩ := hr
  obtain ⟨dst, op, ty, pos, after, gd⟩ := o
  simp only at hd'
  subst hd'
  have dx := evA_den hB
  have rx := fun x => evA_refs hB.closed x
  cases op <;> simp only [Sym.hd] at hp hf hK <;> try exact hp.elim
  case move x =>
    exact fin_put hB rfl hlt hK (x := a.eval x) rfl (dx x) (rx x)
  case assign x =>
    exact fin_put hB rfl hlt hK (x := a.eval x) rfl (dx x) (rx x)
  case pick c p q =>
    have hc := dx c
    split at hp
    · rename_i t hcv
      rw [hcv] at hc hK
      simp only [den] at hc
      simp only [HOut.ok, updO, pickA_eq] at hK
      refine fin_put hB rfl hlt hK (x := if t = true then a.eval p else a.eval q) ?_ ?_ ?_
      · simp [execOp, hc, asBool]
      · cases t
        · exact dx q
        · exact dx p
      · cases t
        · exact rx q
        · exact rx p
    · exact hp.elim
  case alloc t =>
    split at hp
    · rename_i k n e hty
      simp only [hty] at hf hK
      have hT := hE.ty t _ hty
      refine fin_new hB rfl hlt (by simpa using hf) (x := .pointer (some ⟨w.heap.size, 0, none⟩)) (v := .elt d 0) (c := cells k n fun _ => 0) (t := t) (r := ⟨k, n, fun _ => 0⟩) ?_ (by simp [cells_size]) (fun j hj => ?_) (fun O => ?_) (fun i hi => ?_) hK
      · simp [execOp, run_alloc_arr hT]
      · rw [cells_get]; rw [if_pos hj]
      · simp [den, updF]
      · simp only [AV.refs, beq_iff_eq] at hi; exact hi.symm
    · exact hp.elim
  case box t x =>
    have hx := dx x
    split at hp
    · rename_i k0 n0 e k n f hty hvx
      simp only [hty, hvx] at hf hK
      rw [hvx] at hx
      simp only [den] at hx
      refine fin_new hB rfl hlt (by simpa using hf) (x := .pointer (some ⟨w.heap.size, 0, none⟩)) (v := .elt d 0) (c := cells k n f) (t := t) (r := ⟨k, n, f⟩) ?_ (by simp [cells_size]) (fun j hj => ?_) (fun O => ?_) (fun i hi => ?_) hK
      · simp [execOp, hx, run_box_arr]
      · rw [cells_get]; rw [if_pos hj]
      · simp [den, updF]
      · simp only [AV.refs, beq_iff_eq] at hi; exact hi.symm
    · exact hp.elim
  case build t ps =>
    split at hp
    · rename_i k n e hty
      simp only [hty] at hf hK
      refine fin_put hB rfl hlt hK (x := .agg (cells k n (partsF F ps.toList fun _ => 0))) ?_ rfl (fun id hi => by simp [AV.refs] at hi)
      have hb := run_build_arr (P := E.P) (w := w) (hE.ty t _ hty) dx ps hp
      simp only [execOp, Sem.run_bind, hb]
      rfl
    · exact hp.elim
  case buildSlice t len ps =>
    split at hp
    · rename_i k e hty
      simp only [hty] at hf hK
      have hb := run_buildSlice (P := E.P) (w := w) (hE.ty t _ hty) dx len hp.2 ps hp.1
      refine fin_new hB rfl hlt (by simpa using hf) (x := .slice (some ⟨w.heap.size, 0, none⟩) len len) (v := .sl d 0 len) (c := cells k len (partsF F ps.toList fun _ => 0)) (t := e) (r := ⟨k, len, partsF F ps.toList fun _ => 0⟩) ?_ (by simp [cells_size]) (fun j hj => ?_) (fun O => ?_) (fun i hi => ?_) hK
      · simp only [execOp, Sem.run_bind, hb]
        rfl
      · rw [cells_get]; rw [if_pos hj]
      · exact ⟨len, cells k len (partsF F ps.toList fun _ => 0), e, by simp [updF], Nat.le_refl _, by simp only [updF, if_true]; exact heap_alloc_new w _, by simp [cells_size]⟩
      · simp only [AV.refs, beq_iff_eq] at hi; exact hi.symm
    · exact hp.elim
  case makeSlice t l c =>
    have hl := dx l
    have hc := dx c
    split at hp
    · rename_i k e z z' hty hvl hvc
      simp only [hty, hvl, hvc] at hf hK
      rw [hvl] at hl; rw [hvc] at hc
      simp only [den] at hl hc
      obtain ⟨rfl, h0, h1⟩ := hp
      have hb := run_makeSlice' (P := E.P) (hE.ty t _ hty) w z h0 h1
      refine fin_new hB rfl hlt (by simpa using hf) (x := .slice (some ⟨w.heap.size, 0, none⟩) z.toNat z.toNat) (v := .sl d 0 z.toNat) (c := cells k z.toNat fun _ => 0) (t := e) (r := ⟨k, z.toNat, fun _ => 0⟩) ?_ (by simp [cells_size]) (fun j hj => ?_) (fun O => ?_) (fun i hi => ?_) hK
      · simp only [execOp, Sem.run_bind, hl, hc, hb]
        rfl
      · rw [cells_get]; rw [if_pos hj]
      · exact ⟨z.toNat, cells k z.toNat fun _ => 0, e, by simp [updF], Nat.le_refl _, by simp only [updF, if_true]; exact heap_alloc_new w _, by simp [cells_size]⟩
      · simp only [AV.refs, beq_iff_eq] at hi; exact hi.symm
    · exact hp.elim
  case load t x => exact load_sound hE hB rfl hlt t x rfl hp (by
    have : (hdLoad (look E.ty t) (evA F x) R).row = none := by
      unfold hdLoad; split <;> (try split) <;> rfl
    rw [this] at hK; exact hK)
  case binOp op t x y yt => exact bin_sound hE hB rfl hlt op t yt x y rfl hp (by
    have : (hdBin op (look E.ty t) (evA F x) (evA F y)).row = none := by
      unfold hdBin; split <;> (try split) <;> (try rfl)
      cases op <;> rfl
    rw [this] at hK; exact hK)
  case unOp op t x => exact un_sound hB rfl hlt op t x rfl hp (by
    have : (hdUn op (evA F x)).row = none := by
      unfold hdUn; split <;> rfl
    rw [this] at hK; exact hK)
  case convert s t x => exact conv_sound hE hB rfl hlt s t x rfl hp (by
    have : (hdConv (look E.ty s) (look E.ty t) (evA F x)).row = none := by
      unfold hdConv; split <;> rfl
    rw [this] at hK; exact hK)
  case indexAddr t x y => exact idxAddr_sound hE hB rfl hlt t x y rfl hp (by
    have : (hdIdxAddr (look E.ty t) (evA F x) (evA F y)).row = none := by
      unfold hdIdxAddr; split <;> rfl
    rw [this] at hK; exact hK)
  case index t x y => exact idx_sound hE hB rfl hlt t x y rfl hp (by
    have : (hdIdx (look E.ty t) (evA F x) (evA F y)).row = none := by
      unfold hdIdx; split <;> rfl
    rw [this] at hK; exact hK)
  case slice t x lo hi mx =>
    cases mx with
    | some _ => exact hp.elim
    | none => exact slice_sound hE hB rfl hlt t x lo hi rfl hp (by
        have : (hdSlice (look E.ty t) (evA F x) (mapA F lo) (mapA F hi) R).row = none := by
          unfold hdSlice; split <;> (try split) <;> rfl
        simp only at hK
        rw [this] at hK; exact hK)
  case sliceToArrayPointer t x =>
    have hx := dx x
    split at hp
    · rename_i k n e id i len hty hvx
      simp only [hty, hvx] at hf hK
      have hrx := rx x
      rw [hvx] at hx hrx
      obtain ⟨cap, c, t', hxv, _⟩ := hx
      have hT := hE.ty t _ hty
      refine fin_put hB rfl hlt hK (x := .pointer (some ⟨β id, i, none⟩)) ?_ rfl (fun id' hi => hrx id' (by simpa [AV.refs] using hi))
      simp [execOp, hxv, Instr.arrayAt, run_und hT.1, show ¬ len < n from Nat.not_lt.2 hp]
    · exact hp.elim
  case extract x i =>
    have hx := dx x
    have hrx := rx x
    split at hp
    · rename_i p q hvx
      simp only [hvx] at hf hK
      rw [hvx] at hx hrx
      obtain ⟨vx, vy, hv, hp1, hq1⟩ := hx
      refine fin_put hB rfl hlt hK (x := vx) ?_ hp1 (fun id hi => hrx id (by simp only [AV.refs, Bool.or_eq_true]; exact .inl hi))
      simp [execOp, hv, Instr.extract]
    · rename_i p q hvx
      simp only [hvx] at hf hK
      rw [hvx] at hx hrx
      obtain ⟨vx, vy, hv, hp1, hq1⟩ := hx
      refine fin_put hB rfl hlt hK (x := vy) ?_ hq1 (fun id hi => hrx id (by simp only [AV.refs, Bool.or_eq_true]; exact .inr hi))
      simp [execOp, hv, Instr.extract]
    · exact hp.elim
  case call c =>
    obtain ⟨callee, args, ats⟩ := c
    cases callee with
    | value f =>
      exact call_sound hE hB f args ats ty pos after gd hlt hp (by
        have : (hdCallF E.fs (evA F f) (argsA F args.toList)).row = none := by
          unfold hdCallF; split <;> (try split) <;> rfl
        simp only [hdCall] at hK
        rw [this] at hK; exact hK)
    | builtin b =>
      exact callB_sound hE hB b args ats ty pos after gd hlt hp (by
        have : (hdCall E ⟨.builtin b, args, ats⟩ F).row = none := by
          unfold hdCall; simp only; split <;> (try rfl) <;> (first | (unfold hdLen; split <;> rfl) | (unfold hdMin; split <;> rfl))
        rw [this] at hK; exact hK)
    | invoke r m => exact hp.elim

end
end Go.Proofs.YtijoifajbmhgdaaGreat.Sym
