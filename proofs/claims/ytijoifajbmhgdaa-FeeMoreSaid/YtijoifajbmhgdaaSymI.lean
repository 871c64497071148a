/- A region in the order of the text where less is said on the way. -/
import Derived.Test.YtijoifajbmhgdaaSymH
namespace Go.Proofs.Ytijoifajbmhgdaa.Sym
open Go Go.RowKit
set_option linter.unusedSimpArgs false
set_option linter.unusedVariables false

def evm (E : Env) (sz : Nat) (all : List Oper) : Nat → St → List Oper → St → (St → Prop) → Prop
  | 0, σm, l, σ, K => Le σ σm ∧ evs E sz all l σm K
  | _ + 1, _, [], _, _ => False
  | n + 1, σm, o :: r, σ, K => (stp E sz all o σ).pre ∧ evm E sz all n σm r (stp E sz all o σ).σ K

theorem evm_sound {E : Env} {C : Ctx} {Q : Exit → Act → World → Prop} {all : List Oper} {ops : Array Oper} (hops : ops = all.toArray) (hE : E.Ok) (hl : ∀ o ∈ all, ∀ d, o.dst = some d → d < C.sz) {Kσ : St → Prop} (hQ : ∀ σ' a' w', Kσ σ' → Rp C σ' a' w' → Q .normal a' w') :
    ∀ (n : Nat) (σm : St) (l : List Oper) (σ : St) (a : Act) (w : World), Rp C σ a w → evm E C.sz all n σm l σ Kσ → wpList E.P ops Q l a w
  | 0, σm, l, σ, a, w, hr, h => evs_sound hops hE hl hQ l σm a w (hr.le h.1.1 h.1.2) h.2
  | _ + 1, _, [], _, _, _, _, h => h.elim
  | n + 1, σm, o :: r, σ, a, w, hr, h => stp_sound hops hE hr hl h.1 fun a' w' hr' => evm_sound hops hE hl hQ n σm r _ a' w' hr' h.2

theorem T_regionM {E : Env} {sz : Nat} {Q : Exit → St → Prop} {σ : St} {id : Nat} {l : List Oper} (n : Nat) (σm : St) (hE : E.Good) (hd : dstsOk sz l = true) (h : ∀ K : St → Prop, (∀ σ', Q .normal σ' → K σ') → evm E sz l n σm l σ K) : Tri E sz (.region id l.toArray false) Q σ := fun C hC a w hr => by
  subst hC
  have h := h (fun σ' => Q .normal σ') fun _ h => h
  exact wp_region_lit (evm_sound rfl hE.ok (dsts_of hd rfl) (Kσ := fun σ' => Q .normal σ') (fun σ' a' w' hq hr' => ⟨σ', hr', hq⟩) n σm l σ a w hr h)

end Go.Proofs.Ytijoifajbmhgdaa.Sym
