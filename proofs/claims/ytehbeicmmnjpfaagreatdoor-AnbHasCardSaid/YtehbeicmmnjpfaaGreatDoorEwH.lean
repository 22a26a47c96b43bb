/- Regions that draw their order, as code. -/
import Derived.Test.YtehbeicmmnjpfaaGreatDoorEwG
set_option linter.unusedSimpArgs false
set_option linter.unusedVariables false
namespace Go.Ev
open Go

section
variable {P : Program} {ops : Array Oper} {l : List DS} {G : Nat → V} {call : FuncId → List V → Objs → Option (V × Objs)} {Q : Exit → Act → World → Prop}
variable {X : Nat → Prop} {ρ : List V} {σ : Objs} {w : World} {M : Mem} {ι : Plc} {κ : Own} {a : Act}

theorem left_le (n : Nat) (listed : Array Bool) : left n listed ≤ n := by
  unfold left
  have := List.countP_le_length (p := fun i => !listed.getD i false) (l := List.range n)
  simpa using this

theorem wp_drw_ev (hm : P.follows .mixedOrders = true) (hS : ∀ f, Sound P G f (call f)) (h : St M ι X κ w a.tmps.toList ρ σ) (hG : GOK G M ι) {id : Nat} (hc : chkDrw P ops l = true) {ρ' : List V} {σ' : Objs}
    (he : evDrw G call [] l ρ σ = some (ρ', σ')) (hQ : ∀ a' w', Got a M ι X w σ ρ' σ' a' w' → Q .normal a' w') : (Code.region id ops true).wp P Q a w := by
  obtain ⟨dp, hk⟩ := chkDrw_ok hc
  obtain ⟨R, S, hR, hS0, hRn, hSn, htr⟩ := trace_of G call l [] ρ σ ρ' σ' he
  have hcn := canon_of hk htr
  have hnone : ∀ p, ¬ isIn l (Array.replicate ops.size false) p := fun p hp => by
    have := hp.2
    simp [Array.getD_eq_getD_getElem?, Array.getElem?_replicate] at this
    split at this <;> simp at this
  have hpend : ∀ p, ¬ pend (isIn l (Array.replicate ops.size false)) 0 p := fun p hp => by have := hp.1; omega
  have hX : ∀ b, XR X (isIn l (Array.replicate ops.size false)) 0 (fun _ => none) b → X b := fun b hb => by
    rcases hb with hb | ⟨p, hp, _⟩
    · exact hb
    · exact absurd hp (hpend p)
  have hinv : Inv G l dp R S X (isIn l (Array.replicate ops.size false)) 0 a.tmps.toList ρ { w with drawn := w.drawn + 1 } M ι κ (fun _ => none) := by
    refine ⟨by omega, ⟨fun p hp => hp.1, fun p hp => absurd hp (hnone p)⟩, fun p hp => absurd hp (hnone p), fun p hp => by omega, ⟨by rw [hR], fun t m hmn h1 h2 => ?_⟩, by rw [hS0]; exact h.drew.lessX hX,
      fun p b hp => absurd hp (hpend p), fun p q b hp => absurd hp (hpend p), fun p hp => absurd hp (hpend p), fun p hp => absurd hp (hpend p), fun p o hp => absurd hp (hpend p), fun p q o hp => absurd hp (hpend p), fun p o off hp => absurd hp (hpend p)⟩
    have key : ∀ m, m ≤ l.length → (∀ q, q < m → t ∉ (dsAt l q).s.wr) → (R m)[t]? = (R 0)[t]? := by
      intro m
      induction m with
      | zero => intro _ _; rfl
      | succ m ih =>
        intro hml hno
        rw [(hcn.frame (by omega : m < l.length)).2 t (hno m (by omega))]
        exact ih (by omega) (fun q hq => hno q (by omega))
    rw [key m hmn (fun q hq hw => hnone q (h1 q hq hw)), hR]
  have hacc : Acc G l R S X (isIn l (Array.replicate ops.size false)) 0 M ι w M ι { w with drawn := w.drawn + 1 } :=
    ⟨Ext.drew .., Kp.same _ _ (fun _ _ _ => rfl), fun p o hp => absurd hp (hpend p)⟩
  obtain ⟨c, κ', rs', hinv', hacc', hce⟩ := adv hk hcn _ _ _ _ rfl hinv hacc
  refine wp_region_any hm ?_
  refine wpAny_drw hk hcn hS hG (df := a.defers) (fun a' w' M' ι' κ'' hd hx hkp hst => ?_) ops.size _ a c ρ _ M ι κ' rs' (by simp) (left_le _ _) rfl hinv' hacc' hce
  rw [hRn, hSn] at hst
  rw [hS0, hSn] at hkp
  exact hQ a' w' ⟨hd, M', ι', κ'', hx, hkp, hst⟩
end
end Go.Ev
