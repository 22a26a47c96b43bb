/- Code. -/
import Derived.Test.YtehbeicmmnjpfaaGreatDoorEwK
set_option linter.unusedSimpArgs false
set_option linter.unusedVariables false
namespace Go.Ev
open Go

def okOut : Out → Exit
  | .norm => .normal
  | .ex id => .exit id
  | .ret => .ret

def chkCd (P : Program) : Code → Cd → Bool
  | .skip, .skip => true
  | .ret, .ret => true
  | .exit id, .exit id' => id == id'
  | .region _ ops false, .ops _ ss => chkSteps P ops ops.toList ss
  | .region _ ops true, .drw _ l => chkDrw P ops l
  | .seq a b, .seq a' b' => chkCd P a a' && chkCd P b b'
  | .cond c a b, .cond c' a' b' => chkArg c c' && chkCd P a a' && chkCd P b b'
  | .block id b, .block id' b' => id == id' && chkCd P b b'
  | .loop b, .loop _ _ b' => chkCd P b b'
  | _, _ => false

section
variable {P : Program} {G : Nat → V} {call : FuncId → List V → Objs → Option (V × Objs)} {X : Nat → Prop}

/-- A loop's rounds, one by one. -/
theorem wp_rounds {c : Code} {Q : Exit → Act → World → Prop} (I : Nat → Act → World → Prop) (round : ∀ k a w, I (k + 1) a w → c.wp P (Exit.then (fun a' w' => I k a' w') Q) a w) (h0 : ∀ a w, ¬ I 0 a w) {k : Nat} {a : Act} {w : World} (h : I k a w) : (Code.loop c).wp P Q a w := by
  intro b kk cs
  have key : ∀ k a w, I k a w → ∃ e a' w', Q e a' w' ∧ Arrives P (lone (b.at a (.code c :: .inLoop c :: kk)) cs w) b kk cs e a' w' := by
    intro k
    induction k with
    | zero => intro a w hI; exact absurd hI (h0 a w)
    | succ k ih =>
      intro a w hI
      obtain ⟨e, a₁, w₁, hq, harr⟩ := round k a w hI b (.inLoop c :: kk) cs
      cases e with
      | normal =>
        obtain ⟨e₂, a₂, w₂, hq₂, harr₂⟩ := ih a₁ w₁ hq
        exact ⟨e₂, a₂, w₂, hq₂, .of_steps (Steps.trans harr (.one step_inLoop)) harr₂⟩
      | exit id => exact ⟨_, a₁, w₁, hq, .pass (x := .inLoop c) rfl (fun _ _ => .inl (by simp)) harr⟩
      | goto l => exact ⟨_, a₁, w₁, hq, .pass (x := .inLoop c) rfl (fun _ _ => .inl (by simp)) harr⟩
      | ret => exact ⟨_, a₁, w₁, hq, .pass (x := .inLoop c) rfl (fun _ _ => .inl (by simp)) harr⟩
      | panic ch => exact ⟨_, a₁, w₁, hq, .pass (x := .inLoop c) rfl (fun _ _ => .inl (by simp)) harr⟩
      | outgrown => exact ⟨_, a₁, w₁, hq, .pass (x := .inLoop c) rfl (fun _ _ => .inl (by simp)) harr⟩
  obtain ⟨e, a', w', hq, harr⟩ := key k a w h
  exact ⟨e, a', w', hq, .of_steps (.one step_loop) harr⟩

theorem St.cutS {M : Mem} {ι : Plc} {κ : Own} {w : World} {us : List Value} {ρ ρ' : List V} {σ : Objs} {n : Nat} {live : List Nat} (h : St M ι X κ w us ρ σ) (hn : σ.length ≤ n) (hs : cutSlots n σ live 0 ρ = some ρ') : St M ι X κ w us ρ' σ := by
  have hg : ∀ x y, fz n σ fzDepth x = some y → Fz M ι M ι x y := fz_ok h.wd (MemLe.refl M) (fun o b _ e => e) (fun o b hno hb i u hu => by
    rw [h.wd.none_of_ge (Nat.le_trans hn hno)] at hb; cases hb) fzDepth
  obtain ⟨hl, hsl⟩ := cutSlots_get hg 0 ρ ρ' hs
  have key : ∀ p v y, At ι w us ρ' σ p v y → ∃ x, At ι w us ρ σ p v x ∧ (x = y ∨ Fz1 M ι M ι x y) := by
    intro p v y ha
    cases p with
    | c o i => exact ⟨y, ha, .inl rfl⟩
    | s i =>
      obtain ⟨q1, q2⟩ := ha
      have hlt : i < ρ.length := by rw [← hl]; exact (List.getElem?_eq_some_iff.1 q2).1
      exact ⟨ρ[i], ⟨q1, List.getElem?_eq_getElem hlt⟩, .inr (hsl i _ _ (List.getElem?_eq_getElem hlt) q2)⟩
  refine ⟨h.wd, ⟨by rw [hl]; exact h.rep.1, fun i u y hu hy => ?_⟩, fun p v y b ha hb => ?_, fun p v y ha => ?_⟩
  · have hlt : i < ρ.length := by rw [← hl]; exact (List.getElem?_eq_some_iff.1 hy).1
    rcases hsl i _ y (List.getElem?_eq_getElem hlt) hy with rfl | hfz
    · exact .any u
    · exact hfz.rep u (h.rep.2 i u _ hu (List.getElem?_eq_getElem hlt))
  · obtain ⟨x, hx, hf⟩ := key p v y ha
    rcases hf with rfl | rfl | hf
    · exact h.own p v x b hx hb
    · unfold ownB at hb; split at hb <;> simp_all
    · rw [hf.own v] at hb; exact h.own p v x b hx hb
  · obtain ⟨x, hx, hf⟩ := key p v y ha
    rcases hf with rfl | rfl | hf
    · exact h.gr p v x hx
    · exact ⟨fun xs s e => by cases e⟩
    · refine ⟨fun ys s e a len cap hv => ?_⟩
      obtain ⟨xs, hxs, hfl, hsz⟩ := hf.sl ys (.gr s) e (by simp)
      obtain ⟨g1, g2, g3⟩ := (h.gr p v x hx).ok xs s hxs a len cap hv
      rw [hfl]
      exact ⟨hsz s g1, g2, g3⟩

theorem Got.refl {M : Mem} {ι : Plc} {κ : Own} {w : World} {a : Act} {ρ : List V} {σ : Objs} (h : St M ι X κ w a.tmps.toList ρ σ) : Got a M ι X w σ ρ σ a w := ⟨rfl, M, ι, κ, Ext.refl .., Kp.refl .., h⟩

theorem wp_cd (hm : P.follows .mixedOrders = true) (hS : ∀ f, Sound P G f (call f)) {fuel : Nat} : ∀ (cd : Cd) (code : Code), chkCd P code cd = true → ∀ (Q : Exit → Act → World → Prop) (M : Mem) (ι : Plc) (κ : Own) (w : World) (a : Act) (ρ : List V) (σ : Objs) (out : Out) (ρ' : List V) (σ' : Objs),
    St M ι X κ w a.tmps.toList ρ σ → GOK G M ι → evCd G call fuel cd ρ σ = some (out, ρ', σ') → (∀ a' w', Got a M ι X w σ ρ' σ' a' w' → Q (okOut out) a' w') → code.wp P Q a w := by
  intro cd
  induction cd with
  | skip =>
    intro code hc Q M ι κ w a ρ σ out ρ' σ' h hG he hQ
    cases code <;> (try (cases hc; done)) <;> (try (rename_i _ _ dr; cases dr <;> (cases hc; done)))
    cases he
    exact wp_skip (hQ _ _ (Got.refl h))
  | ret =>
    intro code hc Q M ι κ w a ρ σ out ρ' σ' h hG he hQ
    cases code <;> (try (cases hc; done)) <;> (try (rename_i _ _ dr; cases dr <;> (cases hc; done)))
    cases he
    exact wp_ret (hQ _ _ (Got.refl h))
  | exit id =>
    intro code hc Q M ι κ w a ρ σ out ρ' σ' h hG he hQ
    cases code <;> (try (cases hc; done)) <;> (try (rename_i _ _ dr; cases dr <;> (cases hc; done)))
    simp only [chkCd, beq_iff_eq] at hc
    subst hc
    cases he
    exact wp_exit (hQ _ _ (Got.refl h))
  | ops k ss =>
    intro code hc Q M ι κ w a ρ σ out ρ' σ' h hG he hQ
    cases code <;> (try (cases hc; done))
    rename_i id ops dr
    cases dr <;> (try (cases hc; done))
    simp only [evCd, Option.map_eq_some_iff] at he
    obtain ⟨⟨r, s⟩, he, e⟩ := he
    cases e
    exact wp_ops_ev hS h hG hc he hQ
  | drw k l =>
    intro code hc Q M ι κ w a ρ σ out ρ' σ' h hG he hQ
    cases code <;> (try (cases hc; done))
    rename_i id ops dr
    cases dr <;> (try (cases hc; done))
    simp only [evCd, Option.map_eq_some_iff] at he
    obtain ⟨⟨r, s⟩, he, e⟩ := he
    cases e
    exact wp_drw_ev hm hS h hG hc he hQ
  | seq x y ihx ihy =>
    intro code hc Q M ι κ w a ρ σ out ρ' σ' h hG he hQ
    cases code <;> (try (cases hc; done)) <;> (try (rename_i _ _ dr; cases dr <;> (cases hc; done)))
    simp only [chkCd, Bool.and_eq_true] at hc
    simp only [evCd] at he
    refine wp_seq ?_
    split at he
    · rename_i r s hx
      refine ihx _ hc.1 _ M ι κ w a ρ σ .norm r s h hG hx fun a' w' hgot => ?_
      obtain ⟨hd, M', ι', κ', hxx, hk, hs⟩ := hgot
      exact ihy _ hc.2 Q M' ι' κ' w' a' r s out ρ' σ' hs (hG.mono hxx.m hxx.i) he fun a'' w'' hg => hQ _ _ (Got.trans hd hxx hk hg)
    · rename_i hne
      refine ihx _ hc.1 _ M ι κ w a ρ σ out ρ' σ' h hG he fun a' w' hgot => ?_
      cases out with
      | norm => exact absurd he (hne ρ' σ')
      | ex id => exact hQ _ _ hgot
      | ret => exact hQ _ _ hgot
  | cond c x y ihx ihy =>
    intro code hc Q M ι κ w a ρ σ out ρ' σ' h hG he hQ
    cases code <;> (try (cases hc; done)) <;> (try (rename_i _ _ dr; cases dr <;> (cases hc; done)))
    simp only [chkCd, Bool.and_eq_true] at hc
    have hv := (Opd.of_state h.rep hG).ok _ _ hc.1.1
    simp only [evCd] at he
    split at he
    · rename_i hq
      rw [hq] at hv
      exact wp_cond_true hv.inv_bool (ihx _ hc.1.2 Q M ι κ w a ρ σ out ρ' σ' h hG he hQ)
    · rename_i hq
      rw [hq] at hv
      exact wp_cond_false hv.inv_bool (ihy _ hc.2 Q M ι κ w a ρ σ out ρ' σ' h hG he hQ)
    · cases he
  | block id x ih =>
    intro code hc Q M ι κ w a ρ σ out ρ' σ' h hG he hQ
    cases code <;> (try (cases hc; done)) <;> (try (rename_i _ _ dr; cases dr <;> (cases hc; done)))
    simp only [chkCd, Bool.and_eq_true, beq_iff_eq] at hc
    obtain ⟨rfl, hc⟩ := hc
    refine wp_block ?_
    simp only [evCd] at he
    split at he
    · rename_i i r s hx
      refine ih _ hc _ M ι κ w a ρ σ (.ex i) r s h hG hx fun a' w' hgot => ?_
      simp only [okOut, Exit.inBlock]
      split at he
      · rename_i hi; cases he; rw [if_pos hi]; exact hQ _ _ hgot
      · rename_i hi; cases he; rw [if_neg hi]; exact hQ _ _ hgot
    · rename_i hne
      refine ih _ hc _ M ι κ w a ρ σ out ρ' σ' h hG he fun a' w' hgot => ?_
      cases out with
      | norm => exact hQ _ _ hgot
      | ex i => exact absurd he (hne i ρ' σ')
      | ret => exact hQ _ _ hgot
  | loop lin lout x ih =>
    intro code hc Q M ι κ w a ρ σ out ρ' σ' h hG he hQ
    cases code <;> (try (cases hc; done)) <;> (try (rename_i _ _ dr; cases dr <;> (cases hc; done)))
    rename_i c
    simp only [chkCd] at hc
    simp only [evCd, Option.bind_eq_bind, Option.bind_eq_some_iff] at he
    obtain ⟨ρ1, h1, h2⟩ := he
    have back : ∀ {a1 a2 : Act} {w1 w2 : World} {M1 : Mem} {s s' : Objs} {r' r2 : List V} {s2 : Objs} {live : List Nat}, a1.defers = a.defers → Ext X M ι w M1 ι w1 → Kp ι w σ ι w1 s → Got a1 M1 ι X w1 s r' s' a2 w2 → cutSlots σ.length s' live 0 r' = some r2 → cutObjs σ.length s' = some s2 →
        ∃ M2 κ2, a2.defers = a.defers ∧ Ext X M ι w M2 ι w2 ∧ Kp ι w σ ι w2 s2 ∧ St M2 ι X κ2 w2 a2.tmps.toList r2 s2 := by
      intro a1 a2 w1 w2 M1 s s' r' r2 s2 live hd hx hk hgot hcs hco
      obtain ⟨hd2, M2, ι2, κ2, hx2, hk2, hs2⟩ := hgot
      obtain ⟨c1, c2, c3, c4, c5⟩ := hs2.cut (n := σ.length) (ι0 := ι) (fun o ho => ((hk2.dom o (Nat.lt_of_lt_of_le ho hk.len))).symm) (fun o ho => h.wd.none_of_ge ho) hcs hco
      have hkk := hk.trans (PlcLe.refl ι) hk2
      have hxx := hx.trans hx2
      refine ⟨_, κ2, hd2.trans hd, ⟨hxx.m.trans c1, PlcLe.refl ι, fun b i hb => (c2 b i hb).trans (hxx.mX b i hb), hxx.size, hxx.keep, hxx.os, hxx.tape, hxx.output⟩, ⟨?_, fun _ _ => rfl, fun o b i hi hl => ?_⟩, c3⟩
      · have := hkk.len; omega
      · exact hkk.lk o b i hi (c4 o i hl)
    refine wp_rounds (I := fun k a' w' => ∃ M' κ' r s, a'.defers = a.defers ∧ Ext X M ι w M' ι w' ∧ Kp ι w σ ι w' s ∧ St M' ι X κ' w' a'.tmps.toList r s ∧ loopN lin lout σ.length (evCd G call fuel x) k r s = some (out, ρ', σ')) (fun k a1 w1 hI => ?_) (fun a1 w1 hI => ?_) (k := fuel) ⟨M, κ, ρ1, σ, rfl, Ext.refl .., Kp.refl .., h.cutS (Nat.le_refl _) h1, h2⟩
    · obtain ⟨M1, κ1, r, s, hd, hx, hk, hs, hl⟩ := hI
      simp only [loopN] at hl
      split at hl
      · cases hl
      · rename_i r' s' hrd
        simp only [Option.bind_eq_bind, Option.bind_eq_some_iff] at hl
        obtain ⟨r2, hr2, s2, hs2, hl⟩ := hl
        refine ih _ hc _ M1 ι κ1 w1 a1 r s .norm r' s' hs (hG.mono hx.m hx.i) hrd fun a2 w2 hgot => ?_
        obtain ⟨M2, κ2, q1, q2, q3, q4⟩ := back hd hx hk hgot hr2 hs2
        exact ⟨M2, κ2, r2, s2, q1, q2, q3, q4, hl⟩
      · rename_i e r' s' hne hrd
        simp only [Option.bind_eq_bind, Option.bind_eq_some_iff, Option.some.injEq, Prod.mk.injEq] at hl
        obtain ⟨r2, hr2, s2, hs2, rfl, rfl, rfl⟩ := hl
        refine ih _ hc _ M1 ι κ1 w1 a1 r s e r' s' hs (hG.mono hx.m hx.i) hrd fun a2 w2 hgot => ?_
        obtain ⟨M2, κ2, q1, q2, q3, q4⟩ := back hd hx hk hgot hr2 hs2
        have := hQ a2 w2 ⟨q1, M2, ι, κ2, q2, q3, q4⟩
        cases e with
        | norm => exact (hne rfl).elim
        | ex id => exact this
        | ret => exact this
    · obtain ⟨_, _, _, _, _, _, _, _, hl⟩ := hI
      simp only [loopN] at hl
      cases hl
end
end Go.Ev
