/- All steps but calls. -/
import Derived.Test.YtehbeicmmnjpfaaGreatDoorEvT
set_option linter.unusedSimpArgs false
set_option linter.unusedVariables false
namespace Go.Ev
open Go

def isCall : Ins → Bool
  | .call .. | .callv .. => true
  | _ => false

section
variable {P : Program} {M : Mem} {ι : Plc} {X : Nat → Prop} {κ : Own} {w : World} {ρ : List V} {σ : Objs} {G : Nat → V} {a : Act}

theorem step_pure (h : St M ι X κ w a.tmps.toList ρ σ) (hG : GOK G M ι) {o : Oper} {i : Ins} {v : V} {σ' : Objs} (hc : chkIns P o.op i = true) (hns : ∀ y, i ≠ .conv .strBytes y)
    (he : (do let v ← evPure (arg G ρ) σ i; some (v.nogr, σ)) = some (v, σ')) : Left P a o M ι X w σ (put ρ o.dst v) σ' := by
  simp only [Option.bind_eq_bind, Option.bind_eq_some_iff, Option.some.injEq, Prod.mk.injEq] at he
  obtain ⟨x, hx, rfl, rfl⟩ := he
  obtain ⟨u, hrun, hr⟩ := run_pure h.wd (Opd.of_state h.rep hG) hc hns hx
  exact left_value hrun (h.putNone hr.nogr (ownB_nogr _ _) _)

theorem step_all (h : St M ι X κ w a.tmps.toList ρ σ) (hG : GOK G M ι) {o : Oper} {s : Step} (hd : o.dst = s.dst) (hc : chkIns P o.op s.ins = true) (hn : isCall s.ins = false)
    {call : FuncId → List V → Objs → Option (V × Objs)} {ρ' : List V} {σ' : Objs} (he : ev1 G call s ρ σ = some (ρ', σ')) : Left P a o M ι X w σ ρ' σ' := by
  obtain ⟨dst, gd, i⟩ := s
  simp only at hd hc hn
  subst hd
  unfold ev1 at he
  simp only [Option.bind_eq_bind, Option.bind_eq_some_iff] at he
  obtain ⟨⟨v, σ2⟩, hi, he⟩ := he
  simp only [Option.some.injEq, Prod.mk.injEq] at he
  obtain ⟨rfl, rfl⟩ := he
  cases i <;> (try (exact step_pure h hG hc (fun y e => by cases e) hi))
  case call => cases hn
  case callv => cases hn
  case mkmp => cases hc
  case mset => cases hc
  case appH => cases hc
  case mv y tk =>
    obtain ⟨dst, op, type, pos, after, guard⟩ := o
    simp only [evIns, Option.some.injEq, Prod.mk.injEq] at hi
    obtain ⟨rfl, rfl⟩ := hi
    simp only at hc
    cases op <;> (try (cases hc; done))
    all_goals
      simp only [chkIns, Bool.and_eq_true] at hc
      first
        | exact step_mv h hG (.inl rfl) hc.1 hc.2
        | exact step_mv h hG (.inr rfl) hc.1 hc.2
  case alloc z =>
    obtain ⟨dst, op, type, pos, after, guard⟩ := o
    simp only at hc
    cases op <;> (try (cases hc; done))
    simp only [chkIns] at hc
    split at hc
    · rename_i zv hz
      simp only [evIns] at hi
      split at hi
      · cases hi
        exact step_alloc h rfl hz hc
      · cases hi
    · cases hc
  case box y =>
    obtain ⟨dst, op, type, pos, after, guard⟩ := o
    simp only at hc
    cases op <;> (try (cases hc; done))
    simp only [chkIns] at hc
    simp only [evIns] at hi
    split at hi
    · cases hi
      exact step_box h hG rfl hc (by assumption)
    · cases hi
  case buildSl ag sz len z qs hh =>
    obtain ⟨dst, op, type, pos, after, guard⟩ := o
    simp only at hc
    cases op <;> (try (cases hc; done))
    simp only [chkIns] at hc
    split at hc
    · rename_i e hE
      simp only [Bool.and_eq_true, Bool.or_eq_true, beq_iff_eq, decide_eq_true_eq] at hc
      obtain ⟨⟨⟨⟨rfl, hz⟩, hpos⟩, hsm⟩, hps⟩ := hc
      exact step_buildSl h hG rfl hE hz hpos hsm hps hi
    · cases hc
  case buildG ag sz len z qs =>
    obtain ⟨dst, op, type, pos, after, guard⟩ := o
    simp only at hc
    cases op <;> (try (cases hc; done))
    simp only [chkIns] at hc
    split at hc
    · rename_i e hE
      simp only [Bool.and_eq_true, Bool.or_eq_true, beq_iff_eq, decide_eq_true_eq] at hc
      obtain ⟨⟨⟨⟨rfl, hz⟩, hpos⟩, hsm⟩, hps⟩ := hc
      exact step_buildG h hG rfl hE hz hpos hsm hps hi
    · cases hc
  case mark y =>
    obtain ⟨dst, op, type, pos, after, guard⟩ := o
    simp only at hc
    cases op <;> (try (cases hc; done))
    simp only [chkIns, Bool.and_eq_true, beq_iff_eq] at hc
    obtain ⟨⟨⟨rfl, hs⟩, hx⟩, ht⟩ := hc
    split at hs
    · rename_i e hs'
      exact step_mark h hG rfl hs' (isU8T_spec hs) hx ht hi
    · cases hs
  case loadT y =>
    obtain ⟨dst, op, type, pos, after, guard⟩ := o
    simp only at hc
    cases op <;> (try (cases hc; done))
    simp only [chkIns, Bool.and_eq_true] at hc
    simp only [evIns, Option.bind_eq_bind] at hi
    refine step_loadT h hG rfl hc.1 hc.2 (Eq.trans ?_ hi)
    cases arg G ρ y <;> rfl
  case store sz p' y tk =>
    obtain ⟨dst, op, type, pos, after, guard⟩ := o
    simp only at hc
    cases op <;> (try (cases hc; done))
    simp only [chkIns, Bool.and_eq_true, decide_eq_true_eq] at hc
    exact step_store h hG rfl hc.1.1.1 hc.1.1.2 hc.1.2 hc.2 hi
  case app str ag sz bytes x' y' tk =>
    obtain ⟨dst, op, type, pos, after, guard⟩ := o
    simp only at hc
    cases op <;> (try (cases hc; done))
    rename_i c
    obtain ⟨callee, args, argTypes⟩ := c
    cases callee <;> (try (cases hc; done))
    rename_i b
    cases b <;> (try (cases hc; done))
    simp only [chkIns, Bool.and_eq_true] at hc
    obtain ⟨⟨h1, h2⟩, h3⟩ := hc
    obtain ⟨p, q, hpq, hp, hq⟩ := chkArgs_two h1
    split at h3
    · rename_i t tx htt
      have hat : argTypes = #[t, tx] := by apply Array.ext'; simpa using htt
      have har : args = #[p, q] := by apply Array.ext'; simpa using hpq
      subst hat har
      simp only [evIns, Option.bind_eq_bind, Option.bind_eq_some_iff, Option.some.injEq, Prod.mk.injEq] at hi
      obtain ⟨ys, hys, v', hv, rfl, rfl⟩ := hi
      exact step_app h hG rfl hp hq h2 h3 hys hv
    · cases h3
  case conv k y =>
    by_cases hk : k = .strBytes
    · subst hk
      obtain ⟨dst, op, type, pos, after, guard⟩ := o
      simp only at hc
      cases op <;> (try (cases hc; done))
      simp only [chkIns, Bool.and_eq_true] at hc
      obtain ⟨h1, h2⟩ := hc
      split at h2 <;> (try (cases h2; done)) <;> (try (rename_i hk _ _; cases hk; done))
      rename_i hs hd
      simp only [evIns, Option.bind_eq_bind, Option.bind_eq_some_iff, Option.some.injEq, Prod.mk.injEq] at hi
      obtain ⟨v', hv, rfl, rfl⟩ := hi
      exact step_strBytes h hG rfl hs hd (isU8T_spec h2) h1 hv
    · refine step_pure h hG hc (fun y' e => hk (by cases e; rfl)) (?_ : _ = some (v, σ2))
      rw [← hi]
      cases k <;> first | rfl | exact absurd rfl hk
  case bytesH y =>
    obtain ⟨dst, op, type, pos, after, guard⟩ := o
    simp only at hc
    cases op <;> (try (cases hc; done))
    simp only [chkIns, Bool.and_eq_true] at hc
    obtain ⟨h1, h2⟩ := hc
    split at h2
    · rename_i hs hd
      simp only [evIns] at hi
      split at hi
      · rename_i bs hy
        cases hi
        exact step_bytesH h hG rfl hs hd (isU8T_spec h2) h1 hy
      · cases hi
    · cases h2
  case mkSl ag sz bytes z l' c' hh =>
    obtain ⟨dst, op, type, pos, after, guard⟩ := o
    simp only at hc
    cases op <;> (try (cases hc; done))
    simp only [chkIns] at hc
    split at hc
    · rename_i e hE
      simp only [Bool.and_eq_true, decide_eq_true_eq] at hc
      obtain ⟨⟨⟨⟨⟨⟨hz, hzl⟩, hpos⟩, hb0⟩, hby⟩, hl⟩, hcc⟩ := hc
      exact step_mkSl h hG rfl hE hz hzl hpos hb0 hby hl hcc hi
    · cases hc
end
end Go.Ev
