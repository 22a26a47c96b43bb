/- Regions whose order is the text's. -/
import Derived.Test.YtehbeicmmnjpfaaGreatDoorEvV
set_option linter.unusedSimpArgs false
set_option linter.unusedVariables false
namespace Go.Ev
open Go

def chkGd (ops : Array Oper) : Option (Nat × Bool) → Option (Nat × Bool) → Bool
  | none, none => true
  | some (g, b), some (t, b') => b == b' && ((ops[g]?).bind (·.dst)) == some t
  | _, _ => false

def chkStep (P : Program) (ops : Array Oper) (o : Oper) (s : Step) : Bool := o.dst == s.dst && chkIns P o.op s.ins && chkGd ops o.guard s.gd

def chkSteps (P : Program) (ops : Array Oper) : List Oper → List Step → Bool
  | [], [] => true
  | o :: os, s :: ss => chkStep P ops o s && chkSteps P ops os ss
  | _, _ => false

/-- What is behind a piece of code. -/
def Got (a : Act) (M : Mem) (ι : Plc) (X : Nat → Prop) (w : World) (σ : Objs) (ρ' : List V) (σ' : Objs) (a' : Act) (w' : World) : Prop :=
  a'.defers = a.defers ∧ ∃ M' ι' κ', Ext X M ι w M' ι' w' ∧ Kp ι w σ ι' w' σ' ∧ St M' ι' X κ' w' a'.tmps.toList ρ' σ'

section
variable {P : Program} {M : Mem} {ι : Plc} {X : Nat → Prop} {κ : Own} {w : World} {us : List Value} {ρ : List V} {σ : Objs} {G : Nat → V} {a : Act} {ops : Array Oper} {Q : Exit → Act → World → Prop}

theorem put_defers' (a : Act) (d : Option Nat) (v : Value) : (a.put d v).defers = a.defers := by cases d <;> rfl

theorem Rep.inv_undef {v : Value} (h : Rep M ι v .undef) : v = Go.undef := by cases h; rfl

theorem wanted_ok {tmps : Array Value} (h : Reps M ι tmps.toList ρ) {o : Oper} {gd : Option (Nat × Bool)} {b : Bool} (hc : chkGd ops o.guard gd = true) (hw : wanted ρ gd = some b) : Region.wanted o (yielded ops tmps) = b := by
  unfold Region.wanted
  cases hg : o.guard with
  | none =>
    rw [hg] at hc
    cases gd with
    | none => simp only [wanted, Option.some.injEq] at hw; exact hw
    | some _ => cases hc
  | some p =>
    obtain ⟨g, want⟩ := p
    rw [hg] at hc
    cases gd with
    | none => cases hc
    | some q =>
      obtain ⟨t, b'⟩ := q
      simp only [chkGd, Bool.and_eq_true, beq_iff_eq] at hc
      obtain ⟨rfl, ht⟩ := hc
      have hr := reps_getD h t
      simp only [wanted] at hw
      unfold yielded
      simp only [ht, Option.bind_some]
      split at hw
      · rename_i tb hq
        rw [hq] at hr
        have hv := hr.inv_bool
        have : tmps[t]? = some (.bool tb) := by
          rw [List.getD] at hv
          cases hu : tmps.toList[t]? with
          | none => rw [hu] at hv; simp only [Option.getD_none] at hv; cases hv
          | some u => rw [hu] at hv; simp only [Option.getD_some] at hv; subst hv; simpa using hu
        rw [this]
        cases hw
        cases tb <;> cases want <;> rfl
      · rename_i hq
        rw [hq] at hr
        have hv := hr.inv_undef
        have : tmps[t]? = some undef ∨ tmps[t]? = none := by
          rw [List.getD] at hv
          cases hu : tmps.toList[t]? with
          | none => right; simpa using hu
          | some u => rw [hu] at hv; simp only [Option.getD_some] at hv; subst hv; left; simpa using hu
        cases hw
        rcases this with h | h <;> rw [h] <;> rfl
      · cases hw

/-- One step of a region. -/
theorem wpOp_ev (h : St M ι X κ w a.tmps.toList ρ σ) (hG : GOK G M ι) {i : Nat} {o : Oper} {s : Step} (ho : ops[i]? = some o) (hc : chkStep P ops o s = true) {call : FuncId → List V → Objs → Option (V × Objs)} (hS : ∀ f, Sound P G f (call f))
    {ρ' : List V} {σ' : Objs} (he : evStep G call s ρ σ = some (ρ', σ')) {K : Act → World → Prop} (hn : ∀ a' w', Got a M ι X w σ ρ' σ' a' w' → K a' w') : wpOp P ops Q i K a w := by
  simp only [chkStep, Bool.and_eq_true, beq_iff_eq] at hc
  obtain ⟨⟨hd, hi⟩, hg⟩ := hc
  unfold evStep at he
  simp only [Option.bind_eq_bind, Option.bind_eq_some_iff] at he
  obtain ⟨b, hb, he⟩ := he
  have hw := wanted_ok (ops := ops) h.rep hg hb
  unfold wpOp
  simp only [ho, hw]
  cases b with
  | true =>
    simp only [if_true] at he ⊢
    exact .inl (wp_step h hG hd hi hS he fun v w' M' ι' κ' hx hk hst => hn _ _ ⟨put_defers' _ _ _, M', ι', κ', hx, hk, hst⟩)
  | false =>
    simp only [Bool.false_eq_true, if_false, Option.some.injEq, Prod.mk.injEq] at he ⊢
    obtain ⟨rfl, rfl⟩ := he
    refine hn _ _ ⟨put_defers' _ _ _, M, ι, κ, Ext.refl .., Kp.refl .., ?_⟩
    rw [put_toList, ← hd]
    exact h.putNone .undef rfl _

theorem Got.trans {a a' a'' : Act} {w' w'' : World} {ρ'' : List V} {σ' σ'' : Objs} {M' : Mem} {ι' : Plc} (hd : a'.defers = a.defers) (hx : Ext X M ι w M' ι' w') (hk : Kp ι w σ ι' w' σ') (h : Got a' M' ι' X w' σ' ρ'' σ'' a'' w'') :
    Got a M ι X w σ ρ'' σ'' a'' w'' := by
  obtain ⟨hd', M'', ι'', κ'', hx', hk', hs⟩ := h
  exact ⟨hd'.trans hd, M'', ι'', κ'', hx.trans hx', hk.trans hx.i hk', hs⟩

theorem wpOps_ev {call : FuncId → List V → Objs → Option (V × Objs)} (hS : ∀ f, Sound P G f (call f)) : ∀ (os : List Oper) (ss : List Step) (i : Nat) (M : Mem) (ι : Plc) (κ : Own) (w : World) (a : Act) (ρ : List V) (σ : Objs) (ρ' : List V) (σ' : Objs),
    St M ι X κ w a.tmps.toList ρ σ → GOK G M ι → ops.toList.drop i = os → chkSteps P ops os ss = true → evSteps G call ss ρ σ = some (ρ', σ') → (∀ a' w', Got a M ι X w σ ρ' σ' a' w' → Q .normal a' w') →
    wpOps P ops Q (List.range' i os.length) a w
  | [], [], i, M, ι, κ, w, a, ρ, σ, ρ', σ', h, hG, hdrop, hc, he, hQ => by
    simp only [evSteps, Option.some.injEq, Prod.mk.injEq] at he
    obtain ⟨rfl, rfl⟩ := he
    exact hQ _ _ ⟨rfl, M, ι, κ, Ext.refl .., Kp.refl .., h⟩
  | [], s :: ss, i, M, ι, κ, w, a, ρ, σ, ρ', σ', h, hG, hdrop, hc, he, hQ => by cases hc
  | o :: os, [], i, M, ι, κ, w, a, ρ, σ, ρ', σ', h, hG, hdrop, hc, he, hQ => by cases hc
  | o :: os, s :: ss, i, M, ι, κ, w, a, ρ, σ, ρ', σ', h, hG, hdrop, hc, he, hQ => by
    simp only [chkSteps, Bool.and_eq_true] at hc
    simp only [evSteps, Option.bind_eq_bind, Option.bind_eq_some_iff] at he
    obtain ⟨⟨ρ1, σ1⟩, h1, h2⟩ := he
    have ho : ops[i]? = some o := by
      have : (ops.toList.drop i)[0]? = some o := by rw [hdrop]; rfl
      simpa using this
    have hdr : ops.toList.drop (i + 1) = os := by
      have := congrArg List.tail hdrop
      simpa using this
    rw [List.length_cons, List.range'_succ, wpOps_cons]
    refine wpOp_ev h hG ho hc.1 hS h1 fun a' w' hgot => ?_
    obtain ⟨hd, M', ι', κ', hx, hk, hs⟩ := hgot
    exact wpOps_ev hS os ss (i + 1) M' ι' κ' w' a' ρ1 σ1 ρ' σ' hs (hG.mono hx.m hx.i) hdr hc.2 h2 fun a'' w'' hg'' => hQ _ _ (Got.trans hd hx hk hg'')

theorem wp_ops_ev {call : FuncId → List V → Objs → Option (V × Objs)} (hS : ∀ f, Sound P G f (call f)) (h : St M ι X κ w a.tmps.toList ρ σ) (hG : GOK G M ι) {id : Nat} {ss : List Step} (hc : chkSteps P ops ops.toList ss = true) {ρ' : List V} {σ' : Objs}
    (he : evSteps G call ss ρ σ = some (ρ', σ')) (hQ : ∀ a' w', Got a M ι X w σ ρ' σ' a' w' → Q .normal a' w') : (Code.region id ops false).wp P Q a w := by
  refine wp_region ?_
  have := wpOps_ev (Q := Q) hS ops.toList ss 0 M ι κ w a ρ σ ρ' σ' h hG rfl hc he hQ
  rwa [List.range_eq_range', ← Array.length_toList]
end
end Go.Ev
