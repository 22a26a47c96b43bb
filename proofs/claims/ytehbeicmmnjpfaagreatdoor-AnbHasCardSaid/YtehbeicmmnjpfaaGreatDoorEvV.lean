/- Calls. -/
import Derived.Test.YtehbeicmmnjpfaaGreatDoorEvU
set_option linter.unusedSimpArgs false
set_option linter.unusedVariables false
namespace Go.Ev
open Go

/-- A call, or what is done in its stead, ends so. -/
def Does (P : Program) (f : FuncId) (vs : Array Value) (w : World) (R : Value → World → Prop) : Prop :=
  ((callFunc f vs).run P w = .ok (.enter f vs) w ∧ Calls P f vs w (fun e w' => ∃ v, e = .returned v ∧ R v w')) ∨ ∃ v w', (callFunc f vs).run P w = .ok (.value v) w' ∧ R v w'

/-- A function does what is told of it. -/
def Sound (P : Program) (G : Nat → V) (f : FuncId) (h : List V → Objs → Option (V × Objs)) : Prop :=
  ∀ args σ r σ', h args σ = some (r, σ') → ∀ M ι X κ w (vs : Array Value), St M ι X κ w vs.toList args σ → GOK G M ι → (∀ x ∈ args, x.nogr = x) →
    Does P f vs w fun v w' => ∃ M' ι' κ', (Ext X M ι w M' ι' w' ∧ Kp ι w σ ι' w' σ') ∧ St M' ι' X κ' w' [v] [r] σ'

section
variable {P : Program} {M : Mem} {ι : Plc} {X : Nat → Prop} {κ : Own} {w : World} {us : List Value} {ρ : List V} {σ : Objs} {G : Nat → V} {a : Act}

theorem Rep.inv_fn {v : Value} {f : FuncId} {first caps : List V} (h : Rep M ι v (.fn f first caps)) : ∃ as bs, v = .func (.func f) as bs ∧ Reps M ι as.toList first ∧ Reps M ι bs.toList caps := by
  cases h with
  | fn _ as bs _ _ ha hb hra hrb =>
    exact ⟨as, bs, rfl, ⟨by simpa using ha, fun i u y hu hy => hra i u y (by simpa using hu) hy⟩, ⟨by simpa using hb, fun i u y hu hy => hrb i u y (by simpa using hu) hy⟩⟩

/-- What is a slot's is another's while a call runs. -/
def withSlots (X : Nat → Prop) (κ : Own) (b : Nat) : Prop := X b ∨ ∃ n, κ b = some (.s n)
def cellsOnly (κ : Own) : Own := fun b => match κ b with | some (.c o i) => some (.c o i) | _ => none

theorem cellsOnly_some {κ : Own} {b : Nat} {p : Pl} (h : cellsOnly κ b = some p) : ∃ o i, p = .c o i ∧ κ b = some (.c o i) := by
  unfold cellsOnly at h
  split at h
  · cases h; exact ⟨_, _, rfl, ‹_›⟩
  · cases h

theorem St.callee (h : St M ι X κ w us ρ σ) {vs : List Value} {xs : List V} (hr : Reps M ι vs xs) (hn : ∀ x ∈ xs, x.nogr = x) : St M ι (withSlots X κ) (cellsOnly κ) w vs xs σ := by
  have hnone : ∀ (i : Nat) v x, xs[i]? = some x → ownB v x = none := fun i v x hx => by
    rw [← hn x (List.mem_of_getElem? hx)]; exact ownB_nogr _ _
  refine ⟨⟨h.wd.mem, h.wd.obj, h.wd.olt, h.wd.inj, fun b hb => ?_, fun o b hi hb => ?_, fun b p hp => ?_⟩, hr, fun p v x b ha hb => ?_, fun p v x ha => ?_⟩
  · rcases hb with hb | ⟨n, hn⟩
    · exact h.wd.xlt b hb
    · exact (h.wd.kap b _ hn).2.2
  · rcases hb with hb | ⟨n, hn⟩
    · exact h.wd.xobj o b hi hb
    · exact (h.wd.kap b _ hn).2.1 o hi
  · obtain ⟨o, i, rfl, hk⟩ := cellsOnly_some hp
    obtain ⟨h1, h2, h3⟩ := h.wd.kap b _ hk
    refine ⟨fun hx => ?_, h2, h3⟩
    rcases hx with hx | ⟨n, hn⟩
    · exact h1 hx
    · rw [hk] at hn; cases hn
  · cases p with
    | s i => rw [hnone i v x ha.2] at hb; cases hb
    | c o i =>
      have := h.own (.c o i) v x b ha hb
      unfold cellsOnly
      rw [this]
  · cases p with
    | s i => exact .of_none (hnone i v x ha.2)
    | c o i => exact h.gr (.c o i) v x ha

/-- Behind a call. -/
theorem St.behind (h : St M ι X κ w us ρ σ) {M' : Mem} {ι' : Plc} {κ' : Own} {w' : World} {v : Value} {r : V} {σ' : Objs} (he : Ext (withSlots X κ) M ι w M' ι' w') (hs : St M' ι' (withSlots X κ) κ' w' [v] [r] σ') (d : Option Nat) :
    ∃ κ3, Ext X M ι w M' ι' w' ∧ St M' ι' X κ3 w' (putL us d v) (put ρ d r) σ' := by
  have hrr : Rep M' ι' v r := hs.rep.2 0 v r rfl rfl
  let κ3 : Own := fun b => match κ b with
    | some (.s n) => some (.s n)
    | _ => match κ' b with
      | some (.c o i) => some (.c o i)
      | some (.s _) => d.map Pl.s
      | none => none
  have k1 : ∀ b n, κ b = some (.s n) → κ3 b = some (.s n) := fun b n e => by show (match κ b with | some (.s n) => _ | _ => _) = _; rw [e]
  have k2 : ∀ b, (∀ n, κ b ≠ some (.s n)) → κ3 b = match κ' b with
      | some (.c o i) => some (.c o i)
      | some (.s _) => d.map Pl.s
      | none => none := fun b e => by
    simp only [κ3]
  have hout : ∀ b p, κ' b = some p → ∀ n, κ b ≠ some (.s n) := fun b p e n hn => (hs.wd.kap b p e).1 (.inr ⟨n, hn⟩)
  have grOld : ∀ (i : Nat) u x, us[i]? = some u → ρ[i]? = some x → GrOK M' w' u x := fun i u x hu hx => by
    cases hb : ownB u x with
    | none => exact .of_none hb
    | some b =>
      have hat : At ι w us ρ σ (.s i) u x := ⟨hu, hx⟩
      have hk := h.own _ _ _ _ hat hb
      have hX : withSlots X κ b := .inr ⟨i, hk⟩
      refine ⟨fun xs sz hxx al len cap hv => ?_⟩
      obtain ⟨g1, g2, ws, T, fz, g3, g4⟩ := (h.gr _ _ _ hat).ok xs sz hxx al len cap hv
      have hbb : al.block = b := by subst hxx hv; simp only [ownB, Option.some.injEq] at hb; exact hb
      exact ⟨g1, fun j hj => by rw [hbb, he.mX b j hX, ← hbb]; exact g2 j hj, ws, T, fz, by rw [hbb, he.keep b hX, ← hbb]; exact g3, g4⟩
  have hslot : ∀ (i : Nat) u x, (putL us d v)[i]? = some u → (put ρ d r)[i]? = some x → (d = some i ∧ u = v ∧ x = r) ∨ (us[i]? = some u ∧ ρ[i]? = some x) := by
    intro i u x hu hx
    cases d with
    | none => exact .inr ⟨hu, hx⟩
    | some d =>
      simp only [putL, put, List.getElem?_set] at hu hx
      by_cases hd : d = i
      · subst hd
        rw [if_pos rfl] at hu hx
        split at hu
        · split at hx
          · cases hu; cases hx; exact .inl ⟨rfl, rfl, rfl⟩
          · cases hx
        · cases hu
      · rw [if_neg hd] at hu hx; exact .inr ⟨hu, hx⟩
  refine ⟨κ3, he.less fun b hb => .inl hb, ⟨⟨hs.wd.mem, hs.wd.obj, hs.wd.olt, hs.wd.inj, fun b hb => hs.wd.xlt b (.inl hb), fun o b hi hb => hs.wd.xobj o b hi (.inl hb), fun b p hp => ?_⟩, ?_, fun p u x b ha hb => ?_, fun p u x ha => ?_⟩⟩
  · by_cases hn : ∃ n, κ b = some (.s n)
    · obtain ⟨n, hn⟩ := hn
      have hX : withSlots X κ b := .inr ⟨n, hn⟩
      exact ⟨(h.wd.kap b _ hn).1, fun o ho => hs.wd.xobj o b ho hX, hs.wd.xlt b hX⟩
    · rw [k2 b (fun n e => hn ⟨n, e⟩)] at hp
      cases hk : κ' b with
      | none => rw [hk] at hp; cases hp
      | some q =>
        obtain ⟨h1, h2, h3⟩ := hs.wd.kap b q hk
        exact ⟨fun hx => h1 (.inl hx), h2, h3⟩
  · have := h.rep.mono he.m he.i
    cases d with
    | none => exact this
    | some d => exact this.set hrr d
  · cases p with
    | c o i =>
      have hk : κ' b = some (.c o i) := hs.own (.c o i) u x b ha hb
      rw [k2 b (hout b _ hk), hk]
    | s i =>
      rcases hslot i u x ha.1 ha.2 with ⟨rfl, rfl, rfl⟩ | ⟨hu, hx⟩
      · have hk : κ' b = some (.s 0) := hs.own (.s 0) u x b ⟨rfl, rfl⟩ hb
        rw [k2 b (hout b _ hk), hk]
        rfl
      · exact k1 b i (h.own (.s i) u x b ⟨hu, hx⟩ hb)
  · cases p with
    | c o i => exact hs.gr (.c o i) u x ha
    | s i =>
      rcases hslot i u x ha.1 ha.2 with ⟨rfl, rfl, rfl⟩ | ⟨hu, hx⟩
      · exact hs.gr (.s 0) u x ⟨rfl, rfl⟩
      · exact grOld i u x hu hx

theorem nogr_nogr' (x : V) : x.nogr.nogr = x.nogr := V.nogr_nogr x

/-- A step: what is behind it. -/
theorem wp_step (h : St M ι X κ w a.tmps.toList ρ σ) (hG : GOK G M ι) {o : Oper} {s : Step} (hd : o.dst = s.dst) (hc : chkIns P o.op s.ins = true) {call : FuncId → List V → Objs → Option (V × Objs)} (hS : ∀ f, Sound P G f (call f))
    {ρ' : List V} {σ' : Objs} (he : ev1 G call s ρ σ = some (ρ', σ')) {next : Act → World → Prop} {Q : Exit → Act → World → Prop}
    (hn : ∀ v w' M' ι' κ', Ext X M ι w M' ι' w' → Kp ι w σ ι' w' σ' → St M' ι' X κ' w' (a.put o.dst v).tmps.toList ρ' σ' → next (a.put o.dst v) w') : o.wp P a w next Q := by
  cases hcall : isCall s.ins with
  | false =>
    obtain ⟨nx, v, w', M', ι', κ', hrun, hnx, ⟨hx, hk, _⟩, hst⟩ := step_all h hG hd hc hcall he
    rw [← put_toList] at hst
    unfold Oper.wp
    rw [hrun]
    rcases hnx with rfl | ⟨rfl, rfl⟩
    · exact hn v w' M' ι' κ' hx hk hst
    · exact hn undef w' M' ι' κ' hx hk hst
  | true =>
    have hA := Opd.of_state h.rep hG
    have fin : ∀ (f : FuncId) (vs : Array Value) (xs : List V) (r : V), (execOp a.eval o).run P w = (callFunc f vs).run P w → Reps M ι vs.toList xs → (∀ x ∈ xs, x.nogr = x) → call f xs σ = some (r, σ') → ρ' = put ρ s.dst r → o.wp P a w next Q := by
      intro f vs xs r hrun hr hng hcl hρ
      have hcs := h.callee hr hng
      have := hS f xs σ r σ' hcl M ι _ _ w vs hcs hG hng
      unfold Oper.wp
      rw [hrun]
      have done : ∀ v w', (∃ M' ι' κ', (Ext (withSlots X κ) M ι w M' ι' w' ∧ Kp ι w σ ι' w' σ') ∧ St M' ι' (withSlots X κ) κ' w' [v] [r] σ') → next (a.put o.dst v) w' := by
        intro v w' ⟨M', ι', κ', ⟨hx, hk⟩, hst⟩
        obtain ⟨κ3, hx3, hst3⟩ := h.behind hx hst o.dst
        rw [← put_toList] at hst3
        rw [hd] at hst3 ⊢
        rw [← hρ] at hst3
        exact hn v w' M' ι' κ3 hx3 hk (by rw [hd]; exact hst3) |> fun q => by rw [hd] at q; exact q
      rcases this with ⟨h1, h2⟩ | ⟨v, w', h1, h2⟩
      · rw [h1]
        exact Calls.mono h2 fun e w' ⟨v, he, hR⟩ => by subst he; exact done v w' hR
      · rw [h1]
        exact done v w' h2
    obtain ⟨dst, gd, i⟩ := s
    obtain ⟨dst', op, type, pos, after, guard⟩ := o
    simp only at hd hc hcall
    subst hd
    unfold ev1 at he
    simp only [Option.bind_eq_bind, Option.bind_eq_some_iff] at he
    obtain ⟨⟨v, σ2⟩, hi, he⟩ := he
    simp only [Option.some.injEq, Prod.mk.injEq] at he
    obtain ⟨rfl, rfl⟩ := he
    cases i <;> (try (cases hcall; done))
    case call f ys =>
      cases op <;> (try (cases hc; done))
      rename_i c
      obtain ⟨callee, args, argTypes⟩ := c
      cases callee <;> (try (cases hc; done))
      rename_i fv
      cases fv <;> (try (cases hc; done))
      rename_i g
      simp only [chkIns, Bool.and_eq_true, beq_iff_eq] at hc
      obtain ⟨rfl, hca⟩ := hc
      simp only [evIns] at hi
      refine fin f (args.map a.eval) (ys.map (arg G ρ)) v ?_ (by rw [Array.toList_map]; exact hA.args hca) (fun x hx => ?_) hi rfl
      · simp only [execOp, resolve, Deferred.ofValue, invoke, sem_bind_run, Act.eval]
        simp [sem_pure_run, Result.andThen]
      · obtain ⟨y, _, rfl⟩ := List.mem_map.1 hx; exact V.nogr_nogr _
    case callv y ys =>
      cases op <;> (try (cases hc; done))
      rename_i c
      obtain ⟨callee, args, argTypes⟩ := c
      cases callee <;> (try (cases hc; done))
      rename_i fv
      simp only [chkIns, Bool.and_eq_true] at hc
      simp only [evIns] at hi
      split at hi
      · rename_i f first caps hy
        have hv := hA.ok _ _ hc.1
        rw [hy] at hv
        obtain ⟨as, bs, hfv, hra, hrb⟩ := hv.inv_fn
        refine fin f ((as ++ args.map a.eval) ++ bs) (((first ++ ys.map (arg G ρ)) ++ caps).map V.nogr) v ?_ ?_ (fun x hx => ?_) hi rfl
        · simp only [execOp, resolve, hfv, Deferred.ofValue, invoke, sem_bind_run]
          simp [sem_pure_run, Result.andThen]
        · simp only [Array.toList_append, Array.toList_map]
          exact ((hra.append (hA.args hc.2)).append hrb).nogr
        · obtain ⟨y, _, rfl⟩ := List.mem_map.1 hx; exact V.nogr_nogr _
      · cases hi
end
end Go.Ev
