/- Regions that draw their order: cells that are locked, objects that are made late. -/
import Derived.Test.YtehbeicmmnjpfaaGreatDoorEvY
set_option linter.unusedSimpArgs false
set_option linter.unusedVariables false
namespace Go.Ev
open Go

mutual
theorem V.beq_eq : ∀ (x y : V), V.beq x y = true → x = y
  | .any, y, h => by cases y <;> simp [V.beq] at h <;> rfl
  | .undef, y, h => by cases y <;> simp [V.beq] at h <;> rfl
  | .nilp, y, h => by cases y <;> simp [V.beq] at h <;> rfl
  | .nils, y, h => by cases y <;> simp [V.beq] at h <;> rfl
  | .nili, y, h => by cases y <;> simp [V.beq] at h <;> rfl
  | .nilf, y, h => by cases y <;> simp [V.beq] at h <;> rfl
  | .nilm, y, h => by cases y <;> simp [V.beq] at h <;> rfl
  | .bool a, y, h => by cases y <;> simp [V.beq] at h; rw [h]
  | .int k a, y, h => by cases y <;> simp [V.beq] at h; rw [h.1, h.2]
  | .str a, y, h => by cases y <;> simp [V.beq] at h; rw [h]
  | .ptr a i, y, h => by cases y <;> simp [V.beq] at h; rw [h.1, h.2]
  | .eptr a i, y, h => by
    cases y <;> simp [V.beq] at h
    rw [V.beqs_eq _ _ h.1, h.2]
  | .sl a i, y, h => by
    cases y <;> simp [V.beq] at h
    rw [V.beqs_eq _ _ h.1, h.2]
  | .hs a b c d e, y, h => by cases y <;> simp [V.beq] at h; obtain ⟨⟨⟨⟨h1, h2⟩, h3⟩, h4⟩, h5⟩ := h; rw [h1, h2, h3, h4, h5]
  | .agg a, y, h => by
    cases y <;> simp [V.beq] at h
    rw [V.beqs_eq _ _ h]
  | .tup a, y, h => by
    cases y <;> simp [V.beq] at h
    rw [V.beqs_eq _ _ h]
  | .ifc t a, y, h => by
    cases y <;> simp [V.beq] at h
    rw [h.1, V.beq_eq _ _ h.2]
  | .fn f a b, y, h => by
    cases y <;> simp [V.beq] at h
    rw [h.1.1, V.beqs_eq _ _ h.1.2, V.beqs_eq _ _ h.2]
  | .mp a, y, h => by cases y <;> simp [V.beq] at h; rw [h]
theorem V.beqs_eq : ∀ (x y : List V), V.beqs x y = true → x = y
  | [], [], _ => rfl
  | [], _ :: _, h => by simp [V.beqs] at h
  | _ :: _, [], h => by simp [V.beqs] at h
  | x :: xs, y :: ys, h => by
    simp only [V.beqs, Bool.and_eq_true] at h
    rw [V.beq_eq x y h.1, V.beqs_eq xs ys h.2]
end

section
variable {P : Program} {M : Mem} {ι : Plc} {X : Nat → Prop} {κ : Own} {w : World} {us : List Value} {ρ : List V} {σ : Objs}

theorem rep_cap {v : Value} {xs : List V} {c c' : Cap} (h : Rep M ι v (.sl xs c)) (hc : c' ≠ .fx) : Rep M ι v (.sl xs c') := by
  cases h with
  | sl _ _ b off cap sz us h1 h2 h3 h4 h5 h6 => exact .sl xs c' b off cap sz us h1 h2 h3 h4 h5 (fun e => absurd e hc)

theorem set_get_ne {σ : Objs} {o o' : Nat} {x : O} (h : o ≠ o') : (σ.set o x)[o']? = σ[o']? := List.getElem?_set_ne h

/-- One cell anew. -/
theorem lkAt_set {cs : List V} {o off : Nat} {y : V} (ho : σ[o]? = some (.cells cs)) {o' i : Nat} : lkAt (σ.set o (.cells (cs.set off y))) o' i ↔ if (o', i) = (o, off) then (y.isLk = true ∧ off < cs.length) else lkAt σ o' i := by
  have hol : o < σ.length := (List.getElem?_eq_some_iff.1 ho).1
  by_cases hoo : o = o'
  · subst hoo
    by_cases hi : off = i
    · subst hi
      rw [if_pos rfl]
      constructor
      · rintro ⟨ds, x, h1, h2, h3⟩
        rw [List.getElem?_set_self hol] at h1
        cases h1
        rw [List.getElem?_set] at h2
        rw [if_pos rfl] at h2
        split at h2
        · cases h2; exact ⟨h3, by assumption⟩
        · cases h2
      · rintro ⟨h1, h2⟩
        exact ⟨_, y, List.getElem?_set_self hol, by rw [List.getElem?_set_self h2], h1⟩
    · rw [if_neg (fun e => hi (by cases e; rfl))]
      constructor
      · rintro ⟨ds, x, h1, h2, h3⟩
        rw [List.getElem?_set_self hol] at h1
        cases h1
        rw [List.getElem?_set_ne hi] at h2
        exact ⟨cs, x, ho, h2, h3⟩
      · rintro ⟨ds, x, h1, h2, h3⟩
        rw [ho] at h1; cases h1
        exact ⟨_, x, List.getElem?_set_self hol, by rw [List.getElem?_set_ne hi]; exact h2, h3⟩
  · rw [if_neg (fun e => hoo (by cases e; rfl))]
    unfold lkAt
    rw [set_get_ne hoo]

theorem lock_spec : ∀ (l : List (Nat × Nat)) (σ σ0 : Objs), lockC σ l = some σ0 → (St M ι X κ w us ρ σ → St M ι X κ w us ρ σ0) ∧ σ0.length = σ.length ∧ ∀ o i, lkAt σ0 o i → lkAt σ o i ∨ (o, i) ∈ l
  | [], σ, σ0, h => by
    simp only [lockC, Option.some.injEq] at h
    subst h
    exact ⟨id, rfl, fun o i h => .inl h⟩
  | (o, off) :: r, σ, σ0, h => by
    simp only [lockC] at h
    split at h
    · rename_i cs hcs
      split at h
      · rename_i xs c hc
        obtain ⟨h1, h2, h3⟩ := lock_spec r _ _ h
        have ho := get_cells hcs
        refine ⟨fun hs => h1 (hs.weakCell ho hc rfl (fun v hr => rep_cap hr (by simp)) (fun v => ?_)), by rw [h2, List.length_set], fun o' i hl => ?_⟩
        · exact ownB_notgr (fun xs s e => by cases e)
        · rcases h3 o' i hl with hl | hl
          · rw [lkAt_set ho] at hl
            split at hl
            · rename_i e; right; rw [e]; exact List.mem_cons_self ..
            · exact .inl hl
          · exact .inr (List.mem_cons_of_mem _ hl)
      · cases h
    · cases h

theorem open_spec : ∀ (l : List (Nat × Nat)) (σ σ0 : Objs), openC σ l = some σ0 → (St M ι X κ w us ρ σ → St M ι X κ w us ρ σ0) ∧ σ0.length = σ.length ∧ (∀ o i, lkAt σ0 o i → lkAt σ o i ∧ (o, i) ∉ l) ∧ ∀ p ∈ l, lkAt σ p.1 p.2
  | [], σ, σ0, h => by
    simp only [openC, Option.some.injEq] at h
    subst h
    exact ⟨id, rfl, fun o i h => ⟨h, by simp⟩, fun p hp => by simp at hp⟩
  | (o, off) :: r, σ, σ0, h => by
    simp only [openC] at h
    split at h
    · rename_i cs hcs
      split at h
      · rename_i xs hc
        obtain ⟨h1, h2, h3, h4⟩ := open_spec r _ _ h
        have ho := get_cells hcs
        refine ⟨fun hs => h1 (hs.weakCell ho hc rfl (fun v hr => rep_cap hr (by simp)) (fun v => ?_)), by rw [h2, List.length_set], fun o' i hl => ?_, fun p hp => ?_⟩
        · exact ownB_notgr (fun xs s e => by cases e)
        · obtain ⟨hl, hn⟩ := h3 o' i hl
          rw [lkAt_set ho] at hl
          split at hl
          · exact absurd hl.1 (by simp [V.isLk])
          · rename_i hne
            exact ⟨hl, fun hm => by
              rcases List.mem_cons.1 hm with hm | hm
              · exact hne hm
              · exact hn hm⟩
        · rcases List.mem_cons.1 hp with rfl | hp
          · exact ⟨cs, _, ho, hc, rfl⟩
          · have := h4 p hp
            rw [lkAt_set ho] at this
            split at this
            · exact absurd this.1 (by simp [V.isLk])
            · exact this
      · cases h
    · cases h

/-- An object that is nowhere yet. -/
theorem St.snoc (h : St M ι X κ w us ρ σ) (O : O) : St M ι X κ w us ρ (σ ++ [O]) := by
  have key : ∀ p v x, At ι w us ρ (σ ++ [O]) p v x → At ι w us ρ σ p v x := by
    intro p v x ha
    cases p with
    | s i => exact ha
    | c o i =>
      obtain ⟨b, ws, T, fz, cs, h1, h2, h3, h4, h5⟩ := ha
      rw [List.getElem?_append_left (h.wd.lt_of h1)] at h3
      exact ⟨b, ws, T, fz, cs, h1, h2, h3, h4, h5⟩
  exact ⟨⟨h.wd.mem, fun o b hi => by
    obtain ⟨O', hO, hr⟩ := h.wd.obj o b hi
    exact ⟨O', by rw [List.getElem?_append_left (h.wd.lt_of hi)]; exact hO, hr⟩, h.wd.olt, h.wd.inj, h.wd.xlt, h.wd.xobj, h.wd.kap⟩, h.rep, fun p v x b ha hb => h.own p v x b (key p v x ha) hb, fun p v x ha => h.gr p v x (key p v x ha)⟩

/-- An object's variable is made. -/
theorem St.mapO (h : St M ι X κ w us ρ σ) {q : Nat} {cs : List V} (hι0 : ι q = none) (hq : σ[q]? = some (.cells cs)) (as : Array Value) (T : TypeId) (fz : Nat × Nat) (hr : Reps M ι (as.toList.take cs.length) cs)
    (hfz : ∀ i, i < cs.length → frozenAt fz i = false) (hone : ∀ c ∈ cs, c.one = true) (hno : ∀ c ∈ cs, ∀ v, ownB v c = none) :
    ∃ M' ι', Ext X M ι w M' ι' (pushB w (.cells as T fz)) ∧ ι' q = some w.heap.size ∧ St M' ι' X κ (pushB w (.cells as T fz)) us ρ σ ∧ ∀ o, o ≠ q → ι' o = ι o := by
  have hst := h.push (.cells as T fz) [] (fun i u hu => by simp at hu)
  have hM := h.wd.pushM_le []
  have hι : PlcLe ι (fun o => if o = q then some w.heap.size else ι o) := ⟨fun o b hb => by
    by_cases ho : o = q
    · subst ho; rw [hι0] at hb; cases hb
    · simp only [ho, if_false]; exact hb⟩
  refine ⟨pushM M w.heap.size [], fun o => if o = q then some w.heap.size else ι o, ⟨hM, hι, fun b i hx => pushM_old (by have := h.wd.xlt b hx; omega), by rw [pushB_size]; omega, fun b hx => pushB_old w _ (h.wd.xlt b hx), rfl, rfl, rfl⟩, by simp, ⟨⟨hst.wd.mem, ?_, ?_, ?_, hst.wd.xlt, ?_, ?_⟩, hst.rep.mono (.refl _) hι, ?_, ?_⟩, fun o ho => by simp [ho]⟩
  · intro o b hb
    by_cases ho : o = q
    · subst ho
      simp only [if_true] at hb
      cases hb
      refine ⟨.cells cs, hq, as, T, fz, pushB_new w _, hr.mono hM hι, hfz, fun i => by rw [pushM_new]; simp, hone⟩
    · simp only [ho, if_false] at hb
      obtain ⟨O, hO, hor⟩ := h.wd.obj o b hb
      exact ⟨O, hO, hor.push h.wd hM (fun b i hb => pushM_old (by omega)) hι _ (h.wd.olt o b hb)⟩
  · intro o b hb
    by_cases ho : o = q
    · simp only [ho, if_true] at hb; cases hb; rw [pushB_size]; omega
    · simp only [ho, if_false] at hb; exact hst.wd.olt o b hb
  · intro o o' b hb hb'
    by_cases ho : o = q
    · by_cases ho' : o' = q
      · rw [ho, ho']
      · simp only [ho, if_true] at hb; simp only [ho', if_false] at hb'
        cases hb; exact absurd hb' (inew h.wd o')
    · by_cases ho' : o' = q
      · simp only [ho, if_false] at hb; simp only [ho', if_true] at hb'
        cases hb'; exact absurd hb (inew h.wd o)
      · simp only [ho, if_false] at hb; simp only [ho', if_false] at hb'
        exact h.wd.inj o o' b hb hb'
  · intro o b hb
    by_cases ho : o = q
    · simp only [ho, if_true] at hb; cases hb; intro hx; have := h.wd.xlt _ hx; omega
    · simp only [ho, if_false] at hb; exact h.wd.xobj o b hb
  · intro b p hp
    obtain ⟨h1, h2, h3⟩ := h.wd.kap b p hp
    refine ⟨h1, fun o ho => ?_, by rw [pushB_size]; omega⟩
    by_cases hoo : o = q
    · simp only [hoo, if_true] at ho; cases ho; omega
    · simp only [hoo, if_false] at ho; exact h2 o ho
  all_goals
    have key : ∀ p v x, At (fun o => if o = q then some w.heap.size else ι o) (pushB w (.cells as T fz)) us ρ σ p v x → At ι (pushB w (.cells as T fz)) us ρ σ p v x ∨ ownB v x = none := by
      intro p v x ha
      cases p with
      | s i => exact .inl ha
      | c o i =>
        obtain ⟨b, ws, T', fz', cs', h1, h2, h3, h4, h5⟩ := ha
        by_cases ho : o = q
        · subst ho
          rw [hq] at h3
          cases h3
          exact .inr (hno x (List.mem_of_getElem? h5) v)
        · simp only [ho, if_false] at h1
          exact .inl ⟨b, ws, T', fz', cs', h1, h2, h3, h4, h5⟩
  · intro p v x b ha hb
    rcases key p v x ha with ha | hn
    · exact hst.own p v x b ha hb
    · rw [hn] at hb; cases hb
  · intro p v x ha
    rcases key p v x ha with ha | hn
    · exact hst.gr p v x ha
    · exact .of_none hn
end
end Go.Ev
